/-
  No cell of these rows narrows 'for every input' (looked for: loops, veiled, ifaces, maps, wideKeys, modest, calm, conditions, laid).
  DERIVED. THE GIVEN ROWS OF THIS SEAT. 8 by the template 'for every input the law returns true; each argument reads behind the call as it read before'; 0 by the template 'total and deterministic' (their statements: YtoeoneiopcagfaaTotals.lean).
  GIVEN WITH THE SEED: the statements are not yours to turn. If you find one false, say at which input.
  Laid BY PROGRAM, IN A SANDBOX (cutbox-rows.mjs): the forced cells as the released guide's own fill.sh prints them over the translation 6b9969e984bb4a3c… (all of the seat's roots in one cut). By AI agents, Wed Nov 11 2026. No macro, syntax, notation, axiom, sorry.
-/
import Derived.Test.YtoeoneiopcagfaaChecked
import GoSem.Claim
import GoSem.ClaimJoined
import GoSem.ClaimMapViews
import Derived.JoinedTies
import Derived.KernelRfl
namespace Go.Proofs.Ytoeoneiopcagfaa
/- THE CELL 'sum', in the pinned program and in every row, IS THE sha256 OF THE DUMP (.gsa) THAT YtoeoneiopcagfaaProg.lean LOADS. Nothing in Lean hashes anything: it is a label: what it is worth is what the hold of that sum in a sandbox is worth. -/
noncomputable def Try.pinned : Pinned := { name := "ytoeoneiopcagfaa", sum := "6b9969e984bb4a3c87da4afd913653b25a835ab740b3d91888746465e3c32272", checked := Try.checked }
namespace Rows
def none {H : Type} : Left H := { results := [], args := [] }

/-- 'baizelaw31.FundApart': WHATEVER THE INPUT: true; the input reads as it did. -/
def fundApartSpec : ChangeSpec := { name := "fundApart", fn := fun _ => fun
  | [d1, d2] => { results := [.lit (.bool true)], args := [d1, d2] }
  | _ => none }
def fundApartRow : OpenClaim := { program := "ytoeoneiopcagfaa", sum := "6b9969e984bb4a3c87da4afd913653b25a835ab740b3d91888746465e3c32272", func := "baize/baizelaw31.FundApart", spec := "fundApart", apart := false }
def FundApartSaid : Prop := fundApartRow.holds Try.pinned (OpenSpec.ofChange fundApartSpec)

/-- ITS FALSE NEIGHBOUR: 'it returns false'. Refute it at one input. -/
def fundApartWrong : ChangeSpec := { name := "fundApart", fn := fun _ => fun
  | [d1, d2] => { results := [.lit (.bool false)], args := [d1, d2] }
  | _ => none }
def FundApartWrongFalsely : Prop := fundApartRow.holds Try.pinned (OpenSpec.ofChange fundApartWrong)

/-- 'baizelaw31.FundTurn': WHATEVER THE INPUT: true; the input reads as it did. -/
def fundTurnSpec : ChangeSpec := { name := "fundTurn", fn := fun _ => fun
  | [d1, d2, d3] => { results := [.lit (.bool true)], args := [d1, d2, d3] }
  | _ => none }
def fundTurnRow : OpenClaim := { program := "ytoeoneiopcagfaa", sum := "6b9969e984bb4a3c87da4afd913653b25a835ab740b3d91888746465e3c32272", func := "baize/baizelaw31.FundTurn", spec := "fundTurn", apart := false }
def FundTurnSaid : Prop := fundTurnRow.holds Try.pinned (OpenSpec.ofChange fundTurnSpec)

/-- ITS FALSE NEIGHBOUR: 'it returns false'. Refute it at one input. -/
def fundTurnWrong : ChangeSpec := { name := "fundTurn", fn := fun _ => fun
  | [d1, d2, d3] => { results := [.lit (.bool false)], args := [d1, d2, d3] }
  | _ => none }
def FundTurnWrongFalsely : Prop := fundTurnRow.holds Try.pinned (OpenSpec.ofChange fundTurnWrong)

/-- 'baizelaw31.FundActs': WHATEVER THE INPUT: true; the input reads as it did. -/
def fundActsSpec : ChangeSpec := { name := "fundActs", fn := fun _ => fun
  | [d1, d2, d3] => { results := [.lit (.bool true)], args := [d1, d2, d3] }
  | _ => none }
def fundActsRow : OpenClaim := { program := "ytoeoneiopcagfaa", sum := "6b9969e984bb4a3c87da4afd913653b25a835ab740b3d91888746465e3c32272", func := "baize/baizelaw31.FundActs", spec := "fundActs", apart := false }
def FundActsSaid : Prop := fundActsRow.holds Try.pinned (OpenSpec.ofChange fundActsSpec)

/-- ITS FALSE NEIGHBOUR: 'it returns false'. Refute it at one input. -/
def fundActsWrong : ChangeSpec := { name := "fundActs", fn := fun _ => fun
  | [d1, d2, d3] => { results := [.lit (.bool false)], args := [d1, d2, d3] }
  | _ => none }
def FundActsWrongFalsely : Prop := fundActsRow.holds Try.pinned (OpenSpec.ofChange fundActsWrong)

/-- 'baizelaw31.FundKeeps': WHATEVER THE INPUT: true; the input reads as it did. -/
def fundKeepsSpec : ChangeSpec := { name := "fundKeeps", fn := fun _ => fun
  | [d1, d2] => { results := [.lit (.bool true)], args := [d1, d2] }
  | _ => none }
def fundKeepsRow : OpenClaim := { program := "ytoeoneiopcagfaa", sum := "6b9969e984bb4a3c87da4afd913653b25a835ab740b3d91888746465e3c32272", func := "baize/baizelaw31.FundKeeps", spec := "fundKeeps", apart := false }
def FundKeepsSaid : Prop := fundKeepsRow.holds Try.pinned (OpenSpec.ofChange fundKeepsSpec)

/-- ITS FALSE NEIGHBOUR: 'it returns false'. Refute it at one input. -/
def fundKeepsWrong : ChangeSpec := { name := "fundKeeps", fn := fun _ => fun
  | [d1, d2] => { results := [.lit (.bool false)], args := [d1, d2] }
  | _ => none }
def FundKeepsWrongFalsely : Prop := fundKeepsRow.holds Try.pinned (OpenSpec.ofChange fundKeepsWrong)

/-- 'baizelaw31.FundLate': WHATEVER THE INPUT: true; the input reads as it did. -/
def fundLateSpec : ChangeSpec := { name := "fundLate", fn := fun _ => fun
  | [d1, d2, d3] => { results := [.lit (.bool true)], args := [d1, d2, d3] }
  | _ => none }
def fundLateRow : OpenClaim := { program := "ytoeoneiopcagfaa", sum := "6b9969e984bb4a3c87da4afd913653b25a835ab740b3d91888746465e3c32272", func := "baize/baizelaw31.FundLate", spec := "fundLate", apart := false }
def FundLateSaid : Prop := fundLateRow.holds Try.pinned (OpenSpec.ofChange fundLateSpec)

/-- ITS FALSE NEIGHBOUR: 'it returns false'. Refute it at one input. -/
def fundLateWrong : ChangeSpec := { name := "fundLate", fn := fun _ => fun
  | [d1, d2, d3] => { results := [.lit (.bool false)], args := [d1, d2, d3] }
  | _ => none }
def FundLateWrongFalsely : Prop := fundLateRow.holds Try.pinned (OpenSpec.ofChange fundLateWrong)

/-- 'baizelaw31.FundAll': WHATEVER THE INPUT: true; the input reads as it did. -/
def fundAllSpec : ChangeSpec := { name := "fundAll", fn := fun _ => fun
  | [d1, d2, d3] => { results := [.lit (.bool true)], args := [d1, d2, d3] }
  | _ => none }
def fundAllRow : OpenClaim := { program := "ytoeoneiopcagfaa", sum := "6b9969e984bb4a3c87da4afd913653b25a835ab740b3d91888746465e3c32272", func := "baize/baizelaw31.FundAll", spec := "fundAll", apart := false }
def FundAllSaid : Prop := fundAllRow.holds Try.pinned (OpenSpec.ofChange fundAllSpec)

/-- ITS FALSE NEIGHBOUR: 'it returns false'. Refute it at one input. -/
def fundAllWrong : ChangeSpec := { name := "fundAll", fn := fun _ => fun
  | [d1, d2, d3] => { results := [.lit (.bool false)], args := [d1, d2, d3] }
  | _ => none }
def FundAllWrongFalsely : Prop := fundAllRow.holds Try.pinned (OpenSpec.ofChange fundAllWrong)

/-- 'baizelaw31.FundClone': WHATEVER THE INPUT: true; the input reads as it did. -/
def fundCloneSpec : ChangeSpec := { name := "fundClone", fn := fun _ => fun
  | [d1, d2, d3] => { results := [.lit (.bool true)], args := [d1, d2, d3] }
  | _ => none }
def fundCloneRow : OpenClaim := { program := "ytoeoneiopcagfaa", sum := "6b9969e984bb4a3c87da4afd913653b25a835ab740b3d91888746465e3c32272", func := "baize/baizelaw31.FundClone", spec := "fundClone", apart := false }
def FundCloneSaid : Prop := fundCloneRow.holds Try.pinned (OpenSpec.ofChange fundCloneSpec)

/-- ITS FALSE NEIGHBOUR: 'it returns false'. Refute it at one input. -/
def fundCloneWrong : ChangeSpec := { name := "fundClone", fn := fun _ => fun
  | [d1, d2, d3] => { results := [.lit (.bool false)], args := [d1, d2, d3] }
  | _ => none }
def FundCloneWrongFalsely : Prop := fundCloneRow.holds Try.pinned (OpenSpec.ofChange fundCloneWrong)

/-- 'baizelaw31.FundNil': WHATEVER THE INPUT: true; the input reads as it did. -/
def fundNilSpec : ChangeSpec := { name := "fundNil", fn := fun _ => fun
  | [d1, d2, d3] => { results := [.lit (.bool true)], args := [d1, d2, d3] }
  | _ => none }
def fundNilRow : OpenClaim := { program := "ytoeoneiopcagfaa", sum := "6b9969e984bb4a3c87da4afd913653b25a835ab740b3d91888746465e3c32272", func := "baize/baizelaw31.FundNil", spec := "fundNil", apart := false }
def FundNilSaid : Prop := fundNilRow.holds Try.pinned (OpenSpec.ofChange fundNilSpec)

/-- ITS FALSE NEIGHBOUR: 'it returns false'. Refute it at one input. -/
def fundNilWrong : ChangeSpec := { name := "fundNil", fn := fun _ => fun
  | [d1, d2, d3] => { results := [.lit (.bool false)], args := [d1, d2, d3] }
  | _ => none }
def FundNilWrongFalsely : Prop := fundNilRow.holds Try.pinned (OpenSpec.ofChange fundNilWrong)

/- THE SECOND FORM. 'bulk': how many values and letters a reading holds, each counted each time it is reached (what is shared counts as often as it is met; a slice's spare places count too). A statement '..UptoSaid' is the law's where the arguments, and the package variables that the reading takes, are together of bulk at most 1048576: NARROWER than '..Said'. Prove '..Said' where nothing that the law and all that it calls make is longer than what came in: it says more and counts as full. Else prove '..UptoSaid'. A law counts once. -/
mutual
def uptoBulk {H : Type} : DataW H → Nat
  | .lit (.string bytes) => bytes.length + 1
  | .lit _ => 1
  | .nil => 1
  | .ptr d => uptoBulk d + 1
  | .slice elems spare => uptoBulkAll elems + uptoBulkAll spare + 1
  | .agg parts => uptoBulkAll parts + 1
  | .iface _ d => uptoBulk d + 1
  | .map entries => uptoBulkEntries entries + 1
  | .held _ => 1
def uptoBulkAll {H : Type} : List (DataW H) → Nat
  | [] => 0
  | d :: r => uptoBulk d + uptoBulkAll r
def uptoBulkEntries {H : Type} : List (Lit × DataW H) → Nat
  | [] => 0
  | x :: r => uptoBulkEntry x + uptoBulkEntries r
def uptoBulkEntry {H : Type} : Lit × DataW H → Nat
  | (.string bytes, d) => bytes.length + uptoBulk d + 1
  | (_, d) => uptoBulk d + 1
 end
def uptoSmall : (H : Type) → List (DataW H) → Bool := fun _ ds => decide (uptoBulkAll ds ≤ 1048576)
def OpenSpec.upto (s : _root_.Go.ChangeSpec) : _root_.Go.OpenSpec := { _root_.Go.OpenSpec.ofChange s with cond := some uptoSmall }

/-- 'baizelaw31.FundApart', WHERE WHAT IT READS IS OF BULK AT MOST 1048576: true; the input reads as it did. -/
def fundApartUptoRow : OpenClaim := { program := "ytoeoneiopcagfaa", sum := "6b9969e984bb4a3c87da4afd913653b25a835ab740b3d91888746465e3c32272", func := "baize/baizelaw31.FundApart", spec := "fundApart", apart := false, narrowed := true }
def FundApartUptoSaid : Prop := fundApartUptoRow.holds Try.pinned (OpenSpec.upto fundApartSpec)

/-- 'baizelaw31.FundTurn', WHERE WHAT IT READS IS OF BULK AT MOST 1048576: true; the input reads as it did. -/
def fundTurnUptoRow : OpenClaim := { program := "ytoeoneiopcagfaa", sum := "6b9969e984bb4a3c87da4afd913653b25a835ab740b3d91888746465e3c32272", func := "baize/baizelaw31.FundTurn", spec := "fundTurn", apart := false, narrowed := true }
def FundTurnUptoSaid : Prop := fundTurnUptoRow.holds Try.pinned (OpenSpec.upto fundTurnSpec)

/-- 'baizelaw31.FundActs', WHERE WHAT IT READS IS OF BULK AT MOST 1048576: true; the input reads as it did. -/
def fundActsUptoRow : OpenClaim := { program := "ytoeoneiopcagfaa", sum := "6b9969e984bb4a3c87da4afd913653b25a835ab740b3d91888746465e3c32272", func := "baize/baizelaw31.FundActs", spec := "fundActs", apart := false, narrowed := true }
def FundActsUptoSaid : Prop := fundActsUptoRow.holds Try.pinned (OpenSpec.upto fundActsSpec)

/-- 'baizelaw31.FundKeeps', WHERE WHAT IT READS IS OF BULK AT MOST 1048576: true; the input reads as it did. -/
def fundKeepsUptoRow : OpenClaim := { program := "ytoeoneiopcagfaa", sum := "6b9969e984bb4a3c87da4afd913653b25a835ab740b3d91888746465e3c32272", func := "baize/baizelaw31.FundKeeps", spec := "fundKeeps", apart := false, narrowed := true }
def FundKeepsUptoSaid : Prop := fundKeepsUptoRow.holds Try.pinned (OpenSpec.upto fundKeepsSpec)

/-- 'baizelaw31.FundLate', WHERE WHAT IT READS IS OF BULK AT MOST 1048576: true; the input reads as it did. -/
def fundLateUptoRow : OpenClaim := { program := "ytoeoneiopcagfaa", sum := "6b9969e984bb4a3c87da4afd913653b25a835ab740b3d91888746465e3c32272", func := "baize/baizelaw31.FundLate", spec := "fundLate", apart := false, narrowed := true }
def FundLateUptoSaid : Prop := fundLateUptoRow.holds Try.pinned (OpenSpec.upto fundLateSpec)

/-- 'baizelaw31.FundAll', WHERE WHAT IT READS IS OF BULK AT MOST 1048576: true; the input reads as it did. -/
def fundAllUptoRow : OpenClaim := { program := "ytoeoneiopcagfaa", sum := "6b9969e984bb4a3c87da4afd913653b25a835ab740b3d91888746465e3c32272", func := "baize/baizelaw31.FundAll", spec := "fundAll", apart := false, narrowed := true }
def FundAllUptoSaid : Prop := fundAllUptoRow.holds Try.pinned (OpenSpec.upto fundAllSpec)

/-- 'baizelaw31.FundClone', WHERE WHAT IT READS IS OF BULK AT MOST 1048576: true; the input reads as it did. -/
def fundCloneUptoRow : OpenClaim := { program := "ytoeoneiopcagfaa", sum := "6b9969e984bb4a3c87da4afd913653b25a835ab740b3d91888746465e3c32272", func := "baize/baizelaw31.FundClone", spec := "fundClone", apart := false, narrowed := true }
def FundCloneUptoSaid : Prop := fundCloneUptoRow.holds Try.pinned (OpenSpec.upto fundCloneSpec)

/-- 'baizelaw31.FundNil', WHERE WHAT IT READS IS OF BULK AT MOST 1048576: true; the input reads as it did. -/
def fundNilUptoRow : OpenClaim := { program := "ytoeoneiopcagfaa", sum := "6b9969e984bb4a3c87da4afd913653b25a835ab740b3d91888746465e3c32272", func := "baize/baizelaw31.FundNil", spec := "fundNil", apart := false, narrowed := true }
def FundNilUptoSaid : Prop := fundNilUptoRow.holds Try.pinned (OpenSpec.upto fundNilSpec)

end Rows
end Go.Proofs.Ytoeoneiopcagfaa
