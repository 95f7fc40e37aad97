/-
  No cell of these rows narrows 'for every input' (looked for: loops, veiled, ifaces, maps, wideKeys, modest, calm, conditions, laid).
  DERIVED. THE GIVEN ROWS OF THIS SEAT. 7 by the template 'for every input the law returns true; each argument reads behind the call as it read before'; 0 by the template 'total and deterministic' (their statements: YtmdmgmddblokoaaTotals.lean).
  GIVEN WITH THE SEED: the statements are not yours to turn. If you find one false, say at which input.
  Laid BY PROGRAM, IN A SANDBOX (cutbox-rows.mjs): the forced cells as the released guide's own fill.sh prints them over the translation 7bcbdb7bcd31b391… (all of the seat's roots in one cut). By AI agents, Wed Nov 11 2026. No macro, syntax, notation, axiom, sorry.
-/
import Derived.Test.YtmdmgmddblokoaaChecked
import GoSem.Claim
import GoSem.ClaimJoined
import GoSem.ClaimMapViews
import Derived.JoinedTies
import Derived.KernelRfl
namespace Go.Proofs.Ytmdmgmddblokoaa
/- THE CELL 'sum', in the pinned program and in every row, IS THE sha256 OF THE DUMP (.gsa) THAT YtmdmgmddblokoaaProg.lean LOADS. Nothing in Lean hashes anything: it is a label: what it is worth is what the hold of that sum in a sandbox is worth. -/
noncomputable def Try.pinned : Pinned := { name := "ytmdmgmddblokoaa", sum := "7bcbdb7bcd31b391b12e49bd696f6060f74a227f2eab1d1ffbf17c0f7c687f10", checked := Try.checked }
namespace Rows
def none {H : Type} : Left H := { results := [], args := [] }

/-- 'baizelaw03.CoinSplits': WHATEVER THE INPUT: true; the input reads as it did. -/
def coinSplitsSpec : ChangeSpec := { name := "coinSplits", fn := fun _ => fun
  | [d1, d2] => { results := [.lit (.bool true)], args := [d1, d2] }
  | _ => none }
def coinSplitsRow : OpenClaim := { program := "ytmdmgmddblokoaa", sum := "7bcbdb7bcd31b391b12e49bd696f6060f74a227f2eab1d1ffbf17c0f7c687f10", func := "baize/baizelaw03.CoinSplits", spec := "coinSplits", apart := false }
def CoinSplitsSaid : Prop := coinSplitsRow.holds Try.pinned (OpenSpec.ofChange coinSplitsSpec)

/-- ITS FALSE NEIGHBOUR: 'it returns false'. Refute it at one input. -/
def coinSplitsWrong : ChangeSpec := { name := "coinSplits", fn := fun _ => fun
  | [d1, d2] => { results := [.lit (.bool false)], args := [d1, d2] }
  | _ => none }
def CoinSplitsWrongFalsely : Prop := coinSplitsRow.holds Try.pinned (OpenSpec.ofChange coinSplitsWrong)

/-- 'baizelaw03.CoinPots': WHATEVER THE INPUT: true; the input reads as it did. -/
def coinPotsSpec : ChangeSpec := { name := "coinPots", fn := fun _ => fun
  | [d1, d2, d3] => { results := [.lit (.bool true)], args := [d1, d2, d3] }
  | _ => none }
def coinPotsRow : OpenClaim := { program := "ytmdmgmddblokoaa", sum := "7bcbdb7bcd31b391b12e49bd696f6060f74a227f2eab1d1ffbf17c0f7c687f10", func := "baize/baizelaw03.CoinPots", spec := "coinPots", apart := false }
def CoinPotsSaid : Prop := coinPotsRow.holds Try.pinned (OpenSpec.ofChange coinPotsSpec)

/-- ITS FALSE NEIGHBOUR: 'it returns false'. Refute it at one input. -/
def coinPotsWrong : ChangeSpec := { name := "coinPots", fn := fun _ => fun
  | [d1, d2, d3] => { results := [.lit (.bool false)], args := [d1, d2, d3] }
  | _ => none }
def CoinPotsWrongFalsely : Prop := coinPotsRow.holds Try.pinned (OpenSpec.ofChange coinPotsWrong)

/-- 'baizelaw03.CoinApart': WHATEVER THE INPUT: true; the input reads as it did. -/
def coinApartSpec : ChangeSpec := { name := "coinApart", fn := fun _ => fun
  | [d1, d2, d3] => { results := [.lit (.bool true)], args := [d1, d2, d3] }
  | _ => none }
def coinApartRow : OpenClaim := { program := "ytmdmgmddblokoaa", sum := "7bcbdb7bcd31b391b12e49bd696f6060f74a227f2eab1d1ffbf17c0f7c687f10", func := "baize/baizelaw03.CoinApart", spec := "coinApart", apart := false }
def CoinApartSaid : Prop := coinApartRow.holds Try.pinned (OpenSpec.ofChange coinApartSpec)

/-- ITS FALSE NEIGHBOUR: 'it returns false'. Refute it at one input. -/
def coinApartWrong : ChangeSpec := { name := "coinApart", fn := fun _ => fun
  | [d1, d2, d3] => { results := [.lit (.bool false)], args := [d1, d2, d3] }
  | _ => none }
def CoinApartWrongFalsely : Prop := coinApartRow.holds Try.pinned (OpenSpec.ofChange coinApartWrong)

/-- 'baizelaw03.CoinNil': WHATEVER THE INPUT: true; the input reads as it did. -/
def coinNilSpec : ChangeSpec := { name := "coinNil", fn := fun _ => fun
  | [d1, d2] => { results := [.lit (.bool true)], args := [d1, d2] }
  | _ => none }
def coinNilRow : OpenClaim := { program := "ytmdmgmddblokoaa", sum := "7bcbdb7bcd31b391b12e49bd696f6060f74a227f2eab1d1ffbf17c0f7c687f10", func := "baize/baizelaw03.CoinNil", spec := "coinNil", apart := false }
def CoinNilSaid : Prop := coinNilRow.holds Try.pinned (OpenSpec.ofChange coinNilSpec)

/-- ITS FALSE NEIGHBOUR: 'it returns false'. Refute it at one input. -/
def coinNilWrong : ChangeSpec := { name := "coinNil", fn := fun _ => fun
  | [d1, d2] => { results := [.lit (.bool false)], args := [d1, d2] }
  | _ => none }
def CoinNilWrongFalsely : Prop := coinNilRow.holds Try.pinned (OpenSpec.ofChange coinNilWrong)

/-- 'baizelaw03.CoinBack': WHATEVER THE INPUT: true; the input reads as it did. -/
def coinBackSpec : ChangeSpec := { name := "coinBack", fn := fun _ => fun
  | [d1, d2] => { results := [.lit (.bool true)], args := [d1, d2] }
  | _ => none }
def coinBackRow : OpenClaim := { program := "ytmdmgmddblokoaa", sum := "7bcbdb7bcd31b391b12e49bd696f6060f74a227f2eab1d1ffbf17c0f7c687f10", func := "baize/baizelaw03.CoinBack", spec := "coinBack", apart := false }
def CoinBackSaid : Prop := coinBackRow.holds Try.pinned (OpenSpec.ofChange coinBackSpec)

/-- ITS FALSE NEIGHBOUR: 'it returns false'. Refute it at one input. -/
def coinBackWrong : ChangeSpec := { name := "coinBack", fn := fun _ => fun
  | [d1, d2] => { results := [.lit (.bool false)], args := [d1, d2] }
  | _ => none }
def CoinBackWrongFalsely : Prop := coinBackRow.holds Try.pinned (OpenSpec.ofChange coinBackWrong)

/-- 'baizelaw03.CoinKeeps': WHATEVER THE INPUT: true; the input reads as it did. -/
def coinKeepsSpec : ChangeSpec := { name := "coinKeeps", fn := fun _ => fun
  | [d1, d2, d3] => { results := [.lit (.bool true)], args := [d1, d2, d3] }
  | _ => none }
def coinKeepsRow : OpenClaim := { program := "ytmdmgmddblokoaa", sum := "7bcbdb7bcd31b391b12e49bd696f6060f74a227f2eab1d1ffbf17c0f7c687f10", func := "baize/baizelaw03.CoinKeeps", spec := "coinKeeps", apart := false }
def CoinKeepsSaid : Prop := coinKeepsRow.holds Try.pinned (OpenSpec.ofChange coinKeepsSpec)

/-- ITS FALSE NEIGHBOUR: 'it returns false'. Refute it at one input. -/
def coinKeepsWrong : ChangeSpec := { name := "coinKeeps", fn := fun _ => fun
  | [d1, d2, d3] => { results := [.lit (.bool false)], args := [d1, d2, d3] }
  | _ => none }
def CoinKeepsWrongFalsely : Prop := coinKeepsRow.holds Try.pinned (OpenSpec.ofChange coinKeepsWrong)

/-- 'baizelaw03.CoinSums': WHATEVER THE INPUT: true; the input reads as it did. -/
def coinSumsSpec : ChangeSpec := { name := "coinSums", fn := fun _ => fun
  | [d1, d2, d3] => { results := [.lit (.bool true)], args := [d1, d2, d3] }
  | _ => none }
def coinSumsRow : OpenClaim := { program := "ytmdmgmddblokoaa", sum := "7bcbdb7bcd31b391b12e49bd696f6060f74a227f2eab1d1ffbf17c0f7c687f10", func := "baize/baizelaw03.CoinSums", spec := "coinSums", apart := false }
def CoinSumsSaid : Prop := coinSumsRow.holds Try.pinned (OpenSpec.ofChange coinSumsSpec)

/-- ITS FALSE NEIGHBOUR: 'it returns false'. Refute it at one input. -/
def coinSumsWrong : ChangeSpec := { name := "coinSums", fn := fun _ => fun
  | [d1, d2, d3] => { results := [.lit (.bool false)], args := [d1, d2, d3] }
  | _ => none }
def CoinSumsWrongFalsely : Prop := coinSumsRow.holds Try.pinned (OpenSpec.ofChange coinSumsWrong)

/- THE SECOND FORM. 'bulk': how many values and letters a reading holds, each counted each time it is reached (what is shared counts as often as it is met; a slice's spare places count too). A statement '..UptoSaid' is the law's where the arguments, and the package variables that the reading takes, are together of bulk at most 1048576: NARROWER than '..Said'. Prove '..Said' where nothing that the law and all that it calls make is longer than what came in: it says more and counts as full. Else prove '..UptoSaid'. A law counts once. -/
mutual
def uptoBulk {H : Type} : DataW H → Nat
  | .lit (.string bytes) => bytes.length + 1
  | .lit _ => 1
  | .nil => 1
  | .ptr d => uptoBulk d + 1
  | .slice elems spare => uptoBulkAll elems + uptoBulkAll spare + 1
  | .agg parts => uptoBulkAll parts + 1
  | .iface _ d => uptoBulk d + 1
  | .map entries => uptoBulkEntries entries + 1
  | .held _ => 1
def uptoBulkAll {H : Type} : List (DataW H) → Nat
  | [] => 0
  | d :: r => uptoBulk d + uptoBulkAll r
def uptoBulkEntries {H : Type} : List (Lit × DataW H) → Nat
  | [] => 0
  | x :: r => uptoBulkEntry x + uptoBulkEntries r
def uptoBulkEntry {H : Type} : Lit × DataW H → Nat
  | (.string bytes, d) => bytes.length + uptoBulk d + 1
  | (_, d) => uptoBulk d + 1
 end
def uptoSmall : (H : Type) → List (DataW H) → Bool := fun _ ds => decide (uptoBulkAll ds ≤ 1048576)
def OpenSpec.upto (s : _root_.Go.ChangeSpec) : _root_.Go.OpenSpec := { _root_.Go.OpenSpec.ofChange s with cond := some uptoSmall }

/-- 'baizelaw03.CoinSplits', WHERE WHAT IT READS IS OF BULK AT MOST 1048576: true; the input reads as it did. -/
def coinSplitsUptoRow : OpenClaim := { program := "ytmdmgmddblokoaa", sum := "7bcbdb7bcd31b391b12e49bd696f6060f74a227f2eab1d1ffbf17c0f7c687f10", func := "baize/baizelaw03.CoinSplits", spec := "coinSplits", apart := false, narrowed := true }
def CoinSplitsUptoSaid : Prop := coinSplitsUptoRow.holds Try.pinned (OpenSpec.upto coinSplitsSpec)

/-- 'baizelaw03.CoinPots', WHERE WHAT IT READS IS OF BULK AT MOST 1048576: true; the input reads as it did. -/
def coinPotsUptoRow : OpenClaim := { program := "ytmdmgmddblokoaa", sum := "7bcbdb7bcd31b391b12e49bd696f6060f74a227f2eab1d1ffbf17c0f7c687f10", func := "baize/baizelaw03.CoinPots", spec := "coinPots", apart := false, narrowed := true }
def CoinPotsUptoSaid : Prop := coinPotsUptoRow.holds Try.pinned (OpenSpec.upto coinPotsSpec)

/-- 'baizelaw03.CoinApart', WHERE WHAT IT READS IS OF BULK AT MOST 1048576: true; the input reads as it did. -/
def coinApartUptoRow : OpenClaim := { program := "ytmdmgmddblokoaa", sum := "7bcbdb7bcd31b391b12e49bd696f6060f74a227f2eab1d1ffbf17c0f7c687f10", func := "baize/baizelaw03.CoinApart", spec := "coinApart", apart := false, narrowed := true }
def CoinApartUptoSaid : Prop := coinApartUptoRow.holds Try.pinned (OpenSpec.upto coinApartSpec)

/-- 'baizelaw03.CoinNil', WHERE WHAT IT READS IS OF BULK AT MOST 1048576: true; the input reads as it did. -/
def coinNilUptoRow : OpenClaim := { program := "ytmdmgmddblokoaa", sum := "7bcbdb7bcd31b391b12e49bd696f6060f74a227f2eab1d1ffbf17c0f7c687f10", func := "baize/baizelaw03.CoinNil", spec := "coinNil", apart := false, narrowed := true }
def CoinNilUptoSaid : Prop := coinNilUptoRow.holds Try.pinned (OpenSpec.upto coinNilSpec)

/-- 'baizelaw03.CoinBack', WHERE WHAT IT READS IS OF BULK AT MOST 1048576: true; the input reads as it did. -/
def coinBackUptoRow : OpenClaim := { program := "ytmdmgmddblokoaa", sum := "7bcbdb7bcd31b391b12e49bd696f6060f74a227f2eab1d1ffbf17c0f7c687f10", func := "baize/baizelaw03.CoinBack", spec := "coinBack", apart := false, narrowed := true }
def CoinBackUptoSaid : Prop := coinBackUptoRow.holds Try.pinned (OpenSpec.upto coinBackSpec)

/-- 'baizelaw03.CoinKeeps', WHERE WHAT IT READS IS OF BULK AT MOST 1048576: true; the input reads as it did. -/
def coinKeepsUptoRow : OpenClaim := { program := "ytmdmgmddblokoaa", sum := "7bcbdb7bcd31b391b12e49bd696f6060f74a227f2eab1d1ffbf17c0f7c687f10", func := "baize/baizelaw03.CoinKeeps", spec := "coinKeeps", apart := false, narrowed := true }
def CoinKeepsUptoSaid : Prop := coinKeepsUptoRow.holds Try.pinned (OpenSpec.upto coinKeepsSpec)

/-- 'baizelaw03.CoinSums', WHERE WHAT IT READS IS OF BULK AT MOST 1048576: true; the input reads as it did. -/
def coinSumsUptoRow : OpenClaim := { program := "ytmdmgmddblokoaa", sum := "7bcbdb7bcd31b391b12e49bd696f6060f74a227f2eab1d1ffbf17c0f7c687f10", func := "baize/baizelaw03.CoinSums", spec := "coinSums", apart := false, narrowed := true }
def CoinSumsUptoSaid : Prop := coinSumsUptoRow.holds Try.pinned (OpenSpec.upto coinSumsSpec)

end Rows
end Go.Proofs.Ytmdmgmddblokoaa
