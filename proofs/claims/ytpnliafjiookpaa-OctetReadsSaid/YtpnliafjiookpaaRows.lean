/-
  No cell of these rows narrows 'for every input' (looked for: loops, veiled, ifaces, maps, wideKeys, modest, calm, conditions, laid).
  DERIVED. THE GIVEN ROWS OF THIS SEAT. 9 by the template 'for every input the law returns true; each argument reads behind the call as it read before'; 0 by the template 'total and deterministic' (their statements: YtpnliafjiookpaaTotals.lean).
  GIVEN WITH THE SEED: the statements are not yours to turn. If you find one false, say at which input.
  Laid BY PROGRAM, IN A SANDBOX (cutbox-rows.mjs): the forced cells as the released guide's own fill.sh prints them over the translation 73540068a3816100… (all of the seat's roots in one cut). By AI agents, Wed Nov 11 2026. No macro, syntax, notation, axiom, sorry.
-/
import Derived.Test.YtpnliafjiookpaaChecked
import GoSem.Claim
import GoSem.ClaimJoined
import GoSem.ClaimMapViews
import Derived.JoinedTies
import Derived.KernelRfl
namespace Go.Proofs.Ytpnliafjiookpaa
/- THE CELL 'sum', in the pinned program and in every row, IS THE sha256 OF THE DUMP (.gsa) THAT YtpnliafjiookpaaProg.lean LOADS. Nothing in Lean hashes anything: it is a label: what it is worth is what the hold of that sum in a sandbox is worth. -/
noncomputable def Try.pinned : Pinned := { name := "ytpnliafjiookpaa", sum := "73540068a3816100c50c3f9967c08032fc915452f474b7e040eb1b34198564ca", checked := Try.checked }
namespace Rows
def none {H : Type} : Left H := { results := [], args := [] }

/-- 'baizelaw01.OctetPuts': WHATEVER THE INPUT: true; the input reads as it did. -/
def octetPutsSpec : ChangeSpec := { name := "octetPuts", fn := fun _ => fun
  | [d1, d2, d3, d4] => { results := [.lit (.bool true)], args := [d1, d2, d3, d4] }
  | _ => none }
def octetPutsRow : OpenClaim := { program := "ytpnliafjiookpaa", sum := "73540068a3816100c50c3f9967c08032fc915452f474b7e040eb1b34198564ca", func := "baize/baizelaw01.OctetPuts", spec := "octetPuts", apart := false }
def OctetPutsSaid : Prop := octetPutsRow.holds Try.pinned (OpenSpec.ofChange octetPutsSpec)

/-- ITS FALSE NEIGHBOUR: 'it returns false'. Refute it at one input. -/
def octetPutsWrong : ChangeSpec := { name := "octetPuts", fn := fun _ => fun
  | [d1, d2, d3, d4] => { results := [.lit (.bool false)], args := [d1, d2, d3, d4] }
  | _ => none }
def OctetPutsWrongFalsely : Prop := octetPutsRow.holds Try.pinned (OpenSpec.ofChange octetPutsWrong)

/-- 'baizelaw01.OctetApart': WHATEVER THE INPUT: true; the input reads as it did. -/
def octetApartSpec : ChangeSpec := { name := "octetApart", fn := fun _ => fun
  | [d1, d2, d3, d4] => { results := [.lit (.bool true)], args := [d1, d2, d3, d4] }
  | _ => none }
def octetApartRow : OpenClaim := { program := "ytpnliafjiookpaa", sum := "73540068a3816100c50c3f9967c08032fc915452f474b7e040eb1b34198564ca", func := "baize/baizelaw01.OctetApart", spec := "octetApart", apart := false }
def OctetApartSaid : Prop := octetApartRow.holds Try.pinned (OpenSpec.ofChange octetApartSpec)

/-- ITS FALSE NEIGHBOUR: 'it returns false'. Refute it at one input. -/
def octetApartWrong : ChangeSpec := { name := "octetApart", fn := fun _ => fun
  | [d1, d2, d3, d4] => { results := [.lit (.bool false)], args := [d1, d2, d3, d4] }
  | _ => none }
def OctetApartWrongFalsely : Prop := octetApartRow.holds Try.pinned (OpenSpec.ofChange octetApartWrong)

/-- 'baizelaw01.OctetShort': WHATEVER THE INPUT: true; the input reads as it did. -/
def octetShortSpec : ChangeSpec := { name := "octetShort", fn := fun _ => fun
  | [d1, d2] => { results := [.lit (.bool true)], args := [d1, d2] }
  | _ => none }
def octetShortRow : OpenClaim := { program := "ytpnliafjiookpaa", sum := "73540068a3816100c50c3f9967c08032fc915452f474b7e040eb1b34198564ca", func := "baize/baizelaw01.OctetShort", spec := "octetShort", apart := false }
def OctetShortSaid : Prop := octetShortRow.holds Try.pinned (OpenSpec.ofChange octetShortSpec)

/-- ITS FALSE NEIGHBOUR: 'it returns false'. Refute it at one input. -/
def octetShortWrong : ChangeSpec := { name := "octetShort", fn := fun _ => fun
  | [d1, d2] => { results := [.lit (.bool false)], args := [d1, d2] }
  | _ => none }
def OctetShortWrongFalsely : Prop := octetShortRow.holds Try.pinned (OpenSpec.ofChange octetShortWrong)

/-- 'baizelaw01.OctetInts': WHATEVER THE INPUT: true; the input reads as it did. -/
def octetIntsSpec : ChangeSpec := { name := "octetInts", fn := fun _ => fun
  | [d] => { results := [.lit (.bool true)], args := [d] }
  | _ => none }
def octetIntsRow : OpenClaim := { program := "ytpnliafjiookpaa", sum := "73540068a3816100c50c3f9967c08032fc915452f474b7e040eb1b34198564ca", func := "baize/baizelaw01.OctetInts", spec := "octetInts", unfollowed := true, recurses := true, apart := false }
def OctetIntsSaid : Prop := octetIntsRow.holds Try.pinned (OpenSpec.ofChange octetIntsSpec)

/-- ITS FALSE NEIGHBOUR: 'it returns false'. Refute it at one input. -/
def octetIntsWrong : ChangeSpec := { name := "octetInts", fn := fun _ => fun
  | [d] => { results := [.lit (.bool false)], args := [d] }
  | _ => none }
def OctetIntsWrongFalsely : Prop := octetIntsRow.holds Try.pinned (OpenSpec.ofChange octetIntsWrong)

/-- 'baizelaw01.OctetOnce': WHATEVER THE INPUT: true; the input reads as it did. -/
def octetOnceSpec : ChangeSpec := { name := "octetOnce", fn := fun _ => fun
  | [d] => { results := [.lit (.bool true)], args := [d] }
  | _ => none }
def octetOnceRow : OpenClaim := { program := "ytpnliafjiookpaa", sum := "73540068a3816100c50c3f9967c08032fc915452f474b7e040eb1b34198564ca", func := "baize/baizelaw01.OctetOnce", spec := "octetOnce", unfollowed := true, recurses := true, apart := false }
def OctetOnceSaid : Prop := octetOnceRow.holds Try.pinned (OpenSpec.ofChange octetOnceSpec)

/-- ITS FALSE NEIGHBOUR: 'it returns false'. Refute it at one input. -/
def octetOnceWrong : ChangeSpec := { name := "octetOnce", fn := fun _ => fun
  | [d] => { results := [.lit (.bool false)], args := [d] }
  | _ => none }
def OctetOnceWrongFalsely : Prop := octetOnceRow.holds Try.pinned (OpenSpec.ofChange octetOnceWrong)

/-- 'baizelaw01.OctetCut': WHATEVER THE INPUT: true; the input reads as it did. -/
def octetCutSpec : ChangeSpec := { name := "octetCut", fn := fun _ => fun
  | [d1, d2, d3] => { results := [.lit (.bool true)], args := [d1, d2, d3] }
  | _ => none }
def octetCutRow : OpenClaim := { program := "ytpnliafjiookpaa", sum := "73540068a3816100c50c3f9967c08032fc915452f474b7e040eb1b34198564ca", func := "baize/baizelaw01.OctetCut", spec := "octetCut", unfollowed := true, recurses := true, apart := false }
def OctetCutSaid : Prop := octetCutRow.holds Try.pinned (OpenSpec.ofChange octetCutSpec)

/-- ITS FALSE NEIGHBOUR: 'it returns false'. Refute it at one input. -/
def octetCutWrong : ChangeSpec := { name := "octetCut", fn := fun _ => fun
  | [d1, d2, d3] => { results := [.lit (.bool false)], args := [d1, d2, d3] }
  | _ => none }
def OctetCutWrongFalsely : Prop := octetCutRow.holds Try.pinned (OpenSpec.ofChange octetCutWrong)

/-- 'baizelaw01.OctetNil': WHATEVER THE INPUT: true; the input reads as it did. -/
def octetNilSpec : ChangeSpec := { name := "octetNil", fn := fun _ => fun
  | [d1, d2] => { results := [.lit (.bool true)], args := [d1, d2] }
  | _ => none }
def octetNilRow : OpenClaim := { program := "ytpnliafjiookpaa", sum := "73540068a3816100c50c3f9967c08032fc915452f474b7e040eb1b34198564ca", func := "baize/baizelaw01.OctetNil", spec := "octetNil", unfollowed := true, recurses := true, apart := false }
def OctetNilSaid : Prop := octetNilRow.holds Try.pinned (OpenSpec.ofChange octetNilSpec)

/-- ITS FALSE NEIGHBOUR: 'it returns false'. Refute it at one input. -/
def octetNilWrong : ChangeSpec := { name := "octetNil", fn := fun _ => fun
  | [d1, d2] => { results := [.lit (.bool false)], args := [d1, d2] }
  | _ => none }
def OctetNilWrongFalsely : Prop := octetNilRow.holds Try.pinned (OpenSpec.ofChange octetNilWrong)

/-- 'baizelaw01.OctetReads': WHATEVER THE INPUT: true; the input reads as it did. -/
def octetReadsSpec : ChangeSpec := { name := "octetReads", fn := fun _ => fun
  | [d1, d2] => { results := [.lit (.bool true)], args := [d1, d2] }
  | _ => none }
def octetReadsRow : OpenClaim := { program := "ytpnliafjiookpaa", sum := "73540068a3816100c50c3f9967c08032fc915452f474b7e040eb1b34198564ca", func := "baize/baizelaw01.OctetReads", spec := "octetReads", unfollowed := true, recurses := true, apart := false }
def OctetReadsSaid : Prop := octetReadsRow.holds Try.pinned (OpenSpec.ofChange octetReadsSpec)

/-- ITS FALSE NEIGHBOUR: 'it returns false'. Refute it at one input. -/
def octetReadsWrong : ChangeSpec := { name := "octetReads", fn := fun _ => fun
  | [d1, d2] => { results := [.lit (.bool false)], args := [d1, d2] }
  | _ => none }
def OctetReadsWrongFalsely : Prop := octetReadsRow.holds Try.pinned (OpenSpec.ofChange octetReadsWrong)

/-- 'baizelaw01.OctetThere': WHATEVER THE INPUT: true; the input reads as it did. -/
def octetThereSpec : ChangeSpec := { name := "octetThere", fn := fun _ => fun
  | [d1, d2, d3] => { results := [.lit (.bool true)], args := [d1, d2, d3] }
  | _ => none }
def octetThereRow : OpenClaim := { program := "ytpnliafjiookpaa", sum := "73540068a3816100c50c3f9967c08032fc915452f474b7e040eb1b34198564ca", func := "baize/baizelaw01.OctetThere", spec := "octetThere", unfollowed := true, recurses := true, apart := false }
def OctetThereSaid : Prop := octetThereRow.holds Try.pinned (OpenSpec.ofChange octetThereSpec)

/-- ITS FALSE NEIGHBOUR: 'it returns false'. Refute it at one input. -/
def octetThereWrong : ChangeSpec := { name := "octetThere", fn := fun _ => fun
  | [d1, d2, d3] => { results := [.lit (.bool false)], args := [d1, d2, d3] }
  | _ => none }
def OctetThereWrongFalsely : Prop := octetThereRow.holds Try.pinned (OpenSpec.ofChange octetThereWrong)

/- THE SECOND FORM. 'bulk': how many values and letters a reading holds, each counted each time it is reached (what is shared counts as often as it is met; a slice's spare places count too). A statement '..UptoSaid' is the law's where the arguments, and the package variables that the reading takes, are together of bulk at most 1048576: NARROWER than '..Said'. Prove '..Said' where nothing that the law and all that it calls make is longer than what came in: it says more and counts as full. Else prove '..UptoSaid'. A law counts once. -/
mutual
def uptoBulk {H : Type} : DataW H → Nat
  | .lit (.string bytes) => bytes.length + 1
  | .lit _ => 1
  | .nil => 1
  | .ptr d => uptoBulk d + 1
  | .slice elems spare => uptoBulkAll elems + uptoBulkAll spare + 1
  | .agg parts => uptoBulkAll parts + 1
  | .iface _ d => uptoBulk d + 1
  | .map entries => uptoBulkEntries entries + 1
  | .held _ => 1
def uptoBulkAll {H : Type} : List (DataW H) → Nat
  | [] => 0
  | d :: r => uptoBulk d + uptoBulkAll r
def uptoBulkEntries {H : Type} : List (Lit × DataW H) → Nat
  | [] => 0
  | x :: r => uptoBulkEntry x + uptoBulkEntries r
def uptoBulkEntry {H : Type} : Lit × DataW H → Nat
  | (.string bytes, d) => bytes.length + uptoBulk d + 1
  | (_, d) => uptoBulk d + 1
 end
def uptoSmall : (H : Type) → List (DataW H) → Bool := fun _ ds => decide (uptoBulkAll ds ≤ 1048576)
def OpenSpec.upto (s : _root_.Go.ChangeSpec) : _root_.Go.OpenSpec := { _root_.Go.OpenSpec.ofChange s with cond := some uptoSmall }

/-- 'baizelaw01.OctetPuts', WHERE WHAT IT READS IS OF BULK AT MOST 1048576: true; the input reads as it did. -/
def octetPutsUptoRow : OpenClaim := { program := "ytpnliafjiookpaa", sum := "73540068a3816100c50c3f9967c08032fc915452f474b7e040eb1b34198564ca", func := "baize/baizelaw01.OctetPuts", spec := "octetPuts", apart := false, narrowed := true }
def OctetPutsUptoSaid : Prop := octetPutsUptoRow.holds Try.pinned (OpenSpec.upto octetPutsSpec)

/-- 'baizelaw01.OctetApart', WHERE WHAT IT READS IS OF BULK AT MOST 1048576: true; the input reads as it did. -/
def octetApartUptoRow : OpenClaim := { program := "ytpnliafjiookpaa", sum := "73540068a3816100c50c3f9967c08032fc915452f474b7e040eb1b34198564ca", func := "baize/baizelaw01.OctetApart", spec := "octetApart", apart := false, narrowed := true }
def OctetApartUptoSaid : Prop := octetApartUptoRow.holds Try.pinned (OpenSpec.upto octetApartSpec)

/-- 'baizelaw01.OctetShort', WHERE WHAT IT READS IS OF BULK AT MOST 1048576: true; the input reads as it did. -/
def octetShortUptoRow : OpenClaim := { program := "ytpnliafjiookpaa", sum := "73540068a3816100c50c3f9967c08032fc915452f474b7e040eb1b34198564ca", func := "baize/baizelaw01.OctetShort", spec := "octetShort", apart := false, narrowed := true }
def OctetShortUptoSaid : Prop := octetShortUptoRow.holds Try.pinned (OpenSpec.upto octetShortSpec)

/-- 'baizelaw01.OctetInts', WHERE WHAT IT READS IS OF BULK AT MOST 1048576: true; the input reads as it did. -/
def octetIntsUptoRow : OpenClaim := { program := "ytpnliafjiookpaa", sum := "73540068a3816100c50c3f9967c08032fc915452f474b7e040eb1b34198564ca", func := "baize/baizelaw01.OctetInts", spec := "octetInts", unfollowed := true, recurses := true, apart := false, narrowed := true }
def OctetIntsUptoSaid : Prop := octetIntsUptoRow.holds Try.pinned (OpenSpec.upto octetIntsSpec)

/-- 'baizelaw01.OctetOnce', WHERE WHAT IT READS IS OF BULK AT MOST 1048576: true; the input reads as it did. -/
def octetOnceUptoRow : OpenClaim := { program := "ytpnliafjiookpaa", sum := "73540068a3816100c50c3f9967c08032fc915452f474b7e040eb1b34198564ca", func := "baize/baizelaw01.OctetOnce", spec := "octetOnce", unfollowed := true, recurses := true, apart := false, narrowed := true }
def OctetOnceUptoSaid : Prop := octetOnceUptoRow.holds Try.pinned (OpenSpec.upto octetOnceSpec)

/-- 'baizelaw01.OctetCut', WHERE WHAT IT READS IS OF BULK AT MOST 1048576: true; the input reads as it did. -/
def octetCutUptoRow : OpenClaim := { program := "ytpnliafjiookpaa", sum := "73540068a3816100c50c3f9967c08032fc915452f474b7e040eb1b34198564ca", func := "baize/baizelaw01.OctetCut", spec := "octetCut", unfollowed := true, recurses := true, apart := false, narrowed := true }
def OctetCutUptoSaid : Prop := octetCutUptoRow.holds Try.pinned (OpenSpec.upto octetCutSpec)

/-- 'baizelaw01.OctetNil', WHERE WHAT IT READS IS OF BULK AT MOST 1048576: true; the input reads as it did. -/
def octetNilUptoRow : OpenClaim := { program := "ytpnliafjiookpaa", sum := "73540068a3816100c50c3f9967c08032fc915452f474b7e040eb1b34198564ca", func := "baize/baizelaw01.OctetNil", spec := "octetNil", unfollowed := true, recurses := true, apart := false, narrowed := true }
def OctetNilUptoSaid : Prop := octetNilUptoRow.holds Try.pinned (OpenSpec.upto octetNilSpec)

/-- 'baizelaw01.OctetReads', WHERE WHAT IT READS IS OF BULK AT MOST 1048576: true; the input reads as it did. -/
def octetReadsUptoRow : OpenClaim := { program := "ytpnliafjiookpaa", sum := "73540068a3816100c50c3f9967c08032fc915452f474b7e040eb1b34198564ca", func := "baize/baizelaw01.OctetReads", spec := "octetReads", unfollowed := true, recurses := true, apart := false, narrowed := true }
def OctetReadsUptoSaid : Prop := octetReadsUptoRow.holds Try.pinned (OpenSpec.upto octetReadsSpec)

/-- 'baizelaw01.OctetThere', WHERE WHAT IT READS IS OF BULK AT MOST 1048576: true; the input reads as it did. -/
def octetThereUptoRow : OpenClaim := { program := "ytpnliafjiookpaa", sum := "73540068a3816100c50c3f9967c08032fc915452f474b7e040eb1b34198564ca", func := "baize/baizelaw01.OctetThere", spec := "octetThere", unfollowed := true, recurses := true, apart := false, narrowed := true }
def OctetThereUptoSaid : Prop := octetThereUptoRow.holds Try.pinned (OpenSpec.upto octetThereSpec)

end Rows
end Go.Proofs.Ytpnliafjiookpaa
