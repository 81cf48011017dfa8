/-
  No cell of these rows narrows 'for every input' (looked for: loops, veiled, ifaces, maps, wideKeys, modest, calm, conditions, laid).
  DERIVED. THE GIVEN ROWS OF THIS SEAT. 6 by the template 'for every input the law returns true; each argument reads behind the call as it read before'; 0 by the template 'total and deterministic' (their statements: YtbfochidbpdniaaTotals.lean).
  GIVEN WITH THE SEED: the statements are not yours to turn. If you find one false, say at which input.
  Laid BY PROGRAM, IN A SANDBOX (cutbox-rows.mjs): the forced cells as the released guide's own fill.sh prints them over the translation afe96a63c6d19140… (all of the seat's roots in one cut). By AI agents, Wed Nov 11 2026. No macro, syntax, notation, axiom, sorry.
-/
import Derived.Test.YtbfochidbpdniaaChecked
import GoSem.Claim
import GoSem.ClaimJoined
import GoSem.ClaimMapViews
import Derived.JoinedTies
import Derived.KernelRfl
namespace Go.Proofs.Ytbfochidbpdniaa
/- THE CELL 'sum', in the pinned program and in every row, IS THE sha256 OF THE DUMP (.gsa) THAT YtbfochidbpdniaaProg.lean LOADS. Nothing in Lean hashes anything: it is a label: what it is worth is what the hold of that sum in a sandbox is worth. -/
noncomputable def Try.pinned : Pinned := { name := "ytbfochidbpdniaa", sum := "afe96a63c6d191400c195c15a7746284cd40b4d6c0548875a9a0f8e6e0e50d55", checked := Try.checked }
namespace Rows
def none {H : Type} : Left H := { results := [], args := [] }

/-- 'platenlaw21.KeysReads': WHATEVER THE INPUT: true; the input reads as it did. -/
def keysReadsSpec : ChangeSpec := { name := "keysReads", fn := fun _ => fun
  | [d1, d2] => { results := [.lit (.bool true)], args := [d1, d2] }
  | _ => none }
def keysReadsRow : OpenClaim := { program := "ytbfochidbpdniaa", sum := "afe96a63c6d191400c195c15a7746284cd40b4d6c0548875a9a0f8e6e0e50d55", func := "platen/platenlaw21.KeysReads", spec := "keysReads", inPlace := ["internal/bytealg.IndexByteString"], apart := false }
def KeysReadsSaid : Prop := keysReadsRow.holds Try.pinned (OpenSpec.ofChange keysReadsSpec)

/-- ITS FALSE NEIGHBOUR: 'it returns false'. Refute it at one input. -/
def keysReadsWrong : ChangeSpec := { name := "keysReads", fn := fun _ => fun
  | [d1, d2] => { results := [.lit (.bool false)], args := [d1, d2] }
  | _ => none }
def KeysReadsWrongFalsely : Prop := keysReadsRow.holds Try.pinned (OpenSpec.ofChange keysReadsWrong)

/-- 'platenlaw21.KeysWords': WHATEVER THE INPUT: true; the input reads as it did. -/
def keysWordsSpec : ChangeSpec := { name := "keysWords", fn := fun _ => fun
  | [d1, d2] => { results := [.lit (.bool true)], args := [d1, d2] }
  | _ => none }
def keysWordsRow : OpenClaim := { program := "ytbfochidbpdniaa", sum := "afe96a63c6d191400c195c15a7746284cd40b4d6c0548875a9a0f8e6e0e50d55", func := "platen/platenlaw21.KeysWords", spec := "keysWords", inPlace := ["internal/bytealg.IndexByteString"], apart := false }
def KeysWordsSaid : Prop := keysWordsRow.holds Try.pinned (OpenSpec.ofChange keysWordsSpec)

/-- ITS FALSE NEIGHBOUR: 'it returns false'. Refute it at one input. -/
def keysWordsWrong : ChangeSpec := { name := "keysWords", fn := fun _ => fun
  | [d1, d2] => { results := [.lit (.bool false)], args := [d1, d2] }
  | _ => none }
def KeysWordsWrongFalsely : Prop := keysWordsRow.holds Try.pinned (OpenSpec.ofChange keysWordsWrong)

/-- 'platenlaw21.KeysParts': WHATEVER THE INPUT: true; the input reads as it did. -/
def keysPartsSpec : ChangeSpec := { name := "keysParts", fn := fun _ => fun
  | [d1, d2, d3, d4, d5, d6, d7, d8] => { results := [.lit (.bool true)], args := [d1, d2, d3, d4, d5, d6, d7, d8] }
  | _ => none }
def keysPartsRow : OpenClaim := { program := "ytbfochidbpdniaa", sum := "afe96a63c6d191400c195c15a7746284cd40b4d6c0548875a9a0f8e6e0e50d55", func := "platen/platenlaw21.KeysParts", spec := "keysParts", inPlace := ["internal/bytealg.IndexByteString"], apart := false }
def KeysPartsSaid : Prop := keysPartsRow.holds Try.pinned (OpenSpec.ofChange keysPartsSpec)

/-- ITS FALSE NEIGHBOUR: 'it returns false'. Refute it at one input. -/
def keysPartsWrong : ChangeSpec := { name := "keysParts", fn := fun _ => fun
  | [d1, d2, d3, d4, d5, d6, d7, d8] => { results := [.lit (.bool false)], args := [d1, d2, d3, d4, d5, d6, d7, d8] }
  | _ => none }
def KeysPartsWrongFalsely : Prop := keysPartsRow.holds Try.pinned (OpenSpec.ofChange keysPartsWrong)

/-- 'platenlaw21.KeysOne': WHATEVER THE INPUT: true; the input reads as it did. -/
def keysOneSpec : ChangeSpec := { name := "keysOne", fn := fun _ => fun
  | [d1, d2, d3] => { results := [.lit (.bool true)], args := [d1, d2, d3] }
  | _ => none }
def keysOneRow : OpenClaim := { program := "ytbfochidbpdniaa", sum := "afe96a63c6d191400c195c15a7746284cd40b4d6c0548875a9a0f8e6e0e50d55", func := "platen/platenlaw21.KeysOne", spec := "keysOne", inPlace := ["internal/bytealg.IndexByteString"], apart := false }
def KeysOneSaid : Prop := keysOneRow.holds Try.pinned (OpenSpec.ofChange keysOneSpec)

/-- ITS FALSE NEIGHBOUR: 'it returns false'. Refute it at one input. -/
def keysOneWrong : ChangeSpec := { name := "keysOne", fn := fun _ => fun
  | [d1, d2, d3] => { results := [.lit (.bool false)], args := [d1, d2, d3] }
  | _ => none }
def KeysOneWrongFalsely : Prop := keysOneRow.holds Try.pinned (OpenSpec.ofChange keysOneWrong)

/-- 'platenlaw21.KeysMore': WHATEVER THE INPUT: true; the input reads as it did. -/
def keysMoreSpec : ChangeSpec := { name := "keysMore", fn := fun _ => fun
  | [d1, d2] => { results := [.lit (.bool true)], args := [d1, d2] }
  | _ => none }
def keysMoreRow : OpenClaim := { program := "ytbfochidbpdniaa", sum := "afe96a63c6d191400c195c15a7746284cd40b4d6c0548875a9a0f8e6e0e50d55", func := "platen/platenlaw21.KeysMore", spec := "keysMore", inPlace := ["internal/bytealg.IndexByteString"], apart := false }
def KeysMoreSaid : Prop := keysMoreRow.holds Try.pinned (OpenSpec.ofChange keysMoreSpec)

/-- ITS FALSE NEIGHBOUR: 'it returns false'. Refute it at one input. -/
def keysMoreWrong : ChangeSpec := { name := "keysMore", fn := fun _ => fun
  | [d1, d2] => { results := [.lit (.bool false)], args := [d1, d2] }
  | _ => none }
def KeysMoreWrongFalsely : Prop := keysMoreRow.holds Try.pinned (OpenSpec.ofChange keysMoreWrong)

/-- 'platenlaw21.KeysCounts': WHATEVER THE INPUT: true; the input reads as it did. -/
def keysCountsSpec : ChangeSpec := { name := "keysCounts", fn := fun _ => fun
  | [d1, d2] => { results := [.lit (.bool true)], args := [d1, d2] }
  | _ => none }
def keysCountsRow : OpenClaim := { program := "ytbfochidbpdniaa", sum := "afe96a63c6d191400c195c15a7746284cd40b4d6c0548875a9a0f8e6e0e50d55", func := "platen/platenlaw21.KeysCounts", spec := "keysCounts", inPlace := ["internal/bytealg.IndexByteString"], apart := false }
def KeysCountsSaid : Prop := keysCountsRow.holds Try.pinned (OpenSpec.ofChange keysCountsSpec)

/-- ITS FALSE NEIGHBOUR: 'it returns false'. Refute it at one input. -/
def keysCountsWrong : ChangeSpec := { name := "keysCounts", fn := fun _ => fun
  | [d1, d2] => { results := [.lit (.bool false)], args := [d1, d2] }
  | _ => none }
def KeysCountsWrongFalsely : Prop := keysCountsRow.holds Try.pinned (OpenSpec.ofChange keysCountsWrong)

/- THE SECOND FORM. 'bulk': how many values and letters a reading holds, each counted each time it is reached (what is shared counts as often as it is met; a slice's spare places count too). A statement '..UptoSaid' is the law's where the arguments, and the package variables that the reading takes, are together of bulk at most 1048576: NARROWER than '..Said'. Prove '..Said' where nothing that the law and all that it calls make is longer than what came in: it says more and counts as full. Else prove '..UptoSaid'. A law counts once. -/
mutual
def uptoBulk {H : Type} : DataW H → Nat
  | .lit (.string bytes) => bytes.length + 1
  | .lit _ => 1
  | .nil => 1
  | .ptr d => uptoBulk d + 1
  | .slice elems spare => uptoBulkAll elems + uptoBulkAll spare + 1
  | .agg parts => uptoBulkAll parts + 1
  | .iface _ d => uptoBulk d + 1
  | .map entries => uptoBulkEntries entries + 1
  | .held _ => 1
def uptoBulkAll {H : Type} : List (DataW H) → Nat
  | [] => 0
  | d :: r => uptoBulk d + uptoBulkAll r
def uptoBulkEntries {H : Type} : List (Lit × DataW H) → Nat
  | [] => 0
  | x :: r => uptoBulkEntry x + uptoBulkEntries r
def uptoBulkEntry {H : Type} : Lit × DataW H → Nat
  | (.string bytes, d) => bytes.length + uptoBulk d + 1
  | (_, d) => uptoBulk d + 1
 end
def uptoSmall : (H : Type) → List (DataW H) → Bool := fun _ ds => decide (uptoBulkAll ds ≤ 1048576)
def OpenSpec.upto (s : _root_.Go.ChangeSpec) : _root_.Go.OpenSpec := { _root_.Go.OpenSpec.ofChange s with cond := some uptoSmall }

/-- 'platenlaw21.KeysReads', WHERE WHAT IT READS IS OF BULK AT MOST 1048576: true; the input reads as it did. -/
def keysReadsUptoRow : OpenClaim := { program := "ytbfochidbpdniaa", sum := "afe96a63c6d191400c195c15a7746284cd40b4d6c0548875a9a0f8e6e0e50d55", func := "platen/platenlaw21.KeysReads", spec := "keysReads", inPlace := ["internal/bytealg.IndexByteString"], apart := false, narrowed := true }
def KeysReadsUptoSaid : Prop := keysReadsUptoRow.holds Try.pinned (OpenSpec.upto keysReadsSpec)

/-- 'platenlaw21.KeysWords', WHERE WHAT IT READS IS OF BULK AT MOST 1048576: true; the input reads as it did. -/
def keysWordsUptoRow : OpenClaim := { program := "ytbfochidbpdniaa", sum := "afe96a63c6d191400c195c15a7746284cd40b4d6c0548875a9a0f8e6e0e50d55", func := "platen/platenlaw21.KeysWords", spec := "keysWords", inPlace := ["internal/bytealg.IndexByteString"], apart := false, narrowed := true }
def KeysWordsUptoSaid : Prop := keysWordsUptoRow.holds Try.pinned (OpenSpec.upto keysWordsSpec)

/-- 'platenlaw21.KeysParts', WHERE WHAT IT READS IS OF BULK AT MOST 1048576: true; the input reads as it did. -/
def keysPartsUptoRow : OpenClaim := { program := "ytbfochidbpdniaa", sum := "afe96a63c6d191400c195c15a7746284cd40b4d6c0548875a9a0f8e6e0e50d55", func := "platen/platenlaw21.KeysParts", spec := "keysParts", inPlace := ["internal/bytealg.IndexByteString"], apart := false, narrowed := true }
def KeysPartsUptoSaid : Prop := keysPartsUptoRow.holds Try.pinned (OpenSpec.upto keysPartsSpec)

/-- 'platenlaw21.KeysOne', WHERE WHAT IT READS IS OF BULK AT MOST 1048576: true; the input reads as it did. -/
def keysOneUptoRow : OpenClaim := { program := "ytbfochidbpdniaa", sum := "afe96a63c6d191400c195c15a7746284cd40b4d6c0548875a9a0f8e6e0e50d55", func := "platen/platenlaw21.KeysOne", spec := "keysOne", inPlace := ["internal/bytealg.IndexByteString"], apart := false, narrowed := true }
def KeysOneUptoSaid : Prop := keysOneUptoRow.holds Try.pinned (OpenSpec.upto keysOneSpec)

/-- 'platenlaw21.KeysMore', WHERE WHAT IT READS IS OF BULK AT MOST 1048576: true; the input reads as it did. -/
def keysMoreUptoRow : OpenClaim := { program := "ytbfochidbpdniaa", sum := "afe96a63c6d191400c195c15a7746284cd40b4d6c0548875a9a0f8e6e0e50d55", func := "platen/platenlaw21.KeysMore", spec := "keysMore", inPlace := ["internal/bytealg.IndexByteString"], apart := false, narrowed := true }
def KeysMoreUptoSaid : Prop := keysMoreUptoRow.holds Try.pinned (OpenSpec.upto keysMoreSpec)

/-- 'platenlaw21.KeysCounts', WHERE WHAT IT READS IS OF BULK AT MOST 1048576: true; the input reads as it did. -/
def keysCountsUptoRow : OpenClaim := { program := "ytbfochidbpdniaa", sum := "afe96a63c6d191400c195c15a7746284cd40b4d6c0548875a9a0f8e6e0e50d55", func := "platen/platenlaw21.KeysCounts", spec := "keysCounts", inPlace := ["internal/bytealg.IndexByteString"], apart := false, narrowed := true }
def KeysCountsUptoSaid : Prop := keysCountsUptoRow.holds Try.pinned (OpenSpec.upto keysCountsSpec)

end Rows
end Go.Proofs.Ytbfochidbpdniaa
