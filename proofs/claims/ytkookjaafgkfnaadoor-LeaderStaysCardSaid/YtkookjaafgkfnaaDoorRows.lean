/-
  NARROWER THAN 'FOR EVERY INPUT', by the rows' own cells (each row's printed sentence says how): LeaderMarks: laid · LeaderParts: laid · LeaderMarked: laid · LeaderStays: laid · LeaderAgain: laid.
  DERIVED. THE GIVEN ROWS OF THIS SEAT. 5 by the template 'for every input the law returns true; each argument reads behind the call as it read before'; 0 by the template 'total and deterministic' (their statements: YtkookjaafgkfnaaDoorTotals.lean).
  GIVEN WITH THE SEED: the statements are not yours to turn. If you find one false, say at which input.
  Laid BY PROGRAM, IN A SANDBOX (cutbox-rows.mjs): the forced cells as the released guide's own fill.sh prints them over the translation da2880e56567a910… (all of the seat's roots in one cut). By AI agents, Wed Nov 11 2026. No macro, syntax, notation, axiom, sorry.
-/
import Derived.Test.YtkookjaafgkfnaaDoorChecked
import GoSem.PinnedTables
import GoSem.Claim
import GoSem.ClaimJoined
import GoSem.ClaimMapViews
import Derived.JoinedTies
import Derived.KernelRfl
namespace Go.Proofs.YtkookjaafgkfnaaDoor
/- THE CELL 'sum', in the pinned program and in every row, IS THE sha256 OF THE DUMP (.gsa) THAT YtkookjaafgkfnaaDoorProg.lean LOADS. Nothing in Lean hashes anything: it is a label: what it is worth is what the hold of that sum in a sandbox is worth. -/
noncomputable def Tryd.pinned : Pinned := { name := "ytkookjaafgkfnaadoor", sum := "da2880e56567a9104b3ec21b5a4db5353f0c275fa4078a776763bb582d0e7856", checked := Tryd.checked }
namespace Rows
def none {H : Type} : Left H := { results := [], args := [] }

/- WHAT THE LISTED PACKAGE-LEVEL VARIABLES READ AS WHEN THE CALL BEGINS. Each datum BY PROGRAM (the guide's laid-datum.mjs) off the statement by which the dump's own 'gosem.cut.vars' lays the variable. In a bare row this is a premise. The card (YtkookjaafgkfnaaDoorCards.lean) ties it to the program's text. -/
def laid_unicode_utf8_acceptRanges {H : Type} : DataW H := .agg [.agg [.lit (.int .u8 128), .lit (.int .u8 191)], .agg [.lit (.int .u8 160), .lit (.int .u8 191)], .agg [.lit (.int .u8 128), .lit (.int .u8 159)], .agg [.lit (.int .u8 144), .lit (.int .u8 191)], .agg [.lit (.int .u8 128), .lit (.int .u8 143)], .agg [.lit (.int .u8 0), .lit (.int .u8 0)], .agg [.lit (.int .u8 0), .lit (.int .u8 0)], .agg [.lit (.int .u8 0), .lit (.int .u8 0)], .agg [.lit (.int .u8 0), .lit (.int .u8 0)], .agg [.lit (.int .u8 0), .lit (.int .u8 0)], .agg [.lit (.int .u8 0), .lit (.int .u8 0)], .agg [.lit (.int .u8 0), .lit (.int .u8 0)], .agg [.lit (.int .u8 0), .lit (.int .u8 0)], .agg [.lit (.int .u8 0), .lit (.int .u8 0)], .agg [.lit (.int .u8 0), .lit (.int .u8 0)], .agg [.lit (.int .u8 0), .lit (.int .u8 0)]]
def laid_platen_leader_marks {H : Type} : DataW H := .agg [.lit (.string [47, 47]), .lit (.string [45, 45]), .lit (.string [59, 59]), .lit (.string [35]), .lit (.string [59]), .lit (.string [42]), .lit (.string [62]), .lit (.string [37])]
/-- One of Go's own tables, pinned by name: the form's constant. -/
def laid_unicode_utf8_first : DataW Unit := Go.Pinned.utf8First

/-- 'platenlaw06.LeaderMarks': WHATEVER THE INPUT: true; the input reads as it did. -/
def leaderMarksSpec : ChangeSpec := { name := "leaderMarks", fn := fun _ => fun
  | [d] => { results := [.lit (.bool true)], args := [d] }
  | _ => none }
def leaderMarksRow : OpenClaim := { program := "ytkookjaafgkfnaadoor", sum := "da2880e56567a9104b3ec21b5a4db5353f0c275fa4078a776763bb582d0e7856", func := "platen/platenlaw06.LeaderMarks", spec := "leaderMarks", inPlace := ["internal/bytealg.CountString", "internal/bytealg.IndexByteString", "internal/bytealg.IndexString", "internal/abi.NoEscape", "internal/bytealg.MakeNoZero"], named := ["internal/bytealg.MaxLen", "unicode/utf8.first", "unicode/utf8.acceptRanges", "platen/leader.marks"], apart := false, laid := [("unicode/utf8.acceptRanges", laid_unicode_utf8_acceptRanges), ("platen/leader.marks", laid_platen_leader_marks), ("unicode/utf8.first", laid_unicode_utf8_first)] }
def LeaderMarksSaid : Prop := leaderMarksRow.holds Tryd.pinned (OpenSpec.ofChange leaderMarksSpec)

/-- ITS FALSE NEIGHBOUR: 'it returns false'. Refute it at one input. -/
def leaderMarksWrong : ChangeSpec := { name := "leaderMarks", fn := fun _ => fun
  | [d] => { results := [.lit (.bool false)], args := [d] }
  | _ => none }
def LeaderMarksWrongFalsely : Prop := leaderMarksRow.holds Tryd.pinned (OpenSpec.ofChange leaderMarksWrong)

/-- 'platenlaw06.LeaderParts': WHATEVER THE INPUT: true; the input reads as it did. -/
def leaderPartsSpec : ChangeSpec := { name := "leaderParts", fn := fun _ => fun
  | [d] => { results := [.lit (.bool true)], args := [d] }
  | _ => none }
def leaderPartsRow : OpenClaim := { program := "ytkookjaafgkfnaadoor", sum := "da2880e56567a9104b3ec21b5a4db5353f0c275fa4078a776763bb582d0e7856", func := "platen/platenlaw06.LeaderParts", spec := "leaderParts", inPlace := ["internal/bytealg.CountString", "internal/bytealg.IndexByteString", "internal/bytealg.IndexString", "internal/abi.NoEscape", "internal/bytealg.MakeNoZero"], named := ["internal/bytealg.MaxLen", "unicode/utf8.first", "unicode/utf8.acceptRanges", "platen/leader.marks"], apart := false, laid := [("unicode/utf8.acceptRanges", laid_unicode_utf8_acceptRanges), ("platen/leader.marks", laid_platen_leader_marks), ("unicode/utf8.first", laid_unicode_utf8_first)] }
def LeaderPartsSaid : Prop := leaderPartsRow.holds Tryd.pinned (OpenSpec.ofChange leaderPartsSpec)

/-- ITS FALSE NEIGHBOUR: 'it returns false'. Refute it at one input. -/
def leaderPartsWrong : ChangeSpec := { name := "leaderParts", fn := fun _ => fun
  | [d] => { results := [.lit (.bool false)], args := [d] }
  | _ => none }
def LeaderPartsWrongFalsely : Prop := leaderPartsRow.holds Tryd.pinned (OpenSpec.ofChange leaderPartsWrong)

/-- 'platenlaw06.LeaderMarked': WHATEVER THE INPUT: true; the input reads as it did. -/
def leaderMarkedSpec : ChangeSpec := { name := "leaderMarked", fn := fun _ => fun
  | [d] => { results := [.lit (.bool true)], args := [d] }
  | _ => none }
def leaderMarkedRow : OpenClaim := { program := "ytkookjaafgkfnaadoor", sum := "da2880e56567a9104b3ec21b5a4db5353f0c275fa4078a776763bb582d0e7856", func := "platen/platenlaw06.LeaderMarked", spec := "leaderMarked", inPlace := ["internal/bytealg.CountString", "internal/bytealg.IndexByteString", "internal/bytealg.IndexString", "internal/abi.NoEscape", "internal/bytealg.MakeNoZero"], named := ["internal/bytealg.MaxLen", "unicode/utf8.first", "unicode/utf8.acceptRanges", "platen/leader.marks"], apart := false, laid := [("unicode/utf8.acceptRanges", laid_unicode_utf8_acceptRanges), ("platen/leader.marks", laid_platen_leader_marks), ("unicode/utf8.first", laid_unicode_utf8_first)] }
def LeaderMarkedSaid : Prop := leaderMarkedRow.holds Tryd.pinned (OpenSpec.ofChange leaderMarkedSpec)

/-- ITS FALSE NEIGHBOUR: 'it returns false'. Refute it at one input. -/
def leaderMarkedWrong : ChangeSpec := { name := "leaderMarked", fn := fun _ => fun
  | [d] => { results := [.lit (.bool false)], args := [d] }
  | _ => none }
def LeaderMarkedWrongFalsely : Prop := leaderMarkedRow.holds Tryd.pinned (OpenSpec.ofChange leaderMarkedWrong)

/-- 'platenlaw06.LeaderStays': WHATEVER THE INPUT: true; the input reads as it did. -/
def leaderStaysSpec : ChangeSpec := { name := "leaderStays", fn := fun _ => fun
  | [d1, d2] => { results := [.lit (.bool true)], args := [d1, d2] }
  | _ => none }
def leaderStaysRow : OpenClaim := { program := "ytkookjaafgkfnaadoor", sum := "da2880e56567a9104b3ec21b5a4db5353f0c275fa4078a776763bb582d0e7856", func := "platen/platenlaw06.LeaderStays", spec := "leaderStays", inPlace := ["internal/bytealg.CountString", "internal/bytealg.IndexByteString", "internal/bytealg.IndexString", "internal/abi.NoEscape", "internal/bytealg.MakeNoZero"], named := ["internal/bytealg.MaxLen", "unicode/utf8.first", "unicode/utf8.acceptRanges", "platen/leader.marks"], apart := false, laid := [("unicode/utf8.acceptRanges", laid_unicode_utf8_acceptRanges), ("platen/leader.marks", laid_platen_leader_marks), ("unicode/utf8.first", laid_unicode_utf8_first)] }
def LeaderStaysSaid : Prop := leaderStaysRow.holds Tryd.pinned (OpenSpec.ofChange leaderStaysSpec)

/-- ITS FALSE NEIGHBOUR: 'it returns false'. Refute it at one input. -/
def leaderStaysWrong : ChangeSpec := { name := "leaderStays", fn := fun _ => fun
  | [d1, d2] => { results := [.lit (.bool false)], args := [d1, d2] }
  | _ => none }
def LeaderStaysWrongFalsely : Prop := leaderStaysRow.holds Tryd.pinned (OpenSpec.ofChange leaderStaysWrong)

/-- 'platenlaw06.LeaderAgain': WHATEVER THE INPUT: true; the input reads as it did. -/
def leaderAgainSpec : ChangeSpec := { name := "leaderAgain", fn := fun _ => fun
  | [d] => { results := [.lit (.bool true)], args := [d] }
  | _ => none }
def leaderAgainRow : OpenClaim := { program := "ytkookjaafgkfnaadoor", sum := "da2880e56567a9104b3ec21b5a4db5353f0c275fa4078a776763bb582d0e7856", func := "platen/platenlaw06.LeaderAgain", spec := "leaderAgain", inPlace := ["internal/bytealg.CountString", "internal/bytealg.IndexByteString", "internal/bytealg.IndexString", "internal/abi.NoEscape", "internal/bytealg.MakeNoZero"], named := ["internal/bytealg.MaxLen", "unicode/utf8.first", "unicode/utf8.acceptRanges", "platen/leader.marks"], apart := false, laid := [("unicode/utf8.acceptRanges", laid_unicode_utf8_acceptRanges), ("platen/leader.marks", laid_platen_leader_marks), ("unicode/utf8.first", laid_unicode_utf8_first)] }
def LeaderAgainSaid : Prop := leaderAgainRow.holds Tryd.pinned (OpenSpec.ofChange leaderAgainSpec)

/-- ITS FALSE NEIGHBOUR: 'it returns false'. Refute it at one input. -/
def leaderAgainWrong : ChangeSpec := { name := "leaderAgain", fn := fun _ => fun
  | [d] => { results := [.lit (.bool false)], args := [d] }
  | _ => none }
def LeaderAgainWrongFalsely : Prop := leaderAgainRow.holds Tryd.pinned (OpenSpec.ofChange leaderAgainWrong)

/- THE SECOND FORM. 'bulk': how many values and letters a reading holds, each counted each time it is reached (what is shared counts as often as it is met; a slice's spare places count too). A statement '..UptoSaid' is the law's where the arguments, and the package variables that the reading takes, are together of bulk at most 1048576: NARROWER than '..Said'. Prove '..Said' where nothing that the law and all that it calls make is longer than what came in: it says more and counts as full. Else prove '..UptoSaid'. A law counts once. -/
mutual
def uptoBulk {H : Type} : DataW H → Nat
  | .lit (.string bytes) => bytes.length + 1
  | .lit _ => 1
  | .nil => 1
  | .ptr d => uptoBulk d + 1
  | .slice elems spare => uptoBulkAll elems + uptoBulkAll spare + 1
  | .agg parts => uptoBulkAll parts + 1
  | .iface _ d => uptoBulk d + 1
  | .map entries => uptoBulkEntries entries + 1
  | .held _ => 1
def uptoBulkAll {H : Type} : List (DataW H) → Nat
  | [] => 0
  | d :: r => uptoBulk d + uptoBulkAll r
def uptoBulkEntries {H : Type} : List (Lit × DataW H) → Nat
  | [] => 0
  | x :: r => uptoBulkEntry x + uptoBulkEntries r
def uptoBulkEntry {H : Type} : Lit × DataW H → Nat
  | (.string bytes, d) => bytes.length + uptoBulk d + 1
  | (_, d) => uptoBulk d + 1
 end
def uptoSmall : (H : Type) → List (DataW H) → Bool := fun _ ds => decide (uptoBulkAll ds ≤ 1048576)
def OpenSpec.upto (s : _root_.Go.ChangeSpec) : _root_.Go.OpenSpec := { _root_.Go.OpenSpec.ofChange s with cond := some uptoSmall }

/-- 'platenlaw06.LeaderMarks', WHERE WHAT IT READS IS OF BULK AT MOST 1048576: true; the input reads as it did. -/
def leaderMarksUptoRow : OpenClaim := { program := "ytkookjaafgkfnaadoor", sum := "da2880e56567a9104b3ec21b5a4db5353f0c275fa4078a776763bb582d0e7856", func := "platen/platenlaw06.LeaderMarks", spec := "leaderMarks", inPlace := ["internal/bytealg.CountString", "internal/bytealg.IndexByteString", "internal/bytealg.IndexString", "internal/abi.NoEscape", "internal/bytealg.MakeNoZero"], named := ["internal/bytealg.MaxLen", "unicode/utf8.first", "unicode/utf8.acceptRanges", "platen/leader.marks"], apart := false, laid := [("unicode/utf8.acceptRanges", laid_unicode_utf8_acceptRanges), ("platen/leader.marks", laid_platen_leader_marks), ("unicode/utf8.first", laid_unicode_utf8_first)], narrowed := true }
def LeaderMarksUptoSaid : Prop := leaderMarksUptoRow.holds Tryd.pinned (OpenSpec.upto leaderMarksSpec)

/-- 'platenlaw06.LeaderParts', WHERE WHAT IT READS IS OF BULK AT MOST 1048576: true; the input reads as it did. -/
def leaderPartsUptoRow : OpenClaim := { program := "ytkookjaafgkfnaadoor", sum := "da2880e56567a9104b3ec21b5a4db5353f0c275fa4078a776763bb582d0e7856", func := "platen/platenlaw06.LeaderParts", spec := "leaderParts", inPlace := ["internal/bytealg.CountString", "internal/bytealg.IndexByteString", "internal/bytealg.IndexString", "internal/abi.NoEscape", "internal/bytealg.MakeNoZero"], named := ["internal/bytealg.MaxLen", "unicode/utf8.first", "unicode/utf8.acceptRanges", "platen/leader.marks"], apart := false, laid := [("unicode/utf8.acceptRanges", laid_unicode_utf8_acceptRanges), ("platen/leader.marks", laid_platen_leader_marks), ("unicode/utf8.first", laid_unicode_utf8_first)], narrowed := true }
def LeaderPartsUptoSaid : Prop := leaderPartsUptoRow.holds Tryd.pinned (OpenSpec.upto leaderPartsSpec)

/-- 'platenlaw06.LeaderMarked', WHERE WHAT IT READS IS OF BULK AT MOST 1048576: true; the input reads as it did. -/
def leaderMarkedUptoRow : OpenClaim := { program := "ytkookjaafgkfnaadoor", sum := "da2880e56567a9104b3ec21b5a4db5353f0c275fa4078a776763bb582d0e7856", func := "platen/platenlaw06.LeaderMarked", spec := "leaderMarked", inPlace := ["internal/bytealg.CountString", "internal/bytealg.IndexByteString", "internal/bytealg.IndexString", "internal/abi.NoEscape", "internal/bytealg.MakeNoZero"], named := ["internal/bytealg.MaxLen", "unicode/utf8.first", "unicode/utf8.acceptRanges", "platen/leader.marks"], apart := false, laid := [("unicode/utf8.acceptRanges", laid_unicode_utf8_acceptRanges), ("platen/leader.marks", laid_platen_leader_marks), ("unicode/utf8.first", laid_unicode_utf8_first)], narrowed := true }
def LeaderMarkedUptoSaid : Prop := leaderMarkedUptoRow.holds Tryd.pinned (OpenSpec.upto leaderMarkedSpec)

/-- 'platenlaw06.LeaderStays', WHERE WHAT IT READS IS OF BULK AT MOST 1048576: true; the input reads as it did. -/
def leaderStaysUptoRow : OpenClaim := { program := "ytkookjaafgkfnaadoor", sum := "da2880e56567a9104b3ec21b5a4db5353f0c275fa4078a776763bb582d0e7856", func := "platen/platenlaw06.LeaderStays", spec := "leaderStays", inPlace := ["internal/bytealg.CountString", "internal/bytealg.IndexByteString", "internal/bytealg.IndexString", "internal/abi.NoEscape", "internal/bytealg.MakeNoZero"], named := ["internal/bytealg.MaxLen", "unicode/utf8.first", "unicode/utf8.acceptRanges", "platen/leader.marks"], apart := false, laid := [("unicode/utf8.acceptRanges", laid_unicode_utf8_acceptRanges), ("platen/leader.marks", laid_platen_leader_marks), ("unicode/utf8.first", laid_unicode_utf8_first)], narrowed := true }
def LeaderStaysUptoSaid : Prop := leaderStaysUptoRow.holds Tryd.pinned (OpenSpec.upto leaderStaysSpec)

/-- 'platenlaw06.LeaderAgain', WHERE WHAT IT READS IS OF BULK AT MOST 1048576: true; the input reads as it did. -/
def leaderAgainUptoRow : OpenClaim := { program := "ytkookjaafgkfnaadoor", sum := "da2880e56567a9104b3ec21b5a4db5353f0c275fa4078a776763bb582d0e7856", func := "platen/platenlaw06.LeaderAgain", spec := "leaderAgain", inPlace := ["internal/bytealg.CountString", "internal/bytealg.IndexByteString", "internal/bytealg.IndexString", "internal/abi.NoEscape", "internal/bytealg.MakeNoZero"], named := ["internal/bytealg.MaxLen", "unicode/utf8.first", "unicode/utf8.acceptRanges", "platen/leader.marks"], apart := false, laid := [("unicode/utf8.acceptRanges", laid_unicode_utf8_acceptRanges), ("platen/leader.marks", laid_platen_leader_marks), ("unicode/utf8.first", laid_unicode_utf8_first)], narrowed := true }
def LeaderAgainUptoSaid : Prop := leaderAgainUptoRow.holds Tryd.pinned (OpenSpec.upto leaderAgainSpec)

end Rows
end Go.Proofs.YtkookjaafgkfnaaDoor
