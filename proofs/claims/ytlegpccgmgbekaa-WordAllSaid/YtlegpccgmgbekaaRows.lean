/-
  No cell of these rows narrows 'for every input' (looked for: loops, veiled, ifaces, maps, wideKeys, modest, calm, conditions, laid).
  DERIVED. THE GIVEN ROWS OF THIS SEAT. 9 by the template 'for every input the law returns true; each argument reads behind the call as it read before'; 0 by the template 'total and deterministic' (their statements: YtlegpccgmgbekaaTotals.lean).
  GIVEN WITH THE SEED: the statements are not yours to turn. If you find one false, say at which input.
  Laid BY PROGRAM, IN A SANDBOX (cutbox-rows.mjs): the forced cells as the released guide's own fill.sh prints them over the translation c1e7d509bb41cd19… (all of the seat's roots in one cut). By AI agents, Wed Nov 11 2026. No macro, syntax, notation, axiom, sorry.
-/
import Derived.Test.YtlegpccgmgbekaaChecked
import GoSem.Claim
import GoSem.ClaimJoined
import GoSem.ClaimMapViews
import Derived.JoinedTies
import Derived.KernelRfl
namespace Go.Proofs.Ytlegpccgmgbekaa
/- THE CELL 'sum', in the pinned program and in every row, IS THE sha256 OF THE DUMP (.gsa) THAT YtlegpccgmgbekaaProg.lean LOADS. Nothing in Lean hashes anything: it is a label: what it is worth is what the hold of that sum in a sandbox is worth. -/
noncomputable def Try.pinned : Pinned := { name := "ytlegpccgmgbekaa", sum := "c1e7d509bb41cd199cfe1a9b7a5365adf49adcbceb35039cc5031e7f93bdfab6", checked := Try.checked }
namespace Rows
def none {H : Type} : Left H := { results := [], args := [] }

/-- 'quernlaw1.WordExact': WHATEVER THE INPUT: true; the input reads as it did. -/
def wordExactSpec : ChangeSpec := { name := "wordExact", fn := fun _ => fun
  | [d1, d2] => { results := [.lit (.bool true)], args := [d1, d2] }
  | _ => none }
def wordExactRow : OpenClaim := { program := "ytlegpccgmgbekaa", sum := "c1e7d509bb41cd199cfe1a9b7a5365adf49adcbceb35039cc5031e7f93bdfab6", func := "quern/quernlaw1.WordExact", spec := "wordExact", unfollowed := true, recurses := true, apart := false }
def WordExactSaid : Prop := wordExactRow.holds Try.pinned (OpenSpec.ofChange wordExactSpec)

/-- ITS FALSE NEIGHBOUR: 'it returns false'. Refute it at one input. -/
def wordExactWrong : ChangeSpec := { name := "wordExact", fn := fun _ => fun
  | [d1, d2] => { results := [.lit (.bool false)], args := [d1, d2] }
  | _ => none }
def WordExactWrongFalsely : Prop := wordExactRow.holds Try.pinned (OpenSpec.ofChange wordExactWrong)

/-- 'quernlaw1.WordDo': WHATEVER THE INPUT: true; the input reads as it did. -/
def wordDoSpec : ChangeSpec := { name := "wordDo", fn := fun _ => fun
  | [d1, d2, d3] => { results := [.lit (.bool true)], args := [d1, d2, d3] }
  | _ => none }
def wordDoRow : OpenClaim := { program := "ytlegpccgmgbekaa", sum := "c1e7d509bb41cd199cfe1a9b7a5365adf49adcbceb35039cc5031e7f93bdfab6", func := "quern/quernlaw1.WordDo", spec := "wordDo", unfollowed := true, recurses := true, apart := false }
def WordDoSaid : Prop := wordDoRow.holds Try.pinned (OpenSpec.ofChange wordDoSpec)

/-- ITS FALSE NEIGHBOUR: 'it returns false'. Refute it at one input. -/
def wordDoWrong : ChangeSpec := { name := "wordDo", fn := fun _ => fun
  | [d1, d2, d3] => { results := [.lit (.bool false)], args := [d1, d2, d3] }
  | _ => none }
def WordDoWrongFalsely : Prop := wordDoRow.holds Try.pinned (OpenSpec.ofChange wordDoWrong)

/-- 'quernlaw1.WordAll': WHATEVER THE INPUT: true; the input reads as it did. -/
def wordAllSpec : ChangeSpec := { name := "wordAll", fn := fun _ => fun
  | [d] => { results := [.lit (.bool true)], args := [d] }
  | _ => none }
def wordAllRow : OpenClaim := { program := "ytlegpccgmgbekaa", sum := "c1e7d509bb41cd199cfe1a9b7a5365adf49adcbceb35039cc5031e7f93bdfab6", func := "quern/quernlaw1.WordAll", spec := "wordAll", unfollowed := true, recurses := true, apart := false }
def WordAllSaid : Prop := wordAllRow.holds Try.pinned (OpenSpec.ofChange wordAllSpec)

/-- ITS FALSE NEIGHBOUR: 'it returns false'. Refute it at one input. -/
def wordAllWrong : ChangeSpec := { name := "wordAll", fn := fun _ => fun
  | [d] => { results := [.lit (.bool false)], args := [d] }
  | _ => none }
def WordAllWrongFalsely : Prop := wordAllRow.holds Try.pinned (OpenSpec.ofChange wordAllWrong)

/-- 'quernlaw1.WordSums': WHATEVER THE INPUT: true; the input reads as it did. -/
def wordSumsSpec : ChangeSpec := { name := "wordSums", fn := fun _ => fun
  | [d1, d2, d3] => { results := [.lit (.bool true)], args := [d1, d2, d3] }
  | _ => none }
def wordSumsRow : OpenClaim := { program := "ytlegpccgmgbekaa", sum := "c1e7d509bb41cd199cfe1a9b7a5365adf49adcbceb35039cc5031e7f93bdfab6", func := "quern/quernlaw1.WordSums", spec := "wordSums", unfollowed := true, recurses := true, apart := false }
def WordSumsSaid : Prop := wordSumsRow.holds Try.pinned (OpenSpec.ofChange wordSumsSpec)

/-- ITS FALSE NEIGHBOUR: 'it returns false'. Refute it at one input. -/
def wordSumsWrong : ChangeSpec := { name := "wordSums", fn := fun _ => fun
  | [d1, d2, d3] => { results := [.lit (.bool false)], args := [d1, d2, d3] }
  | _ => none }
def WordSumsWrongFalsely : Prop := wordSumsRow.holds Try.pinned (OpenSpec.ofChange wordSumsWrong)

/-- 'quernlaw1.WordParts': WHATEVER THE INPUT: true; the input reads as it did. -/
def wordPartsSpec : ChangeSpec := { name := "wordParts", fn := fun _ => fun
  | [d1, d2] => { results := [.lit (.bool true)], args := [d1, d2] }
  | _ => none }
def wordPartsRow : OpenClaim := { program := "ytlegpccgmgbekaa", sum := "c1e7d509bb41cd199cfe1a9b7a5365adf49adcbceb35039cc5031e7f93bdfab6", func := "quern/quernlaw1.WordParts", spec := "wordParts", unfollowed := true, recurses := true, apart := false }
def WordPartsSaid : Prop := wordPartsRow.holds Try.pinned (OpenSpec.ofChange wordPartsSpec)

/-- ITS FALSE NEIGHBOUR: 'it returns false'. Refute it at one input. -/
def wordPartsWrong : ChangeSpec := { name := "wordParts", fn := fun _ => fun
  | [d1, d2] => { results := [.lit (.bool false)], args := [d1, d2] }
  | _ => none }
def WordPartsWrongFalsely : Prop := wordPartsRow.holds Try.pinned (OpenSpec.ofChange wordPartsWrong)

/-- 'quernlaw1.WordBits': WHATEVER THE INPUT: true; the input reads as it did. -/
def wordBitsSpec : ChangeSpec := { name := "wordBits", fn := fun _ => fun
  | [d1, d2] => { results := [.lit (.bool true)], args := [d1, d2] }
  | _ => none }
def wordBitsRow : OpenClaim := { program := "ytlegpccgmgbekaa", sum := "c1e7d509bb41cd199cfe1a9b7a5365adf49adcbceb35039cc5031e7f93bdfab6", func := "quern/quernlaw1.WordBits", spec := "wordBits", unfollowed := true, recurses := true, apart := false }
def WordBitsSaid : Prop := wordBitsRow.holds Try.pinned (OpenSpec.ofChange wordBitsSpec)

/-- ITS FALSE NEIGHBOUR: 'it returns false'. Refute it at one input. -/
def wordBitsWrong : ChangeSpec := { name := "wordBits", fn := fun _ => fun
  | [d1, d2] => { results := [.lit (.bool false)], args := [d1, d2] }
  | _ => none }
def WordBitsWrongFalsely : Prop := wordBitsRow.holds Try.pinned (OpenSpec.ofChange wordBitsWrong)

/-- 'quernlaw1.WordShifts': WHATEVER THE INPUT: true; the input reads as it did. -/
def wordShiftsSpec : ChangeSpec := { name := "wordShifts", fn := fun _ => fun
  | [d1, d2] => { results := [.lit (.bool true)], args := [d1, d2] }
  | _ => none }
def wordShiftsRow : OpenClaim := { program := "ytlegpccgmgbekaa", sum := "c1e7d509bb41cd199cfe1a9b7a5365adf49adcbceb35039cc5031e7f93bdfab6", func := "quern/quernlaw1.WordShifts", spec := "wordShifts", unfollowed := true, recurses := true, apart := false }
def WordShiftsSaid : Prop := wordShiftsRow.holds Try.pinned (OpenSpec.ofChange wordShiftsSpec)

/-- ITS FALSE NEIGHBOUR: 'it returns false'. Refute it at one input. -/
def wordShiftsWrong : ChangeSpec := { name := "wordShifts", fn := fun _ => fun
  | [d1, d2] => { results := [.lit (.bool false)], args := [d1, d2] }
  | _ => none }
def WordShiftsWrongFalsely : Prop := wordShiftsRow.holds Try.pinned (OpenSpec.ofChange wordShiftsWrong)

/-- 'quernlaw1.WordOrder': WHATEVER THE INPUT: true; the input reads as it did. -/
def wordOrderSpec : ChangeSpec := { name := "wordOrder", fn := fun _ => fun
  | [d1, d2] => { results := [.lit (.bool true)], args := [d1, d2] }
  | _ => none }
def wordOrderRow : OpenClaim := { program := "ytlegpccgmgbekaa", sum := "c1e7d509bb41cd199cfe1a9b7a5365adf49adcbceb35039cc5031e7f93bdfab6", func := "quern/quernlaw1.WordOrder", spec := "wordOrder", unfollowed := true, recurses := true, apart := false }
def WordOrderSaid : Prop := wordOrderRow.holds Try.pinned (OpenSpec.ofChange wordOrderSpec)

/-- ITS FALSE NEIGHBOUR: 'it returns false'. Refute it at one input. -/
def wordOrderWrong : ChangeSpec := { name := "wordOrder", fn := fun _ => fun
  | [d1, d2] => { results := [.lit (.bool false)], args := [d1, d2] }
  | _ => none }
def WordOrderWrongFalsely : Prop := wordOrderRow.holds Try.pinned (OpenSpec.ofChange wordOrderWrong)

/-- 'quernlaw1.WordNone': WHATEVER THE INPUT: true; the input reads as it did. -/
def wordNoneSpec : ChangeSpec := { name := "wordNone", fn := fun _ => fun
  | [d1, d2, d3] => { results := [.lit (.bool true)], args := [d1, d2, d3] }
  | _ => none }
def wordNoneRow : OpenClaim := { program := "ytlegpccgmgbekaa", sum := "c1e7d509bb41cd199cfe1a9b7a5365adf49adcbceb35039cc5031e7f93bdfab6", func := "quern/quernlaw1.WordNone", spec := "wordNone", unfollowed := true, recurses := true, apart := false }
def WordNoneSaid : Prop := wordNoneRow.holds Try.pinned (OpenSpec.ofChange wordNoneSpec)

/-- ITS FALSE NEIGHBOUR: 'it returns false'. Refute it at one input. -/
def wordNoneWrong : ChangeSpec := { name := "wordNone", fn := fun _ => fun
  | [d1, d2, d3] => { results := [.lit (.bool false)], args := [d1, d2, d3] }
  | _ => none }
def WordNoneWrongFalsely : Prop := wordNoneRow.holds Try.pinned (OpenSpec.ofChange wordNoneWrong)

/- THE SECOND FORM. 'bulk': how many values and letters a reading holds, each counted each time it is reached (what is shared counts as often as it is met; a slice's spare places count too). A statement '..UptoSaid' is the law's where the arguments, and the package variables that the reading takes, are together of bulk at most 1048576: NARROWER than '..Said'. Prove '..Said' where nothing that the law and all that it calls make is longer than what came in: it says more and counts as full. Else prove '..UptoSaid'. A law counts once. -/
mutual
def uptoBulk {H : Type} : DataW H → Nat
  | .lit (.string bytes) => bytes.length + 1
  | .lit _ => 1
  | .nil => 1
  | .ptr d => uptoBulk d + 1
  | .slice elems spare => uptoBulkAll elems + uptoBulkAll spare + 1
  | .agg parts => uptoBulkAll parts + 1
  | .iface _ d => uptoBulk d + 1
  | .map entries => uptoBulkEntries entries + 1
  | .held _ => 1
def uptoBulkAll {H : Type} : List (DataW H) → Nat
  | [] => 0
  | d :: r => uptoBulk d + uptoBulkAll r
def uptoBulkEntries {H : Type} : List (Lit × DataW H) → Nat
  | [] => 0
  | x :: r => uptoBulkEntry x + uptoBulkEntries r
def uptoBulkEntry {H : Type} : Lit × DataW H → Nat
  | (.string bytes, d) => bytes.length + uptoBulk d + 1
  | (_, d) => uptoBulk d + 1
 end
def uptoSmall : (H : Type) → List (DataW H) → Bool := fun _ ds => decide (uptoBulkAll ds ≤ 1048576)
def OpenSpec.upto (s : _root_.Go.ChangeSpec) : _root_.Go.OpenSpec := { _root_.Go.OpenSpec.ofChange s with cond := some uptoSmall }

/-- 'quernlaw1.WordExact', WHERE WHAT IT READS IS OF BULK AT MOST 1048576: true; the input reads as it did. -/
def wordExactUptoRow : OpenClaim := { program := "ytlegpccgmgbekaa", sum := "c1e7d509bb41cd199cfe1a9b7a5365adf49adcbceb35039cc5031e7f93bdfab6", func := "quern/quernlaw1.WordExact", spec := "wordExact", unfollowed := true, recurses := true, apart := false, narrowed := true }
def WordExactUptoSaid : Prop := wordExactUptoRow.holds Try.pinned (OpenSpec.upto wordExactSpec)

/-- 'quernlaw1.WordDo', WHERE WHAT IT READS IS OF BULK AT MOST 1048576: true; the input reads as it did. -/
def wordDoUptoRow : OpenClaim := { program := "ytlegpccgmgbekaa", sum := "c1e7d509bb41cd199cfe1a9b7a5365adf49adcbceb35039cc5031e7f93bdfab6", func := "quern/quernlaw1.WordDo", spec := "wordDo", unfollowed := true, recurses := true, apart := false, narrowed := true }
def WordDoUptoSaid : Prop := wordDoUptoRow.holds Try.pinned (OpenSpec.upto wordDoSpec)

/-- 'quernlaw1.WordAll', WHERE WHAT IT READS IS OF BULK AT MOST 1048576: true; the input reads as it did. -/
def wordAllUptoRow : OpenClaim := { program := "ytlegpccgmgbekaa", sum := "c1e7d509bb41cd199cfe1a9b7a5365adf49adcbceb35039cc5031e7f93bdfab6", func := "quern/quernlaw1.WordAll", spec := "wordAll", unfollowed := true, recurses := true, apart := false, narrowed := true }
def WordAllUptoSaid : Prop := wordAllUptoRow.holds Try.pinned (OpenSpec.upto wordAllSpec)

/-- 'quernlaw1.WordSums', WHERE WHAT IT READS IS OF BULK AT MOST 1048576: true; the input reads as it did. -/
def wordSumsUptoRow : OpenClaim := { program := "ytlegpccgmgbekaa", sum := "c1e7d509bb41cd199cfe1a9b7a5365adf49adcbceb35039cc5031e7f93bdfab6", func := "quern/quernlaw1.WordSums", spec := "wordSums", unfollowed := true, recurses := true, apart := false, narrowed := true }
def WordSumsUptoSaid : Prop := wordSumsUptoRow.holds Try.pinned (OpenSpec.upto wordSumsSpec)

/-- 'quernlaw1.WordParts', WHERE WHAT IT READS IS OF BULK AT MOST 1048576: true; the input reads as it did. -/
def wordPartsUptoRow : OpenClaim := { program := "ytlegpccgmgbekaa", sum := "c1e7d509bb41cd199cfe1a9b7a5365adf49adcbceb35039cc5031e7f93bdfab6", func := "quern/quernlaw1.WordParts", spec := "wordParts", unfollowed := true, recurses := true, apart := false, narrowed := true }
def WordPartsUptoSaid : Prop := wordPartsUptoRow.holds Try.pinned (OpenSpec.upto wordPartsSpec)

/-- 'quernlaw1.WordBits', WHERE WHAT IT READS IS OF BULK AT MOST 1048576: true; the input reads as it did. -/
def wordBitsUptoRow : OpenClaim := { program := "ytlegpccgmgbekaa", sum := "c1e7d509bb41cd199cfe1a9b7a5365adf49adcbceb35039cc5031e7f93bdfab6", func := "quern/quernlaw1.WordBits", spec := "wordBits", unfollowed := true, recurses := true, apart := false, narrowed := true }
def WordBitsUptoSaid : Prop := wordBitsUptoRow.holds Try.pinned (OpenSpec.upto wordBitsSpec)

/-- 'quernlaw1.WordShifts', WHERE WHAT IT READS IS OF BULK AT MOST 1048576: true; the input reads as it did. -/
def wordShiftsUptoRow : OpenClaim := { program := "ytlegpccgmgbekaa", sum := "c1e7d509bb41cd199cfe1a9b7a5365adf49adcbceb35039cc5031e7f93bdfab6", func := "quern/quernlaw1.WordShifts", spec := "wordShifts", unfollowed := true, recurses := true, apart := false, narrowed := true }
def WordShiftsUptoSaid : Prop := wordShiftsUptoRow.holds Try.pinned (OpenSpec.upto wordShiftsSpec)

/-- 'quernlaw1.WordOrder', WHERE WHAT IT READS IS OF BULK AT MOST 1048576: true; the input reads as it did. -/
def wordOrderUptoRow : OpenClaim := { program := "ytlegpccgmgbekaa", sum := "c1e7d509bb41cd199cfe1a9b7a5365adf49adcbceb35039cc5031e7f93bdfab6", func := "quern/quernlaw1.WordOrder", spec := "wordOrder", unfollowed := true, recurses := true, apart := false, narrowed := true }
def WordOrderUptoSaid : Prop := wordOrderUptoRow.holds Try.pinned (OpenSpec.upto wordOrderSpec)

/-- 'quernlaw1.WordNone', WHERE WHAT IT READS IS OF BULK AT MOST 1048576: true; the input reads as it did. -/
def wordNoneUptoRow : OpenClaim := { program := "ytlegpccgmgbekaa", sum := "c1e7d509bb41cd199cfe1a9b7a5365adf49adcbceb35039cc5031e7f93bdfab6", func := "quern/quernlaw1.WordNone", spec := "wordNone", unfollowed := true, recurses := true, apart := false, narrowed := true }
def WordNoneUptoSaid : Prop := wordNoneUptoRow.holds Try.pinned (OpenSpec.upto wordNoneSpec)

end Rows
end Go.Proofs.Ytlegpccgmgbekaa
