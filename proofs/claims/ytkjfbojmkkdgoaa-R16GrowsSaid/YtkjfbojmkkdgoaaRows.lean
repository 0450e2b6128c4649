/-
  No cell of these rows narrows 'for every input' (looked for: loops, veiled, ifaces, maps, wideKeys, modest, calm, conditions, laid).
  DERIVED. THE GIVEN ROWS OF THIS SEAT. 8 by the template 'for every input the law returns true; each argument reads behind the call as it read before'; 0 by the template 'total and deterministic' (their statements: YtkjfbojmkkdgoaaTotals.lean).
  GIVEN WITH THE SEED: the statements are not yours to turn. If you find one false, say at which input.
  Laid BY PROGRAM, IN A SANDBOX (cutbox-rows.mjs): the forced cells as the released guide's own fill.sh prints them over the translation ce759409dd45a682… (all of the seat's roots in one cut). By AI agents, Wed Nov 11 2026. No macro, syntax, notation, axiom, sorry.
-/
import Derived.Test.YtkjfbojmkkdgoaaChecked
import GoSem.Claim
import GoSem.ClaimJoined
import GoSem.ClaimMapViews
import Derived.JoinedTies
import Derived.KernelRfl
namespace Go.Proofs.Ytkjfbojmkkdgoaa
/- THE CELL 'sum', in the pinned program and in every row, IS THE sha256 OF THE DUMP (.gsa) THAT YtkjfbojmkkdgoaaProg.lean LOADS. Nothing in Lean hashes anything: it is a label: what it is worth is what the hold of that sum in a sandbox is worth. -/
noncomputable def Try.pinned : Pinned := { name := "ytkjfbojmkkdgoaa", sum := "ce759409dd45a682fca8a75da7bff98ab917a5f7ed095796c0e1e2cdc4b5b45c", checked := Try.checked }
namespace Rows
def none {H : Type} : Left H := { results := [], args := [] }

/-- 'quernlaw21.R16Check': WHATEVER THE INPUT: true; the input reads as it did. -/
def r16CheckSpec : ChangeSpec := { name := "r16Check", fn := fun _ => fun
  | [d] => { results := [.lit (.bool true)], args := [d] }
  | _ => none }
def r16CheckRow : OpenClaim := { program := "ytkjfbojmkkdgoaa", sum := "ce759409dd45a682fca8a75da7bff98ab917a5f7ed095796c0e1e2cdc4b5b45c", func := "quern/quernlaw21.R16Check", spec := "r16Check", unfollowed := true, recurses := true, apart := false }
def R16CheckSaid : Prop := r16CheckRow.holds Try.pinned (OpenSpec.ofChange r16CheckSpec)

/-- ITS FALSE NEIGHBOUR: 'it returns false'. Refute it at one input. -/
def r16CheckWrong : ChangeSpec := { name := "r16Check", fn := fun _ => fun
  | [d] => { results := [.lit (.bool false)], args := [d] }
  | _ => none }
def R16CheckWrongFalsely : Prop := r16CheckRow.holds Try.pinned (OpenSpec.ofChange r16CheckWrong)

/-- 'quernlaw21.R16Split': WHATEVER THE INPUT: true; the input reads as it did. -/
def r16SplitSpec : ChangeSpec := { name := "r16Split", fn := fun _ => fun
  | [d1, d2, d3, d4, d5] => { results := [.lit (.bool true)], args := [d1, d2, d3, d4, d5] }
  | _ => none }
def r16SplitRow : OpenClaim := { program := "ytkjfbojmkkdgoaa", sum := "ce759409dd45a682fca8a75da7bff98ab917a5f7ed095796c0e1e2cdc4b5b45c", func := "quern/quernlaw21.R16Split", spec := "r16Split", unfollowed := true, recurses := true, apart := false }
def R16SplitSaid : Prop := r16SplitRow.holds Try.pinned (OpenSpec.ofChange r16SplitSpec)

/-- ITS FALSE NEIGHBOUR: 'it returns false'. Refute it at one input. -/
def r16SplitWrong : ChangeSpec := { name := "r16Split", fn := fun _ => fun
  | [d1, d2, d3, d4, d5] => { results := [.lit (.bool false)], args := [d1, d2, d3, d4, d5] }
  | _ => none }
def R16SplitWrongFalsely : Prop := r16SplitRow.holds Try.pinned (OpenSpec.ofChange r16SplitWrong)

/-- 'quernlaw21.R16Grows': WHATEVER THE INPUT: true; the input reads as it did. -/
def r16GrowsSpec : ChangeSpec := { name := "r16Grows", fn := fun _ => fun
  | [d1, d2, d3, d4, d5] => { results := [.lit (.bool true)], args := [d1, d2, d3, d4, d5] }
  | _ => none }
def r16GrowsRow : OpenClaim := { program := "ytkjfbojmkkdgoaa", sum := "ce759409dd45a682fca8a75da7bff98ab917a5f7ed095796c0e1e2cdc4b5b45c", func := "quern/quernlaw21.R16Grows", spec := "r16Grows", unfollowed := true, recurses := true, apart := false }
def R16GrowsSaid : Prop := r16GrowsRow.holds Try.pinned (OpenSpec.ofChange r16GrowsSpec)

/-- ITS FALSE NEIGHBOUR: 'it returns false'. Refute it at one input. -/
def r16GrowsWrong : ChangeSpec := { name := "r16Grows", fn := fun _ => fun
  | [d1, d2, d3, d4, d5] => { results := [.lit (.bool false)], args := [d1, d2, d3, d4, d5] }
  | _ => none }
def R16GrowsWrongFalsely : Prop := r16GrowsRow.holds Try.pinned (OpenSpec.ofChange r16GrowsWrong)

/-- 'quernlaw21.R16Words': WHATEVER THE INPUT: true; the input reads as it did. -/
def r16WordsSpec : ChangeSpec := { name := "r16Words", fn := fun _ => fun
  | [d1, d2, d3, d4] => { results := [.lit (.bool true)], args := [d1, d2, d3, d4] }
  | _ => none }
def r16WordsRow : OpenClaim := { program := "ytkjfbojmkkdgoaa", sum := "ce759409dd45a682fca8a75da7bff98ab917a5f7ed095796c0e1e2cdc4b5b45c", func := "quern/quernlaw21.R16Words", spec := "r16Words", unfollowed := true, recurses := true, apart := false }
def R16WordsSaid : Prop := r16WordsRow.holds Try.pinned (OpenSpec.ofChange r16WordsSpec)

/-- ITS FALSE NEIGHBOUR: 'it returns false'. Refute it at one input. -/
def r16WordsWrong : ChangeSpec := { name := "r16Words", fn := fun _ => fun
  | [d1, d2, d3, d4] => { results := [.lit (.bool false)], args := [d1, d2, d3, d4] }
  | _ => none }
def R16WordsWrongFalsely : Prop := r16WordsRow.holds Try.pinned (OpenSpec.ofChange r16WordsWrong)

/-- 'quernlaw21.R16Depth': WHATEVER THE INPUT: true; the input reads as it did. -/
def r16DepthSpec : ChangeSpec := { name := "r16Depth", fn := fun _ => fun
  | [d1, d2, d3] => { results := [.lit (.bool true)], args := [d1, d2, d3] }
  | _ => none }
def r16DepthRow : OpenClaim := { program := "ytkjfbojmkkdgoaa", sum := "ce759409dd45a682fca8a75da7bff98ab917a5f7ed095796c0e1e2cdc4b5b45c", func := "quern/quernlaw21.R16Depth", spec := "r16Depth", unfollowed := true, recurses := true, apart := false }
def R16DepthSaid : Prop := r16DepthRow.holds Try.pinned (OpenSpec.ofChange r16DepthSpec)

/-- ITS FALSE NEIGHBOUR: 'it returns false'. Refute it at one input. -/
def r16DepthWrong : ChangeSpec := { name := "r16Depth", fn := fun _ => fun
  | [d1, d2, d3] => { results := [.lit (.bool false)], args := [d1, d2, d3] }
  | _ => none }
def R16DepthWrongFalsely : Prop := r16DepthRow.holds Try.pinned (OpenSpec.ofChange r16DepthWrong)

/-- 'quernlaw21.R16Heap': WHATEVER THE INPUT: true; the input reads as it did. -/
def r16HeapSpec : ChangeSpec := { name := "r16Heap", fn := fun _ => fun
  | [d1, d2] => { results := [.lit (.bool true)], args := [d1, d2] }
  | _ => none }
def r16HeapRow : OpenClaim := { program := "ytkjfbojmkkdgoaa", sum := "ce759409dd45a682fca8a75da7bff98ab917a5f7ed095796c0e1e2cdc4b5b45c", func := "quern/quernlaw21.R16Heap", spec := "r16Heap", unfollowed := true, recurses := true, apart := false }
def R16HeapSaid : Prop := r16HeapRow.holds Try.pinned (OpenSpec.ofChange r16HeapSpec)

/-- ITS FALSE NEIGHBOUR: 'it returns false'. Refute it at one input. -/
def r16HeapWrong : ChangeSpec := { name := "r16Heap", fn := fun _ => fun
  | [d1, d2] => { results := [.lit (.bool false)], args := [d1, d2] }
  | _ => none }
def R16HeapWrongFalsely : Prop := r16HeapRow.holds Try.pinned (OpenSpec.ofChange r16HeapWrong)

/-- 'quernlaw21.R16Errors': WHATEVER THE INPUT: true; the input reads as it did. -/
def r16ErrorsSpec : ChangeSpec := { name := "r16Errors", fn := fun _ => fun
  | [d1, d2, d3] => { results := [.lit (.bool true)], args := [d1, d2, d3] }
  | _ => none }
def r16ErrorsRow : OpenClaim := { program := "ytkjfbojmkkdgoaa", sum := "ce759409dd45a682fca8a75da7bff98ab917a5f7ed095796c0e1e2cdc4b5b45c", func := "quern/quernlaw21.R16Errors", spec := "r16Errors", unfollowed := true, recurses := true, apart := false }
def R16ErrorsSaid : Prop := r16ErrorsRow.holds Try.pinned (OpenSpec.ofChange r16ErrorsSpec)

/-- ITS FALSE NEIGHBOUR: 'it returns false'. Refute it at one input. -/
def r16ErrorsWrong : ChangeSpec := { name := "r16Errors", fn := fun _ => fun
  | [d1, d2, d3] => { results := [.lit (.bool false)], args := [d1, d2, d3] }
  | _ => none }
def R16ErrorsWrongFalsely : Prop := r16ErrorsRow.holds Try.pinned (OpenSpec.ofChange r16ErrorsWrong)

/-- 'quernlaw21.R16Rests': WHATEVER THE INPUT: true; the input reads as it did. -/
def r16RestsSpec : ChangeSpec := { name := "r16Rests", fn := fun _ => fun
  | [d1, d2] => { results := [.lit (.bool true)], args := [d1, d2] }
  | _ => none }
def r16RestsRow : OpenClaim := { program := "ytkjfbojmkkdgoaa", sum := "ce759409dd45a682fca8a75da7bff98ab917a5f7ed095796c0e1e2cdc4b5b45c", func := "quern/quernlaw21.R16Rests", spec := "r16Rests", unfollowed := true, recurses := true, apart := false }
def R16RestsSaid : Prop := r16RestsRow.holds Try.pinned (OpenSpec.ofChange r16RestsSpec)

/-- ITS FALSE NEIGHBOUR: 'it returns false'. Refute it at one input. -/
def r16RestsWrong : ChangeSpec := { name := "r16Rests", fn := fun _ => fun
  | [d1, d2] => { results := [.lit (.bool false)], args := [d1, d2] }
  | _ => none }
def R16RestsWrongFalsely : Prop := r16RestsRow.holds Try.pinned (OpenSpec.ofChange r16RestsWrong)

/- THE SECOND FORM. 'bulk': how many values and letters a reading holds, each counted each time it is reached (what is shared counts as often as it is met; a slice's spare places count too). A statement '..UptoSaid' is the law's where the arguments, and the package variables that the reading takes, are together of bulk at most 1048576: NARROWER than '..Said'. Prove '..Said' where nothing that the law and all that it calls make is longer than what came in: it says more and counts as full. Else prove '..UptoSaid'. A law counts once. -/
mutual
def uptoBulk {H : Type} : DataW H → Nat
  | .lit (.string bytes) => bytes.length + 1
  | .lit _ => 1
  | .nil => 1
  | .ptr d => uptoBulk d + 1
  | .slice elems spare => uptoBulkAll elems + uptoBulkAll spare + 1
  | .agg parts => uptoBulkAll parts + 1
  | .iface _ d => uptoBulk d + 1
  | .map entries => uptoBulkEntries entries + 1
  | .held _ => 1
def uptoBulkAll {H : Type} : List (DataW H) → Nat
  | [] => 0
  | d :: r => uptoBulk d + uptoBulkAll r
def uptoBulkEntries {H : Type} : List (Lit × DataW H) → Nat
  | [] => 0
  | x :: r => uptoBulkEntry x + uptoBulkEntries r
def uptoBulkEntry {H : Type} : Lit × DataW H → Nat
  | (.string bytes, d) => bytes.length + uptoBulk d + 1
  | (_, d) => uptoBulk d + 1
 end
def uptoSmall : (H : Type) → List (DataW H) → Bool := fun _ ds => decide (uptoBulkAll ds ≤ 1048576)
def OpenSpec.upto (s : _root_.Go.ChangeSpec) : _root_.Go.OpenSpec := { _root_.Go.OpenSpec.ofChange s with cond := some uptoSmall }

/-- 'quernlaw21.R16Check', WHERE WHAT IT READS IS OF BULK AT MOST 1048576: true; the input reads as it did. -/
def r16CheckUptoRow : OpenClaim := { program := "ytkjfbojmkkdgoaa", sum := "ce759409dd45a682fca8a75da7bff98ab917a5f7ed095796c0e1e2cdc4b5b45c", func := "quern/quernlaw21.R16Check", spec := "r16Check", unfollowed := true, recurses := true, apart := false, narrowed := true }
def R16CheckUptoSaid : Prop := r16CheckUptoRow.holds Try.pinned (OpenSpec.upto r16CheckSpec)

/-- 'quernlaw21.R16Split', WHERE WHAT IT READS IS OF BULK AT MOST 1048576: true; the input reads as it did. -/
def r16SplitUptoRow : OpenClaim := { program := "ytkjfbojmkkdgoaa", sum := "ce759409dd45a682fca8a75da7bff98ab917a5f7ed095796c0e1e2cdc4b5b45c", func := "quern/quernlaw21.R16Split", spec := "r16Split", unfollowed := true, recurses := true, apart := false, narrowed := true }
def R16SplitUptoSaid : Prop := r16SplitUptoRow.holds Try.pinned (OpenSpec.upto r16SplitSpec)

/-- 'quernlaw21.R16Grows', WHERE WHAT IT READS IS OF BULK AT MOST 1048576: true; the input reads as it did. -/
def r16GrowsUptoRow : OpenClaim := { program := "ytkjfbojmkkdgoaa", sum := "ce759409dd45a682fca8a75da7bff98ab917a5f7ed095796c0e1e2cdc4b5b45c", func := "quern/quernlaw21.R16Grows", spec := "r16Grows", unfollowed := true, recurses := true, apart := false, narrowed := true }
def R16GrowsUptoSaid : Prop := r16GrowsUptoRow.holds Try.pinned (OpenSpec.upto r16GrowsSpec)

/-- 'quernlaw21.R16Words', WHERE WHAT IT READS IS OF BULK AT MOST 1048576: true; the input reads as it did. -/
def r16WordsUptoRow : OpenClaim := { program := "ytkjfbojmkkdgoaa", sum := "ce759409dd45a682fca8a75da7bff98ab917a5f7ed095796c0e1e2cdc4b5b45c", func := "quern/quernlaw21.R16Words", spec := "r16Words", unfollowed := true, recurses := true, apart := false, narrowed := true }
def R16WordsUptoSaid : Prop := r16WordsUptoRow.holds Try.pinned (OpenSpec.upto r16WordsSpec)

/-- 'quernlaw21.R16Depth', WHERE WHAT IT READS IS OF BULK AT MOST 1048576: true; the input reads as it did. -/
def r16DepthUptoRow : OpenClaim := { program := "ytkjfbojmkkdgoaa", sum := "ce759409dd45a682fca8a75da7bff98ab917a5f7ed095796c0e1e2cdc4b5b45c", func := "quern/quernlaw21.R16Depth", spec := "r16Depth", unfollowed := true, recurses := true, apart := false, narrowed := true }
def R16DepthUptoSaid : Prop := r16DepthUptoRow.holds Try.pinned (OpenSpec.upto r16DepthSpec)

/-- 'quernlaw21.R16Heap', WHERE WHAT IT READS IS OF BULK AT MOST 1048576: true; the input reads as it did. -/
def r16HeapUptoRow : OpenClaim := { program := "ytkjfbojmkkdgoaa", sum := "ce759409dd45a682fca8a75da7bff98ab917a5f7ed095796c0e1e2cdc4b5b45c", func := "quern/quernlaw21.R16Heap", spec := "r16Heap", unfollowed := true, recurses := true, apart := false, narrowed := true }
def R16HeapUptoSaid : Prop := r16HeapUptoRow.holds Try.pinned (OpenSpec.upto r16HeapSpec)

/-- 'quernlaw21.R16Errors', WHERE WHAT IT READS IS OF BULK AT MOST 1048576: true; the input reads as it did. -/
def r16ErrorsUptoRow : OpenClaim := { program := "ytkjfbojmkkdgoaa", sum := "ce759409dd45a682fca8a75da7bff98ab917a5f7ed095796c0e1e2cdc4b5b45c", func := "quern/quernlaw21.R16Errors", spec := "r16Errors", unfollowed := true, recurses := true, apart := false, narrowed := true }
def R16ErrorsUptoSaid : Prop := r16ErrorsUptoRow.holds Try.pinned (OpenSpec.upto r16ErrorsSpec)

/-- 'quernlaw21.R16Rests', WHERE WHAT IT READS IS OF BULK AT MOST 1048576: true; the input reads as it did. -/
def r16RestsUptoRow : OpenClaim := { program := "ytkjfbojmkkdgoaa", sum := "ce759409dd45a682fca8a75da7bff98ab917a5f7ed095796c0e1e2cdc4b5b45c", func := "quern/quernlaw21.R16Rests", spec := "r16Rests", unfollowed := true, recurses := true, apart := false, narrowed := true }
def R16RestsUptoSaid : Prop := r16RestsUptoRow.holds Try.pinned (OpenSpec.upto r16RestsSpec)

end Rows
end Go.Proofs.Ytkjfbojmkkdgoaa
