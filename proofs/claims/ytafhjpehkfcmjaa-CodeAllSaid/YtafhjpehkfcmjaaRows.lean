/-
  No cell of these rows narrows 'for every input' (looked for: loops, veiled, ifaces, maps, wideKeys, modest, calm, conditions, laid).
  DERIVED. THE GIVEN ROWS OF THIS SEAT. 9 by the template 'for every input the law returns true; each argument reads behind the call as it read before'; 0 by the template 'total and deterministic' (their statements: YtafhjpehkfcmjaaTotals.lean).
  GIVEN WITH THE SEED: the statements are not yours to turn. If you find one false, say at which input.
  Laid BY PROGRAM, IN A SANDBOX (cutbox-rows.mjs): the forced cells as the released guide's own fill.sh prints them over the translation 4e4061f7964547f4… (all of the seat's roots in one cut). By AI agents, Wed Nov 11 2026. No macro, syntax, notation, axiom, sorry.
-/
import Derived.Test.YtafhjpehkfcmjaaChecked
import GoSem.Claim
import GoSem.ClaimJoined
import GoSem.ClaimMapViews
import Derived.JoinedTies
import Derived.KernelRfl
namespace Go.Proofs.Ytafhjpehkfcmjaa
/- THE CELL 'sum', in the pinned program and in every row, IS THE sha256 OF THE DUMP (.gsa) THAT YtafhjpehkfcmjaaProg.lean LOADS. Nothing in Lean hashes anything: it is a label: what it is worth is what the hold of that sum in a sandbox is worth. -/
noncomputable def Try.pinned : Pinned := { name := "ytafhjpehkfcmjaa", sum := "4e4061f7964547f4457729be54e17e3f6068e4559dc1350ebb70b71496d439de", checked := Try.checked }
namespace Rows
def none {H : Type} : Left H := { results := [], args := [] }

/-- 'quernlaw22.CodeWrite': WHATEVER THE INPUT: true; the input reads as it did. -/
def codeWriteSpec : ChangeSpec := { name := "codeWrite", fn := fun _ => fun
  | [d] => { results := [.lit (.bool true)], args := [d] }
  | _ => none }
def codeWriteRow : OpenClaim := { program := "ytafhjpehkfcmjaa", sum := "4e4061f7964547f4457729be54e17e3f6068e4559dc1350ebb70b71496d439de", func := "quern/quernlaw22.CodeWrite", spec := "codeWrite", apart := false }
def CodeWriteSaid : Prop := codeWriteRow.holds Try.pinned (OpenSpec.ofChange codeWriteSpec)

/-- ITS FALSE NEIGHBOUR: 'it returns false'. Refute it at one input. -/
def codeWriteWrong : ChangeSpec := { name := "codeWrite", fn := fun _ => fun
  | [d] => { results := [.lit (.bool false)], args := [d] }
  | _ => none }
def CodeWriteWrongFalsely : Prop := codeWriteRow.holds Try.pinned (OpenSpec.ofChange codeWriteWrong)

/-- 'quernlaw22.CodeRead': WHATEVER THE INPUT: true; the input reads as it did. -/
def codeReadSpec : ChangeSpec := { name := "codeRead", fn := fun _ => fun
  | [d] => { results := [.lit (.bool true)], args := [d] }
  | _ => none }
def codeReadRow : OpenClaim := { program := "ytafhjpehkfcmjaa", sum := "4e4061f7964547f4457729be54e17e3f6068e4559dc1350ebb70b71496d439de", func := "quern/quernlaw22.CodeRead", spec := "codeRead", apart := false }
def CodeReadSaid : Prop := codeReadRow.holds Try.pinned (OpenSpec.ofChange codeReadSpec)

/-- ITS FALSE NEIGHBOUR: 'it returns false'. Refute it at one input. -/
def codeReadWrong : ChangeSpec := { name := "codeRead", fn := fun _ => fun
  | [d] => { results := [.lit (.bool false)], args := [d] }
  | _ => none }
def CodeReadWrongFalsely : Prop := codeReadRow.holds Try.pinned (OpenSpec.ofChange codeReadWrong)

/-- 'quernlaw22.CodeAll': WHATEVER THE INPUT: true; the input reads as it did. -/
def codeAllSpec : ChangeSpec := { name := "codeAll", fn := fun _ => fun
  | [d] => { results := [.lit (.bool true)], args := [d] }
  | _ => none }
def codeAllRow : OpenClaim := { program := "ytafhjpehkfcmjaa", sum := "4e4061f7964547f4457729be54e17e3f6068e4559dc1350ebb70b71496d439de", func := "quern/quernlaw22.CodeAll", spec := "codeAll", apart := false }
def CodeAllSaid : Prop := codeAllRow.holds Try.pinned (OpenSpec.ofChange codeAllSpec)

/-- ITS FALSE NEIGHBOUR: 'it returns false'. Refute it at one input. -/
def codeAllWrong : ChangeSpec := { name := "codeAll", fn := fun _ => fun
  | [d] => { results := [.lit (.bool false)], args := [d] }
  | _ => none }
def CodeAllWrongFalsely : Prop := codeAllRow.holds Try.pinned (OpenSpec.ofChange codeAllWrong)

/-- 'quernlaw22.CodeBack': WHATEVER THE INPUT: true; the input reads as it did. -/
def codeBackSpec : ChangeSpec := { name := "codeBack", fn := fun _ => fun
  | [d] => { results := [.lit (.bool true)], args := [d] }
  | _ => none }
def codeBackRow : OpenClaim := { program := "ytafhjpehkfcmjaa", sum := "4e4061f7964547f4457729be54e17e3f6068e4559dc1350ebb70b71496d439de", func := "quern/quernlaw22.CodeBack", spec := "codeBack", apart := false }
def CodeBackSaid : Prop := codeBackRow.holds Try.pinned (OpenSpec.ofChange codeBackSpec)

/-- ITS FALSE NEIGHBOUR: 'it returns false'. Refute it at one input. -/
def codeBackWrong : ChangeSpec := { name := "codeBack", fn := fun _ => fun
  | [d] => { results := [.lit (.bool false)], args := [d] }
  | _ => none }
def CodeBackWrongFalsely : Prop := codeBackRow.holds Try.pinned (OpenSpec.ofChange codeBackWrong)

/-- 'quernlaw22.CodeOneForm': WHATEVER THE INPUT: true; the input reads as it did. -/
def codeOneFormSpec : ChangeSpec := { name := "codeOneForm", fn := fun _ => fun
  | [d] => { results := [.lit (.bool true)], args := [d] }
  | _ => none }
def codeOneFormRow : OpenClaim := { program := "ytafhjpehkfcmjaa", sum := "4e4061f7964547f4457729be54e17e3f6068e4559dc1350ebb70b71496d439de", func := "quern/quernlaw22.CodeOneForm", spec := "codeOneForm", apart := false }
def CodeOneFormSaid : Prop := codeOneFormRow.holds Try.pinned (OpenSpec.ofChange codeOneFormSpec)

/-- ITS FALSE NEIGHBOUR: 'it returns false'. Refute it at one input. -/
def codeOneFormWrong : ChangeSpec := { name := "codeOneForm", fn := fun _ => fun
  | [d] => { results := [.lit (.bool false)], args := [d] }
  | _ => none }
def CodeOneFormWrongFalsely : Prop := codeOneFormRow.holds Try.pinned (OpenSpec.ofChange codeOneFormWrong)

/-- 'quernlaw22.CodeLong': WHATEVER THE INPUT: true; the input reads as it did. -/
def codeLongSpec : ChangeSpec := { name := "codeLong", fn := fun _ => fun
  | [d1, d2] => { results := [.lit (.bool true)], args := [d1, d2] }
  | _ => none }
def codeLongRow : OpenClaim := { program := "ytafhjpehkfcmjaa", sum := "4e4061f7964547f4457729be54e17e3f6068e4559dc1350ebb70b71496d439de", func := "quern/quernlaw22.CodeLong", spec := "codeLong", apart := false }
def CodeLongSaid : Prop := codeLongRow.holds Try.pinned (OpenSpec.ofChange codeLongSpec)

/-- ITS FALSE NEIGHBOUR: 'it returns false'. Refute it at one input. -/
def codeLongWrong : ChangeSpec := { name := "codeLong", fn := fun _ => fun
  | [d1, d2] => { results := [.lit (.bool false)], args := [d1, d2] }
  | _ => none }
def CodeLongWrongFalsely : Prop := codeLongRow.holds Try.pinned (OpenSpec.ofChange codeLongWrong)

/-- 'quernlaw22.CodeNames': WHATEVER THE INPUT: true; the input reads as it did. -/
def codeNamesSpec : ChangeSpec := { name := "codeNames", fn := fun _ => fun
  | [d1, d2, d3] => { results := [.lit (.bool true)], args := [d1, d2, d3] }
  | _ => none }
def codeNamesRow : OpenClaim := { program := "ytafhjpehkfcmjaa", sum := "4e4061f7964547f4457729be54e17e3f6068e4559dc1350ebb70b71496d439de", func := "quern/quernlaw22.CodeNames", spec := "codeNames", apart := false }
def CodeNamesSaid : Prop := codeNamesRow.holds Try.pinned (OpenSpec.ofChange codeNamesSpec)

/-- ITS FALSE NEIGHBOUR: 'it returns false'. Refute it at one input. -/
def codeNamesWrong : ChangeSpec := { name := "codeNames", fn := fun _ => fun
  | [d1, d2, d3] => { results := [.lit (.bool false)], args := [d1, d2, d3] }
  | _ => none }
def CodeNamesWrongFalsely : Prop := codeNamesRow.holds Try.pinned (OpenSpec.ofChange codeNamesWrong)

/-- 'quernlaw22.CodePlaces': WHATEVER THE INPUT: true; the input reads as it did. -/
def codePlacesSpec : ChangeSpec := { name := "codePlaces", fn := fun _ => fun
  | [d1, d2, d3] => { results := [.lit (.bool true)], args := [d1, d2, d3] }
  | _ => none }
def codePlacesRow : OpenClaim := { program := "ytafhjpehkfcmjaa", sum := "4e4061f7964547f4457729be54e17e3f6068e4559dc1350ebb70b71496d439de", func := "quern/quernlaw22.CodePlaces", spec := "codePlaces", apart := false }
def CodePlacesSaid : Prop := codePlacesRow.holds Try.pinned (OpenSpec.ofChange codePlacesSpec)

/-- ITS FALSE NEIGHBOUR: 'it returns false'. Refute it at one input. -/
def codePlacesWrong : ChangeSpec := { name := "codePlaces", fn := fun _ => fun
  | [d1, d2, d3] => { results := [.lit (.bool false)], args := [d1, d2, d3] }
  | _ => none }
def CodePlacesWrongFalsely : Prop := codePlacesRow.holds Try.pinned (OpenSpec.ofChange codePlacesWrong)

/-- 'quernlaw22.CodeFlip': WHATEVER THE INPUT: true; the input reads as it did. -/
def codeFlipSpec : ChangeSpec := { name := "codeFlip", fn := fun _ => fun
  | [d1, d2, d3] => { results := [.lit (.bool true)], args := [d1, d2, d3] }
  | _ => none }
def codeFlipRow : OpenClaim := { program := "ytafhjpehkfcmjaa", sum := "4e4061f7964547f4457729be54e17e3f6068e4559dc1350ebb70b71496d439de", func := "quern/quernlaw22.CodeFlip", spec := "codeFlip", apart := false }
def CodeFlipSaid : Prop := codeFlipRow.holds Try.pinned (OpenSpec.ofChange codeFlipSpec)

/-- ITS FALSE NEIGHBOUR: 'it returns false'. Refute it at one input. -/
def codeFlipWrong : ChangeSpec := { name := "codeFlip", fn := fun _ => fun
  | [d1, d2, d3] => { results := [.lit (.bool false)], args := [d1, d2, d3] }
  | _ => none }
def CodeFlipWrongFalsely : Prop := codeFlipRow.holds Try.pinned (OpenSpec.ofChange codeFlipWrong)

/- THE SECOND FORM. 'bulk': how many values and letters a reading holds, each counted each time it is reached (what is shared counts as often as it is met; a slice's spare places count too). A statement '..UptoSaid' is the law's where the arguments, and the package variables that the reading takes, are together of bulk at most 1048576: NARROWER than '..Said'. Prove '..Said' where nothing that the law and all that it calls make is longer than what came in: it says more and counts as full. Else prove '..UptoSaid'. A law counts once. -/
mutual
def uptoBulk {H : Type} : DataW H → Nat
  | .lit (.string bytes) => bytes.length + 1
  | .lit _ => 1
  | .nil => 1
  | .ptr d => uptoBulk d + 1
  | .slice elems spare => uptoBulkAll elems + uptoBulkAll spare + 1
  | .agg parts => uptoBulkAll parts + 1
  | .iface _ d => uptoBulk d + 1
  | .map entries => uptoBulkEntries entries + 1
  | .held _ => 1
def uptoBulkAll {H : Type} : List (DataW H) → Nat
  | [] => 0
  | d :: r => uptoBulk d + uptoBulkAll r
def uptoBulkEntries {H : Type} : List (Lit × DataW H) → Nat
  | [] => 0
  | x :: r => uptoBulkEntry x + uptoBulkEntries r
def uptoBulkEntry {H : Type} : Lit × DataW H → Nat
  | (.string bytes, d) => bytes.length + uptoBulk d + 1
  | (_, d) => uptoBulk d + 1
 end
def uptoSmall : (H : Type) → List (DataW H) → Bool := fun _ ds => decide (uptoBulkAll ds ≤ 1048576)
def OpenSpec.upto (s : _root_.Go.ChangeSpec) : _root_.Go.OpenSpec := { _root_.Go.OpenSpec.ofChange s with cond := some uptoSmall }

/-- 'quernlaw22.CodeWrite', WHERE WHAT IT READS IS OF BULK AT MOST 1048576: true; the input reads as it did. -/
def codeWriteUptoRow : OpenClaim := { program := "ytafhjpehkfcmjaa", sum := "4e4061f7964547f4457729be54e17e3f6068e4559dc1350ebb70b71496d439de", func := "quern/quernlaw22.CodeWrite", spec := "codeWrite", apart := false, narrowed := true }
def CodeWriteUptoSaid : Prop := codeWriteUptoRow.holds Try.pinned (OpenSpec.upto codeWriteSpec)

/-- 'quernlaw22.CodeRead', WHERE WHAT IT READS IS OF BULK AT MOST 1048576: true; the input reads as it did. -/
def codeReadUptoRow : OpenClaim := { program := "ytafhjpehkfcmjaa", sum := "4e4061f7964547f4457729be54e17e3f6068e4559dc1350ebb70b71496d439de", func := "quern/quernlaw22.CodeRead", spec := "codeRead", apart := false, narrowed := true }
def CodeReadUptoSaid : Prop := codeReadUptoRow.holds Try.pinned (OpenSpec.upto codeReadSpec)

/-- 'quernlaw22.CodeAll', WHERE WHAT IT READS IS OF BULK AT MOST 1048576: true; the input reads as it did. -/
def codeAllUptoRow : OpenClaim := { program := "ytafhjpehkfcmjaa", sum := "4e4061f7964547f4457729be54e17e3f6068e4559dc1350ebb70b71496d439de", func := "quern/quernlaw22.CodeAll", spec := "codeAll", apart := false, narrowed := true }
def CodeAllUptoSaid : Prop := codeAllUptoRow.holds Try.pinned (OpenSpec.upto codeAllSpec)

/-- 'quernlaw22.CodeBack', WHERE WHAT IT READS IS OF BULK AT MOST 1048576: true; the input reads as it did. -/
def codeBackUptoRow : OpenClaim := { program := "ytafhjpehkfcmjaa", sum := "4e4061f7964547f4457729be54e17e3f6068e4559dc1350ebb70b71496d439de", func := "quern/quernlaw22.CodeBack", spec := "codeBack", apart := false, narrowed := true }
def CodeBackUptoSaid : Prop := codeBackUptoRow.holds Try.pinned (OpenSpec.upto codeBackSpec)

/-- 'quernlaw22.CodeOneForm', WHERE WHAT IT READS IS OF BULK AT MOST 1048576: true; the input reads as it did. -/
def codeOneFormUptoRow : OpenClaim := { program := "ytafhjpehkfcmjaa", sum := "4e4061f7964547f4457729be54e17e3f6068e4559dc1350ebb70b71496d439de", func := "quern/quernlaw22.CodeOneForm", spec := "codeOneForm", apart := false, narrowed := true }
def CodeOneFormUptoSaid : Prop := codeOneFormUptoRow.holds Try.pinned (OpenSpec.upto codeOneFormSpec)

/-- 'quernlaw22.CodeLong', WHERE WHAT IT READS IS OF BULK AT MOST 1048576: true; the input reads as it did. -/
def codeLongUptoRow : OpenClaim := { program := "ytafhjpehkfcmjaa", sum := "4e4061f7964547f4457729be54e17e3f6068e4559dc1350ebb70b71496d439de", func := "quern/quernlaw22.CodeLong", spec := "codeLong", apart := false, narrowed := true }
def CodeLongUptoSaid : Prop := codeLongUptoRow.holds Try.pinned (OpenSpec.upto codeLongSpec)

/-- 'quernlaw22.CodeNames', WHERE WHAT IT READS IS OF BULK AT MOST 1048576: true; the input reads as it did. -/
def codeNamesUptoRow : OpenClaim := { program := "ytafhjpehkfcmjaa", sum := "4e4061f7964547f4457729be54e17e3f6068e4559dc1350ebb70b71496d439de", func := "quern/quernlaw22.CodeNames", spec := "codeNames", apart := false, narrowed := true }
def CodeNamesUptoSaid : Prop := codeNamesUptoRow.holds Try.pinned (OpenSpec.upto codeNamesSpec)

/-- 'quernlaw22.CodePlaces', WHERE WHAT IT READS IS OF BULK AT MOST 1048576: true; the input reads as it did. -/
def codePlacesUptoRow : OpenClaim := { program := "ytafhjpehkfcmjaa", sum := "4e4061f7964547f4457729be54e17e3f6068e4559dc1350ebb70b71496d439de", func := "quern/quernlaw22.CodePlaces", spec := "codePlaces", apart := false, narrowed := true }
def CodePlacesUptoSaid : Prop := codePlacesUptoRow.holds Try.pinned (OpenSpec.upto codePlacesSpec)

/-- 'quernlaw22.CodeFlip', WHERE WHAT IT READS IS OF BULK AT MOST 1048576: true; the input reads as it did. -/
def codeFlipUptoRow : OpenClaim := { program := "ytafhjpehkfcmjaa", sum := "4e4061f7964547f4457729be54e17e3f6068e4559dc1350ebb70b71496d439de", func := "quern/quernlaw22.CodeFlip", spec := "codeFlip", apart := false, narrowed := true }
def CodeFlipUptoSaid : Prop := codeFlipUptoRow.holds Try.pinned (OpenSpec.upto codeFlipSpec)

end Rows
end Go.Proofs.Ytafhjpehkfcmjaa
