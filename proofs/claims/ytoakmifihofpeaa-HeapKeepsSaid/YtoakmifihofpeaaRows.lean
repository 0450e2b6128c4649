/-
  No cell of these rows narrows 'for every input' (looked for: loops, veiled, ifaces, maps, wideKeys, modest, calm, conditions, laid).
  DERIVED. THE GIVEN ROWS OF THIS SEAT. 5 by the template 'for every input the law returns true; each argument reads behind the call as it read before'; 0 by the template 'total and deterministic' (their statements: YtoakmifihofpeaaTotals.lean).
  GIVEN WITH THE SEED: the statements are not yours to turn. If you find one false, say at which input.
  Laid BY PROGRAM, IN A SANDBOX (cutbox-rows.mjs): the forced cells as the released guide's own fill.sh prints them over the translation b9ab14cea44b42d3… (all of the seat's roots in one cut). By AI agents, Wed Nov 11 2026. No macro, syntax, notation, axiom, sorry.
-/
import Derived.Test.YtoakmifihofpeaaChecked
import GoSem.Claim
import GoSem.ClaimJoined
import GoSem.ClaimMapViews
import Derived.JoinedTies
import Derived.KernelRfl
namespace Go.Proofs.Ytoakmifihofpeaa
/- THE CELL 'sum', in the pinned program and in every row, IS THE sha256 OF THE DUMP (.gsa) THAT YtoakmifihofpeaaProg.lean LOADS. Nothing in Lean hashes anything: it is a label: what it is worth is what the hold of that sum in a sandbox is worth. -/
noncomputable def Try.pinned : Pinned := { name := "ytoakmifihofpeaa", sum := "b9ab14cea44b42d35fdba4aef36abe3ec9dfe53f03e5efac8aed31a23eff40f0", checked := Try.checked }
namespace Rows
def none {H : Type} : Left H := { results := [], args := [] }

/-- 'quernlaw6.HeapMakes': WHATEVER THE INPUT: true; the input reads as it did. -/
def heapMakesSpec : ChangeSpec := { name := "heapMakes", fn := fun _ => fun
  | [d] => { results := [.lit (.bool true)], args := [d] }
  | _ => none }
def heapMakesRow : OpenClaim := { program := "ytoakmifihofpeaa", sum := "b9ab14cea44b42d35fdba4aef36abe3ec9dfe53f03e5efac8aed31a23eff40f0", func := "quern/quernlaw6.HeapMakes", spec := "heapMakes", apart := false }
def HeapMakesSaid : Prop := heapMakesRow.holds Try.pinned (OpenSpec.ofChange heapMakesSpec)

/-- ITS FALSE NEIGHBOUR: 'it returns false'. Refute it at one input. -/
def heapMakesWrong : ChangeSpec := { name := "heapMakes", fn := fun _ => fun
  | [d] => { results := [.lit (.bool false)], args := [d] }
  | _ => none }
def HeapMakesWrongFalsely : Prop := heapMakesRow.holds Try.pinned (OpenSpec.ofChange heapMakesWrong)

/-- 'quernlaw6.HeapWords': WHATEVER THE INPUT: true; the input reads as it did. -/
def heapWordsSpec : ChangeSpec := { name := "heapWords", fn := fun _ => fun
  | [d] => { results := [.lit (.bool true)], args := [d] }
  | _ => none }
def heapWordsRow : OpenClaim := { program := "ytoakmifihofpeaa", sum := "b9ab14cea44b42d35fdba4aef36abe3ec9dfe53f03e5efac8aed31a23eff40f0", func := "quern/quernlaw6.HeapWords", spec := "heapWords", apart := false }
def HeapWordsSaid : Prop := heapWordsRow.holds Try.pinned (OpenSpec.ofChange heapWordsSpec)

/-- ITS FALSE NEIGHBOUR: 'it returns false'. Refute it at one input. -/
def heapWordsWrong : ChangeSpec := { name := "heapWords", fn := fun _ => fun
  | [d] => { results := [.lit (.bool false)], args := [d] }
  | _ => none }
def HeapWordsWrongFalsely : Prop := heapWordsRow.holds Try.pinned (OpenSpec.ofChange heapWordsWrong)

/-- 'quernlaw6.HeapAll': WHATEVER THE INPUT: true; the input reads as it did. -/
def heapAllSpec : ChangeSpec := { name := "heapAll", fn := fun _ => fun
  | [d] => { results := [.lit (.bool true)], args := [d] }
  | _ => none }
def heapAllRow : OpenClaim := { program := "ytoakmifihofpeaa", sum := "b9ab14cea44b42d35fdba4aef36abe3ec9dfe53f03e5efac8aed31a23eff40f0", func := "quern/quernlaw6.HeapAll", spec := "heapAll", apart := false }
def HeapAllSaid : Prop := heapAllRow.holds Try.pinned (OpenSpec.ofChange heapAllSpec)

/-- ITS FALSE NEIGHBOUR: 'it returns false'. Refute it at one input. -/
def heapAllWrong : ChangeSpec := { name := "heapAll", fn := fun _ => fun
  | [d] => { results := [.lit (.bool false)], args := [d] }
  | _ => none }
def HeapAllWrongFalsely : Prop := heapAllRow.holds Try.pinned (OpenSpec.ofChange heapAllWrong)

/-- 'quernlaw6.HeapKeeps': WHATEVER THE INPUT: true; the input reads as it did. -/
def heapKeepsSpec : ChangeSpec := { name := "heapKeeps", fn := fun _ => fun
  | [d1, d2] => { results := [.lit (.bool true)], args := [d1, d2] }
  | _ => none }
def heapKeepsRow : OpenClaim := { program := "ytoakmifihofpeaa", sum := "b9ab14cea44b42d35fdba4aef36abe3ec9dfe53f03e5efac8aed31a23eff40f0", func := "quern/quernlaw6.HeapKeeps", spec := "heapKeeps", apart := false }
def HeapKeepsSaid : Prop := heapKeepsRow.holds Try.pinned (OpenSpec.ofChange heapKeepsSpec)

/-- ITS FALSE NEIGHBOUR: 'it returns false'. Refute it at one input. -/
def heapKeepsWrong : ChangeSpec := { name := "heapKeeps", fn := fun _ => fun
  | [d1, d2] => { results := [.lit (.bool false)], args := [d1, d2] }
  | _ => none }
def HeapKeepsWrongFalsely : Prop := heapKeepsRow.holds Try.pinned (OpenSpec.ofChange heapKeepsWrong)

/-- 'quernlaw6.HeapFar': WHATEVER THE INPUT: true; the input reads as it did. -/
def heapFarSpec : ChangeSpec := { name := "heapFar", fn := fun _ => fun
  | [d1, d2, d3, d4] => { results := [.lit (.bool true)], args := [d1, d2, d3, d4] }
  | _ => none }
def heapFarRow : OpenClaim := { program := "ytoakmifihofpeaa", sum := "b9ab14cea44b42d35fdba4aef36abe3ec9dfe53f03e5efac8aed31a23eff40f0", func := "quern/quernlaw6.HeapFar", spec := "heapFar", apart := false }
def HeapFarSaid : Prop := heapFarRow.holds Try.pinned (OpenSpec.ofChange heapFarSpec)

/-- ITS FALSE NEIGHBOUR: 'it returns false'. Refute it at one input. -/
def heapFarWrong : ChangeSpec := { name := "heapFar", fn := fun _ => fun
  | [d1, d2, d3, d4] => { results := [.lit (.bool false)], args := [d1, d2, d3, d4] }
  | _ => none }
def HeapFarWrongFalsely : Prop := heapFarRow.holds Try.pinned (OpenSpec.ofChange heapFarWrong)

/- THE SECOND FORM. 'bulk': how many values and letters a reading holds, each counted each time it is reached (what is shared counts as often as it is met; a slice's spare places count too). A statement '..UptoSaid' is the law's where the arguments, and the package variables that the reading takes, are together of bulk at most 1048576: NARROWER than '..Said'. Prove '..Said' where nothing that the law and all that it calls make is longer than what came in: it says more and counts as full. Else prove '..UptoSaid'. A law counts once. -/
mutual
def uptoBulk {H : Type} : DataW H → Nat
  | .lit (.string bytes) => bytes.length + 1
  | .lit _ => 1
  | .nil => 1
  | .ptr d => uptoBulk d + 1
  | .slice elems spare => uptoBulkAll elems + uptoBulkAll spare + 1
  | .agg parts => uptoBulkAll parts + 1
  | .iface _ d => uptoBulk d + 1
  | .map entries => uptoBulkEntries entries + 1
  | .held _ => 1
def uptoBulkAll {H : Type} : List (DataW H) → Nat
  | [] => 0
  | d :: r => uptoBulk d + uptoBulkAll r
def uptoBulkEntries {H : Type} : List (Lit × DataW H) → Nat
  | [] => 0
  | x :: r => uptoBulkEntry x + uptoBulkEntries r
def uptoBulkEntry {H : Type} : Lit × DataW H → Nat
  | (.string bytes, d) => bytes.length + uptoBulk d + 1
  | (_, d) => uptoBulk d + 1
 end
def uptoSmall : (H : Type) → List (DataW H) → Bool := fun _ ds => decide (uptoBulkAll ds ≤ 1048576)
def OpenSpec.upto (s : _root_.Go.ChangeSpec) : _root_.Go.OpenSpec := { _root_.Go.OpenSpec.ofChange s with cond := some uptoSmall }

/-- 'quernlaw6.HeapMakes', WHERE WHAT IT READS IS OF BULK AT MOST 1048576: true; the input reads as it did. -/
def heapMakesUptoRow : OpenClaim := { program := "ytoakmifihofpeaa", sum := "b9ab14cea44b42d35fdba4aef36abe3ec9dfe53f03e5efac8aed31a23eff40f0", func := "quern/quernlaw6.HeapMakes", spec := "heapMakes", apart := false, narrowed := true }
def HeapMakesUptoSaid : Prop := heapMakesUptoRow.holds Try.pinned (OpenSpec.upto heapMakesSpec)

/-- 'quernlaw6.HeapWords', WHERE WHAT IT READS IS OF BULK AT MOST 1048576: true; the input reads as it did. -/
def heapWordsUptoRow : OpenClaim := { program := "ytoakmifihofpeaa", sum := "b9ab14cea44b42d35fdba4aef36abe3ec9dfe53f03e5efac8aed31a23eff40f0", func := "quern/quernlaw6.HeapWords", spec := "heapWords", apart := false, narrowed := true }
def HeapWordsUptoSaid : Prop := heapWordsUptoRow.holds Try.pinned (OpenSpec.upto heapWordsSpec)

/-- 'quernlaw6.HeapAll', WHERE WHAT IT READS IS OF BULK AT MOST 1048576: true; the input reads as it did. -/
def heapAllUptoRow : OpenClaim := { program := "ytoakmifihofpeaa", sum := "b9ab14cea44b42d35fdba4aef36abe3ec9dfe53f03e5efac8aed31a23eff40f0", func := "quern/quernlaw6.HeapAll", spec := "heapAll", apart := false, narrowed := true }
def HeapAllUptoSaid : Prop := heapAllUptoRow.holds Try.pinned (OpenSpec.upto heapAllSpec)

/-- 'quernlaw6.HeapKeeps', WHERE WHAT IT READS IS OF BULK AT MOST 1048576: true; the input reads as it did. -/
def heapKeepsUptoRow : OpenClaim := { program := "ytoakmifihofpeaa", sum := "b9ab14cea44b42d35fdba4aef36abe3ec9dfe53f03e5efac8aed31a23eff40f0", func := "quern/quernlaw6.HeapKeeps", spec := "heapKeeps", apart := false, narrowed := true }
def HeapKeepsUptoSaid : Prop := heapKeepsUptoRow.holds Try.pinned (OpenSpec.upto heapKeepsSpec)

/-- 'quernlaw6.HeapFar', WHERE WHAT IT READS IS OF BULK AT MOST 1048576: true; the input reads as it did. -/
def heapFarUptoRow : OpenClaim := { program := "ytoakmifihofpeaa", sum := "b9ab14cea44b42d35fdba4aef36abe3ec9dfe53f03e5efac8aed31a23eff40f0", func := "quern/quernlaw6.HeapFar", spec := "heapFar", apart := false, narrowed := true }
def HeapFarUptoSaid : Prop := heapFarUptoRow.holds Try.pinned (OpenSpec.upto heapFarSpec)

end Rows
end Go.Proofs.Ytoakmifihofpeaa
