/-
  No cell of these rows narrows 'for every input' (looked for: loops, veiled, ifaces, maps, wideKeys, modest, calm, conditions, laid).
  DERIVED. THE GIVEN ROWS OF THIS SEAT. 6 by the template 'for every input the law returns true; each argument reads behind the call as it read before'; 0 by the template 'total and deterministic' (their statements: YtdpeckfdilpidaaTotals.lean).
  GIVEN WITH THE SEED: the statements are not yours to turn. If you find one false, say at which input.
  Laid BY PROGRAM, IN A SANDBOX (cutbox-rows.mjs): the forced cells as the released guide's own fill.sh prints them over the translation 79fb6ca0eff92308… (all of the seat's roots in one cut). By AI agents, Wed Nov 11 2026. No macro, syntax, notation, axiom, sorry.
-/
import Derived.Test.YtdpeckfdilpidaaChecked
import GoSem.Claim
import GoSem.ClaimJoined
import GoSem.ClaimMapViews
import Derived.JoinedTies
import Derived.KernelRfl
namespace Go.Proofs.Ytdpeckfdilpidaa
/- THE CELL 'sum', in the pinned program and in every row, IS THE sha256 OF THE DUMP (.gsa) THAT YtdpeckfdilpidaaProg.lean LOADS. Nothing in Lean hashes anything: it is a label: what it is worth is what the hold of that sum in a sandbox is worth. -/
noncomputable def Try.pinned : Pinned := { name := "ytdpeckfdilpidaa", sum := "79fb6ca0eff923083ddb556e0c9caae61f20e91f9bf421ba20382b34017b3d75", checked := Try.checked }
namespace Rows
def none {H : Type} : Left H := { results := [], args := [] }

/-- 'quernlaw16.OrderLine': WHATEVER THE INPUT: true; the input reads as it did. -/
def orderLineSpec : ChangeSpec := { name := "orderLine", fn := fun _ => fun
  | [d] => { results := [.lit (.bool true)], args := [d] }
  | _ => none }
def orderLineRow : OpenClaim := { program := "ytdpeckfdilpidaa", sum := "79fb6ca0eff923083ddb556e0c9caae61f20e91f9bf421ba20382b34017b3d75", func := "quern/quernlaw16.OrderLine", spec := "orderLine", unfollowed := true, recurses := true, apart := false }
def OrderLineSaid : Prop := orderLineRow.holds Try.pinned (OpenSpec.ofChange orderLineSpec)

/-- ITS FALSE NEIGHBOUR: 'it returns false'. Refute it at one input. -/
def orderLineWrong : ChangeSpec := { name := "orderLine", fn := fun _ => fun
  | [d] => { results := [.lit (.bool false)], args := [d] }
  | _ => none }
def OrderLineWrongFalsely : Prop := orderLineRow.holds Try.pinned (OpenSpec.ofChange orderLineWrong)

/-- 'quernlaw16.OrderOnce': WHATEVER THE INPUT: true; the input reads as it did. -/
def orderOnceSpec : ChangeSpec := { name := "orderOnce", fn := fun _ => fun
  | [d] => { results := [.lit (.bool true)], args := [d] }
  | _ => none }
def orderOnceRow : OpenClaim := { program := "ytdpeckfdilpidaa", sum := "79fb6ca0eff923083ddb556e0c9caae61f20e91f9bf421ba20382b34017b3d75", func := "quern/quernlaw16.OrderOnce", spec := "orderOnce", unfollowed := true, recurses := true, apart := false }
def OrderOnceSaid : Prop := orderOnceRow.holds Try.pinned (OpenSpec.ofChange orderOnceSpec)

/-- ITS FALSE NEIGHBOUR: 'it returns false'. Refute it at one input. -/
def orderOnceWrong : ChangeSpec := { name := "orderOnce", fn := fun _ => fun
  | [d] => { results := [.lit (.bool false)], args := [d] }
  | _ => none }
def OrderOnceWrongFalsely : Prop := orderOnceRow.holds Try.pinned (OpenSpec.ofChange orderOnceWrong)

/-- 'quernlaw16.OrderBack': WHATEVER THE INPUT: true; the input reads as it did. -/
def orderBackSpec : ChangeSpec := { name := "orderBack", fn := fun _ => fun
  | [d] => { results := [.lit (.bool true)], args := [d] }
  | _ => none }
def orderBackRow : OpenClaim := { program := "ytdpeckfdilpidaa", sum := "79fb6ca0eff923083ddb556e0c9caae61f20e91f9bf421ba20382b34017b3d75", func := "quern/quernlaw16.OrderBack", spec := "orderBack", unfollowed := true, recurses := true, apart := false }
def OrderBackSaid : Prop := orderBackRow.holds Try.pinned (OpenSpec.ofChange orderBackSpec)

/-- ITS FALSE NEIGHBOUR: 'it returns false'. Refute it at one input. -/
def orderBackWrong : ChangeSpec := { name := "orderBack", fn := fun _ => fun
  | [d] => { results := [.lit (.bool false)], args := [d] }
  | _ => none }
def OrderBackWrongFalsely : Prop := orderBackRow.holds Try.pinned (OpenSpec.ofChange orderBackWrong)

/-- 'quernlaw16.OrderWays': WHATEVER THE INPUT: true; the input reads as it did. -/
def orderWaysSpec : ChangeSpec := { name := "orderWays", fn := fun _ => fun
  | [d1, d2] => { results := [.lit (.bool true)], args := [d1, d2] }
  | _ => none }
def orderWaysRow : OpenClaim := { program := "ytdpeckfdilpidaa", sum := "79fb6ca0eff923083ddb556e0c9caae61f20e91f9bf421ba20382b34017b3d75", func := "quern/quernlaw16.OrderWays", spec := "orderWays", unfollowed := true, recurses := true, apart := false }
def OrderWaysSaid : Prop := orderWaysRow.holds Try.pinned (OpenSpec.ofChange orderWaysSpec)

/-- ITS FALSE NEIGHBOUR: 'it returns false'. Refute it at one input. -/
def orderWaysWrong : ChangeSpec := { name := "orderWays", fn := fun _ => fun
  | [d1, d2] => { results := [.lit (.bool false)], args := [d1, d2] }
  | _ => none }
def OrderWaysWrongFalsely : Prop := orderWaysRow.holds Try.pinned (OpenSpec.ofChange orderWaysWrong)

/-- 'quernlaw16.OrderChain': WHATEVER THE INPUT: true; the input reads as it did. -/
def orderChainSpec : ChangeSpec := { name := "orderChain", fn := fun _ => fun
  | [d] => { results := [.lit (.bool true)], args := [d] }
  | _ => none }
def orderChainRow : OpenClaim := { program := "ytdpeckfdilpidaa", sum := "79fb6ca0eff923083ddb556e0c9caae61f20e91f9bf421ba20382b34017b3d75", func := "quern/quernlaw16.OrderChain", spec := "orderChain", unfollowed := true, recurses := true, apart := false }
def OrderChainSaid : Prop := orderChainRow.holds Try.pinned (OpenSpec.ofChange orderChainSpec)

/-- ITS FALSE NEIGHBOUR: 'it returns false'. Refute it at one input. -/
def orderChainWrong : ChangeSpec := { name := "orderChain", fn := fun _ => fun
  | [d] => { results := [.lit (.bool false)], args := [d] }
  | _ => none }
def OrderChainWrongFalsely : Prop := orderChainRow.holds Try.pinned (OpenSpec.ofChange orderChainWrong)

/-- 'quernlaw16.OrderAll': WHATEVER THE INPUT: true; the input reads as it did. -/
def orderAllSpec : ChangeSpec := { name := "orderAll", fn := fun _ => fun
  | [d] => { results := [.lit (.bool true)], args := [d] }
  | _ => none }
def orderAllRow : OpenClaim := { program := "ytdpeckfdilpidaa", sum := "79fb6ca0eff923083ddb556e0c9caae61f20e91f9bf421ba20382b34017b3d75", func := "quern/quernlaw16.OrderAll", spec := "orderAll", unfollowed := true, recurses := true, apart := false }
def OrderAllSaid : Prop := orderAllRow.holds Try.pinned (OpenSpec.ofChange orderAllSpec)

/-- ITS FALSE NEIGHBOUR: 'it returns false'. Refute it at one input. -/
def orderAllWrong : ChangeSpec := { name := "orderAll", fn := fun _ => fun
  | [d] => { results := [.lit (.bool false)], args := [d] }
  | _ => none }
def OrderAllWrongFalsely : Prop := orderAllRow.holds Try.pinned (OpenSpec.ofChange orderAllWrong)

/- THE SECOND FORM. 'bulk': how many values and letters a reading holds, each counted each time it is reached (what is shared counts as often as it is met; a slice's spare places count too). A statement '..UptoSaid' is the law's where the arguments, and the package variables that the reading takes, are together of bulk at most 1048576: NARROWER than '..Said'. Prove '..Said' where nothing that the law and all that it calls make is longer than what came in: it says more and counts as full. Else prove '..UptoSaid'. A law counts once. -/
mutual
def uptoBulk {H : Type} : DataW H → Nat
  | .lit (.string bytes) => bytes.length + 1
  | .lit _ => 1
  | .nil => 1
  | .ptr d => uptoBulk d + 1
  | .slice elems spare => uptoBulkAll elems + uptoBulkAll spare + 1
  | .agg parts => uptoBulkAll parts + 1
  | .iface _ d => uptoBulk d + 1
  | .map entries => uptoBulkEntries entries + 1
  | .held _ => 1
def uptoBulkAll {H : Type} : List (DataW H) → Nat
  | [] => 0
  | d :: r => uptoBulk d + uptoBulkAll r
def uptoBulkEntries {H : Type} : List (Lit × DataW H) → Nat
  | [] => 0
  | x :: r => uptoBulkEntry x + uptoBulkEntries r
def uptoBulkEntry {H : Type} : Lit × DataW H → Nat
  | (.string bytes, d) => bytes.length + uptoBulk d + 1
  | (_, d) => uptoBulk d + 1
 end
def uptoSmall : (H : Type) → List (DataW H) → Bool := fun _ ds => decide (uptoBulkAll ds ≤ 1048576)
def OpenSpec.upto (s : _root_.Go.ChangeSpec) : _root_.Go.OpenSpec := { _root_.Go.OpenSpec.ofChange s with cond := some uptoSmall }

/-- 'quernlaw16.OrderLine', WHERE WHAT IT READS IS OF BULK AT MOST 1048576: true; the input reads as it did. -/
def orderLineUptoRow : OpenClaim := { program := "ytdpeckfdilpidaa", sum := "79fb6ca0eff923083ddb556e0c9caae61f20e91f9bf421ba20382b34017b3d75", func := "quern/quernlaw16.OrderLine", spec := "orderLine", unfollowed := true, recurses := true, apart := false, narrowed := true }
def OrderLineUptoSaid : Prop := orderLineUptoRow.holds Try.pinned (OpenSpec.upto orderLineSpec)

/-- 'quernlaw16.OrderOnce', WHERE WHAT IT READS IS OF BULK AT MOST 1048576: true; the input reads as it did. -/
def orderOnceUptoRow : OpenClaim := { program := "ytdpeckfdilpidaa", sum := "79fb6ca0eff923083ddb556e0c9caae61f20e91f9bf421ba20382b34017b3d75", func := "quern/quernlaw16.OrderOnce", spec := "orderOnce", unfollowed := true, recurses := true, apart := false, narrowed := true }
def OrderOnceUptoSaid : Prop := orderOnceUptoRow.holds Try.pinned (OpenSpec.upto orderOnceSpec)

/-- 'quernlaw16.OrderBack', WHERE WHAT IT READS IS OF BULK AT MOST 1048576: true; the input reads as it did. -/
def orderBackUptoRow : OpenClaim := { program := "ytdpeckfdilpidaa", sum := "79fb6ca0eff923083ddb556e0c9caae61f20e91f9bf421ba20382b34017b3d75", func := "quern/quernlaw16.OrderBack", spec := "orderBack", unfollowed := true, recurses := true, apart := false, narrowed := true }
def OrderBackUptoSaid : Prop := orderBackUptoRow.holds Try.pinned (OpenSpec.upto orderBackSpec)

/-- 'quernlaw16.OrderWays', WHERE WHAT IT READS IS OF BULK AT MOST 1048576: true; the input reads as it did. -/
def orderWaysUptoRow : OpenClaim := { program := "ytdpeckfdilpidaa", sum := "79fb6ca0eff923083ddb556e0c9caae61f20e91f9bf421ba20382b34017b3d75", func := "quern/quernlaw16.OrderWays", spec := "orderWays", unfollowed := true, recurses := true, apart := false, narrowed := true }
def OrderWaysUptoSaid : Prop := orderWaysUptoRow.holds Try.pinned (OpenSpec.upto orderWaysSpec)

/-- 'quernlaw16.OrderChain', WHERE WHAT IT READS IS OF BULK AT MOST 1048576: true; the input reads as it did. -/
def orderChainUptoRow : OpenClaim := { program := "ytdpeckfdilpidaa", sum := "79fb6ca0eff923083ddb556e0c9caae61f20e91f9bf421ba20382b34017b3d75", func := "quern/quernlaw16.OrderChain", spec := "orderChain", unfollowed := true, recurses := true, apart := false, narrowed := true }
def OrderChainUptoSaid : Prop := orderChainUptoRow.holds Try.pinned (OpenSpec.upto orderChainSpec)

/-- 'quernlaw16.OrderAll', WHERE WHAT IT READS IS OF BULK AT MOST 1048576: true; the input reads as it did. -/
def orderAllUptoRow : OpenClaim := { program := "ytdpeckfdilpidaa", sum := "79fb6ca0eff923083ddb556e0c9caae61f20e91f9bf421ba20382b34017b3d75", func := "quern/quernlaw16.OrderAll", spec := "orderAll", unfollowed := true, recurses := true, apart := false, narrowed := true }
def OrderAllUptoSaid : Prop := orderAllUptoRow.holds Try.pinned (OpenSpec.upto orderAllSpec)

end Rows
end Go.Proofs.Ytdpeckfdilpidaa
