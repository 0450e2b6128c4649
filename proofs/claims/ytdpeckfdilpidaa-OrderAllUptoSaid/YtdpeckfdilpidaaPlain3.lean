/- The diamond's end. No program here. -/
import Derived.Test.YtdpeckfdilpidaaPlain2
set_option linter.unusedVariables false
set_option linter.unusedSimpArgs false
namespace Go.Proofs.Ytdpeckfdilpidaa
def DX (k : Nat) : List Int := match k with
  | 0 => [1, 2]
  | 1 => [3]
  | 2 => [3]
  | _ => []
theorem diamond : ∃ t, Steps DX (DS.start DX) t ∧ t.op = [] ∧ t.done = [3, 2, 1, 0] :=
  ⟨_, .head (.way _ [] 0 1 []) (.head (.way _ [(0, 1)] 2 0 []) (.head (.pop _ [(0, 1), (2, 0)] 3 []) (.head (.pop _ [(0, 1)] 2 [3]) (.head (.way _ [] 0 0 [3, 2]) (.head (.way _ [(0, 0)] 1 0 [3, 2]) (.head (.pop _ [(0, 0)] 1 [3, 2]) (.head (.pop _ [] 0 [3, 2, 1]) (.refl _)))))))), rfl, rfl⟩
end Go.Proofs.Ytdpeckfdilpidaa
