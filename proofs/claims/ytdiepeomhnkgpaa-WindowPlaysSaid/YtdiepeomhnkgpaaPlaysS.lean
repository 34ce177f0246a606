/- WindowPlays: the switch of its round, out of the translation. -/
import Derived.Test.YtdiepeomhnkgpaaPlaysC
import Derived.Test.YtdiepeomhnkgpaaMA
namespace Go.Proofs.Ytdiepeomhnkgpaa
/-- The block numbered k. -/
def blockAt (k : Nat) : Code → Option Code
  | .loop c => blockAt k c
  | .seq a b => match blockAt k a with
    | some c => some c
    | none => blockAt k b
  | .block j c => if j == k then some (.block j c) else blockAt k c
  | .scope c => blockAt k c
  | .cond _ a b => match blockAt k a with
    | some c => some c
    | none => blockAt k b
  | _ => none
noncomputable def playsSwitch : Code := (Try.f5.body.bind (blockAt 2)).getD .skip
end Go.Proofs.Ytdiepeomhnkgpaa
