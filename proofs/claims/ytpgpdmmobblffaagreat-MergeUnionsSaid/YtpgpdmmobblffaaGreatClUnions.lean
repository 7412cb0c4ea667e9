/- MergeUnions returns true for every input and leaves its arguments alone; there are no further conditions. -/
import Derived.OpenShut
import Derived.Test.YtpgpdmmobblffaaGreatP11
namespace Go.Proofs.YtpgpdmmobblffaaGreat
open Go Go.CF
theorem mergeUnions_holds : Rows.MergeUnionsSaid := mergeUnions_of fun _ _ x0 _ x1 _ x2 _ x3 h0a h0 h1 h2 h3 => (unions34_p x0 x1 x2 x3).calls ⟨avModel.agg h0a h0, (avEvs.rep h1).t.1, (avInts.rep h2).t.1, (avInts.rep h3).t.1, trivial⟩
end Go.Proofs.YtpgpdmmobblffaaGreat
