/- MergeForms returns true for every input and leaves its arguments alone; there are no further conditions. -/
import Derived.OpenShut
import Derived.Laws.ResultCell
import Derived.Test.YtpgpdmmobblffaaGreatP09
namespace Go.Proofs.YtpgpdmmobblffaaGreat
open Go Go.CF
theorem mergeForms_holds : Rows.MergeFormsSaid := mergeForms_of fun _ _ x0 _ x1 _ x2 h0a h0 h1 h2 => (forms34_p x0 x1 x2).calls ⟨avModel.agg h0a h0, (avMergeds.rep h1).t.1, (avInts.rep h2).t.1, trivial⟩
end Go.Proofs.YtpgpdmmobblffaaGreat
