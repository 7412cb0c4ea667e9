/- MergeApart returns true for every input and leaves its arguments alone; there are no further conditions. -/
import Derived.OpenShut
import Derived.Laws.ResultCell
import Derived.Test.YtpgpdmmobblffaaGreatP09
namespace Go.Proofs.YtpgpdmmobblffaaGreat
open Go Go.CF
theorem mergeApart_holds : Rows.MergeApartSaid := mergeApart_of fun _ _ m _ l _ e hm0 hm hl he0 he => (apart_p m l e).calls ⟨avModel.agg hm0 hm, (avMergeds.rep hl).t.1, avEvent.agg he0 he, trivial⟩
end Go.Proofs.YtpgpdmmobblffaaGreat
