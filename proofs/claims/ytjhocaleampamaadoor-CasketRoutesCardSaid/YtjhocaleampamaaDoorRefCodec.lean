/- casketref08's parts as bytes: the walks. -/
import Derived.Test.YtjhocaleampamaaDoorOutObj
import Derived.Test.YtjhocaleampamaaDoorRefBits
import Derived.Lib.SlBytesConst
namespace Go.Proofs.YtjhocaleampamaaDoor
open Go.RowKit
end Go.Proofs.YtjhocaleampamaaDoor
