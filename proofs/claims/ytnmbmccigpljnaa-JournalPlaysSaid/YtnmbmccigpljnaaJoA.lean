/- Layer 5: frames and disks together. -/
import Derived.Test.YtnmbmccigpljnaaJfZ
import Derived.Test.YtnmbmccigpljnaaJdZ
namespace Go.Proofs.Ytnmbmccigpljnaa.GL
open Go Go.RowKit
end Go.Proofs.Ytnmbmccigpljnaa.GL
