/- Walks over the reference of package natural, seventh part: DivMod bit by bit, Gcd. -/
import Derived.Test.YtiknpbgbmbifdaaRefE
namespace Go.Proofs.Ytiknpbgbmbifdaa
open Go.RowKit Nt

end Go.Proofs.Ytiknpbgbmbifdaa
