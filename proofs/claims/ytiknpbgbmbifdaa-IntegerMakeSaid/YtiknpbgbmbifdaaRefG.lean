/- Walks over the reference of package natural, last part: DivMod as a whole, Gcd. -/
import Derived.Test.YtiknpbgbmbifdaaRefF
namespace Go.Proofs.Ytiknpbgbmbifdaa
open Go.RowKit Nt

theorem uintB_eq (n : Nat) : uintB n = true ↔ n < 18446744073709551616 := by simp [uintB]

end Go.Proofs.Ytiknpbgbmbifdaa
