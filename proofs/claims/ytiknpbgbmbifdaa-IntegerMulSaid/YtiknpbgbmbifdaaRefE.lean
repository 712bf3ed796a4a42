/- Walks over the reference of package natural, sixth part: DivMod. -/
import Derived.Test.YtiknpbgbmbifdaaRefD
import Derived.Test.YtiknpbgbmbifdaaNumG
namespace Go.Proofs.Ytiknpbgbmbifdaa
open Go.RowKit Nt

theorem rof_ret (x : Nat) (z : Int) (hz : z = (x : Int)) (w : World) (h : x < 18446744073709551616) : Calls Try.prog 39 #[.int .u64 z] w (Ret w (Num x)) := by
  subst hz; exact rof_any x w h

theorem and_one (x : Nat) (h : x < 4294967296) : bits .and .u32 (x : Int) 1 = ((x % 2 : Nat) : Int) := by
  have := u32_and_nat x 1 h (by decide)
  rw [Nat.and_one_is_mod] at this
  exact this

theorem cmp_ge {a b : Nat} (h : b ≤ a) : decide (0 ≤ cmpN a b) = true := by
  rcases Nat.lt_or_ge b a with h' | h'
  · rw [cmpN_gt h']; decide
  · rw [cmpN_eq (by omega)]; decide
theorem cmp_nge {a b : Nat} (h : a < b) : decide (0 ≤ cmpN a b) = false := by rw [cmpN_lt h]; decide

end Go.Proofs.Ytiknpbgbmbifdaa
