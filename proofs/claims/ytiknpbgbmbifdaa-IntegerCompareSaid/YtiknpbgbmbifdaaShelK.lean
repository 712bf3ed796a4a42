/- The laws of relucertlaw02, whole: Compare. -/
import Derived.Test.YtiknpbgbmbifdaaShell
import Derived.Test.YtiknpbgbmbifdaaIntK
import Derived.Test.YtiknpbgbmbifdaaIntL
import Derived.Test.YtiknpbgbmbifdaaIntM
namespace Go.Proofs.Ytiknpbgbmbifdaa
open Go.RowKit Nt
theorem IntegerCompare_all (ba : Bool) (aa : Option Addr) (na ca : Nat) (bb : Bool) (ab : Option Addr) (nb cb : Nat) (bc : Bool) (ac : Option Addr) (nc cc : Nat) (w : World) (h : Row w (.slice aa na ca) na) (h' : Row w (.slice ab nb cb) nb) (h'' : Row w (.slice ac nc cc) nc) :
    Calls Try.prog 9 #[.agg #[.bool ba, .slice aa na ca], .agg #[.bool bb, .slice ab nb cb], .agg #[.bool bc, .slice ac nc cc]] w (Ret w (Val (.bool true))) := by
  by_cases hl : 8 < na ∨ 8 < nb ∨ 8 < nc
  · exact IntegerCompare_far _ _ _ _ _ _ _ _ _ _ _ _ _ hl
  obtain ⟨x, hx⟩ := h.ai (b := ba) 8 (by omega) (by decide)
  obtain ⟨y, hy⟩ := h'.ai (b := bb) 8 (by omega) (by decide)
  obtain ⟨z, hz⟩ := h''.ai (b := bc) 8 (by omega) (by decide)
  have k := sign_cases z
  rcases Int.lt_trichotomy x y with h1 | h1 | h1
  · rcases Int.lt_trichotomy y z with h2 | h2 | h2
    · exact IntegerCompare_nearmm _ _ _ _ _ _ _ _ _ _ _ _ _ x hx y hy z hz (by omega) (by omega) (by omega) h1 h2 _ rfl (by omega) (by omega)
    · exact IntegerCompare_nearmz _ _ _ _ _ _ _ _ _ _ _ _ _ x hx y hy z hz (by omega) (by omega) (by omega) h1 h2 _ rfl (by omega) (by omega)
    · exact IntegerCompare_nearmp _ _ _ _ _ _ _ _ _ _ _ _ _ x hx y hy z hz (by omega) (by omega) (by omega) h1 h2 _ rfl (by omega) (by omega)
  · rcases Int.lt_trichotomy y z with h2 | h2 | h2
    · exact IntegerCompare_nearzm _ _ _ _ _ _ _ _ _ _ _ _ _ x hx y hy z hz (by omega) (by omega) (by omega) h1 h2 _ rfl (by omega) (by omega)
    · exact IntegerCompare_nearzz _ _ _ _ _ _ _ _ _ _ _ _ _ x hx y hy z hz (by omega) (by omega) (by omega) h1 h2 _ rfl (by omega) (by omega)
    · exact IntegerCompare_nearzp _ _ _ _ _ _ _ _ _ _ _ _ _ x hx y hy z hz (by omega) (by omega) (by omega) h1 h2 _ rfl (by omega) (by omega)
  · rcases Int.lt_trichotomy y z with h2 | h2 | h2
    · exact IntegerCompare_nearpm _ _ _ _ _ _ _ _ _ _ _ _ _ x hx y hy z hz (by omega) (by omega) (by omega) h1 h2 _ rfl (by omega) (by omega)
    · exact IntegerCompare_nearpz _ _ _ _ _ _ _ _ _ _ _ _ _ x hx y hy z hz (by omega) (by omega) (by omega) h1 h2 _ rfl (by omega) (by omega)
    · exact IntegerCompare_nearpp _ _ _ _ _ _ _ _ _ _ _ _ _ x hx y hy z hz (by omega) (by omega) (by omega) h1 h2 _ rfl (by omega) (by omega)
end Go.Proofs.Ytiknpbgbmbifdaa
