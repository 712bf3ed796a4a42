/- The laws of relucertlaw02, whole: Make, Divide. -/
import Derived.Test.YtiknpbgbmbifdaaShell
import Derived.Test.YtiknpbgbmbifdaaIntI
namespace Go.Proofs.Ytiknpbgbmbifdaa
open Go.RowKit Nt
theorem IntegerMake_all (ba : Bool) (aa : Option Addr) (na ca : Nat) (w : World) (h : Row w (.slice aa na ca) na) : Calls Try.prog 5 #[.agg #[.bool ba, .slice aa na ca]] w (Ret w (Val (.bool true))) := by
  by_cases la : 30 < na
  · exact IntegerMake_far _ _ _ _ _ la
  · obtain ⟨xs, h1, h2⟩ := h (by omega)
    exact IntegerMake_near _ _ _ _ _ _ (AI.mk ⟨xs, h1, rfl, by omega⟩) (by omega) _ _ rfl xs h1 rfl
theorem IntegerDivide_all (ba : Bool) (aa : Option Addr) (na ca : Nat) (bb : Bool) (ab : Option Addr) (nb cb : Nat) (w : World) (h : Row w (.slice aa na ca) na) (h' : Row w (.slice ab nb cb) nb) :
    Calls Try.prog 6 #[.agg #[.bool ba, .slice aa na ca], .agg #[.bool bb, .slice ab nb cb]] w (Ret w (Val (.bool true))) := by
  by_cases la : 6 < na
  · exact IntegerDivide_far1 _ _ _ _ _ _ _ _ _ la
  by_cases lb : 6 < nb
  · exact IntegerDivide_far2 _ _ _ _ _ _ _ _ _ (by omega) lb
  obtain ⟨y, hy⟩ := h.ai (b := ba) 6 (by omega) (by decide)
  obtain ⟨z, hz⟩ := h'.ai (b := bb) 6 (by omega) (by decide)
  by_cases h0 : z = 0
  · exact IntegerDivide_zero _ _ _ _ _ _ _ _ _ y hy z hz (by omega) (by omega) h0
  · refine IntegerDivide_pos _ _ _ _ _ _ _ _ _ y hy z hz (by omega) (by omega) h0 _ _ rfl rfl ?_ ?_
    · have := Int.emod_nonneg y h0
      rcases Int.lt_trichotomy (y % z) 0 with h | h | h
      · omega
      · rw [h]; rfl
      · rw [Int.sign_eq_one_of_pos h]; rfl
    · rcases Int.lt_trichotomy z 0 with h | h | h
      · rw [Int.sign_eq_neg_one_of_neg h]; rfl
      · exact absurd h h0
      · rw [Int.sign_eq_one_of_pos h]; rfl
end Go.Proofs.Ytiknpbgbmbifdaa
