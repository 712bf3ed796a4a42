/- The laws of relucertlaw02, whole: Add, Mul. -/
import Derived.Test.YtiknpbgbmbifdaaShell
import Derived.Test.YtiknpbgbmbifdaaIntJ
namespace Go.Proofs.Ytiknpbgbmbifdaa
open Go.RowKit Nt
theorem IntegerAdd_all (ba : Bool) (aa : Option Addr) (na ca : Nat) (bb : Bool) (ab : Option Addr) (nb cb : Nat) (bc : Bool) (ac : Option Addr) (nc cc : Nat) (w : World) (h : Row w (.slice aa na ca) na) (h' : Row w (.slice ab nb cb) nb) (h'' : Row w (.slice ac nc cc) nc) :
    Calls Try.prog 7 #[.agg #[.bool ba, .slice aa na ca], .agg #[.bool bb, .slice ab nb cb], .agg #[.bool bc, .slice ac nc cc]] w (Ret w (Val (.bool true))) := by
  by_cases hl : 8 < na ∨ 8 < nb ∨ 8 < nc
  · exact IntegerAdd_far _ _ _ _ _ _ _ _ _ _ _ _ _ hl
  obtain ⟨x, hx⟩ := h.ai (b := ba) 8 (by omega) (by decide)
  obtain ⟨y, hy⟩ := h'.ai (b := bb) 8 (by omega) (by decide)
  obtain ⟨z, hz⟩ := h''.ai (b := bc) 8 (by omega) (by decide)
  exact IntegerAdd_near _ _ _ _ _ _ _ _ _ _ _ _ _ x hx y hy z hz (by omega) (by omega) (by omega)
theorem IntegerMul_all (ba : Bool) (aa : Option Addr) (na ca : Nat) (bb : Bool) (ab : Option Addr) (nb cb : Nat) (bc : Bool) (ac : Option Addr) (nc cc : Nat) (w : World) (h : Row w (.slice aa na ca) na) (h' : Row w (.slice ab nb cb) nb) (h'' : Row w (.slice ac nc cc) nc) :
    Calls Try.prog 8 #[.agg #[.bool ba, .slice aa na ca], .agg #[.bool bb, .slice ab nb cb], .agg #[.bool bc, .slice ac nc cc]] w (Ret w (Val (.bool true))) := by
  by_cases hl : 8 < na ∨ 8 < nb ∨ 8 < nc
  · exact IntegerMul_far _ _ _ _ _ _ _ _ _ _ _ _ _ hl
  obtain ⟨x, hx⟩ := h.ai (b := ba) 8 (by omega) (by decide)
  obtain ⟨y, hy⟩ := h'.ai (b := bb) 8 (by omega) (by decide)
  obtain ⟨z, hz⟩ := h''.ai (b := bc) 8 (by omega) (by decide)
  exact IntegerMul_near _ _ _ _ _ _ _ _ _ _ _ _ _ x hx y hy z hz (by omega) (by omega) (by omega)
end Go.Proofs.Ytiknpbgbmbifdaa
