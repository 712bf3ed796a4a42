/- How the parameters of the laws read at the call: api.Int. -/
import Derived.Test.YtiknpbgbmbifdaaIntH
import Derived.ProofKit
import Derived.OpenShut
import Derived.ShutString
import Derived.ChangeOld
import Derived.Lib.SmallJoins
namespace Go.Proofs.Ytiknpbgbmbifdaa
open Go.RowKit Go.ChangeShapes Go.WideShapes Nt

theorem row_of_read {H : Type} {enc : TypeId × Value → H} {w : World} {base : Nat} {held : Bool} {fuel : Nat} {c : Value} {y : DataW H × List MemPlace}
    (h : DataW.trod enc Try.prog w base (fun _ => true) held fuel 23 [c] = some y) : ∃ a n k, c = .slice a n k ∧ Row w (.slice a n k) n := by
  rcases open_ints Try.underlying23 Try.underlying56 (by kernel_rfl) h with ⟨hcs, _⟩ | ⟨x, l, c', zs, hcs, _, hl, hm, hz, _, hcell, hwz⟩
  · injection hcs with h1 _
    subst h1
    exact ⟨_, _, _, rfl, fun hn => is_of_row hn (Or.inl ⟨rfl, rfl, rfl, rfl⟩)⟩
  · injection hcs with h1 _
    subst h1
    exact ⟨_, _, _, rfl, fun hn => is_of_row hn (Or.inr ⟨x, rfl, hl, hm, by simpa using hz, hcell, hwz⟩)⟩

theorem open_Int {H : Type} {enc : TypeId × Value → H} {w : World} {base : Nat} {held : Bool} {r : Reach} {b0 : Nat} {v : Value} {d : DataW H} {p : List MemPlace}
    (hv : Value.okWide Try.prog w r b0 25 v) (h : DataW.Trod enc Try.prog w base (fun _ => true) held 25 v d p) :
    ∃ b a n c, v = .agg #[.bool b, .slice a n c] ∧ Row w (.slice a n c) n := by
  obtain ⟨v0, v1, y0, y1, m, rfl, -, -, h0, h1⟩ := Joins.open_agg2 Try.underlying25 (by kernel_rfl) (by kernel_rfl) hv h
  obtain ⟨b, e0, -⟩ := DataW.trod_bool (t := 4) Try.underlying4 h0
  obtain ⟨a, n, c, rfl, hr⟩ := row_of_read h1
  injection e0 with e0 _
  subst e0
  exact ⟨b, a, n, c, rfl, hr⟩
theorem wf_i64 {n : Int} (h : (Lit.int .i64 n).wf = true) : -9223372036854775808 ≤ n ∧ n < 9223372036854775808 := by
  simp [Lit.wf, IntKind.min, IntKind.max, IntKind.signed, IntKind.bits] at h
  omega

theorem IntegerNeg_all (ba : Bool) (aa : Option Addr) (na ca : Nat) (w : World) (h : Row w (.slice aa na ca) na) : Calls Try.prog 4 #[.agg #[.bool ba, .slice aa na ca]] w (Ret w (Val (.bool true))) := by
  by_cases la : 30 < na
  · exact IntegerNeg_far _ _ _ _ _ la
  · obtain ⟨z, hz⟩ := h.ai (b := ba) 30 (by omega) (by decide)
    have := sign_cases z
    exact IntegerNeg_near _ _ _ _ _ z hz (by omega) _ rfl (by omega) (by omega)
theorem IntegerInt_all (x : Int) (ba : Bool) (aa : Option Addr) (na ca : Nat) (w : World) (hx : (Lit.int .i64 x).wf = true) (h : Row w (.slice aa na ca) na) : Calls Try.prog 3 #[.int .i64 x, .agg #[.bool ba, .slice aa na ca]] w (Ret w (Val (.bool true))) := by
  by_cases la : 30 < na
  · exact IntegerInt_far _ _ _ _ _ _ la
  · obtain ⟨z, hz⟩ := h.ai (b := ba) 30 (by omega) (by decide)
    exact IntegerInt_near x _ _ _ _ _ z hz (by omega) (wf_i64 hx) _ _ rfl rfl
end Go.Proofs.Ytiknpbgbmbifdaa
