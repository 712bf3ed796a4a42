/- How the parameters of the laws read at the call: api.Int, api.Rat. -/
import Derived.Test.YtfkjhaniglmejaaRatJ
import Derived.ProofKit
import Derived.OpenShut
import Derived.ShutString
import Derived.ChangeOld
import Derived.Lib.SmallJoins
namespace Go.Proofs.Ytfkjhaniglmejaa
open Go.RowKit Go.ChangeShapes Go.WideShapes Nt

theorem row_of_read {H : Type} {enc : TypeId × Value → H} {w : World} {base : Nat} {held : Bool} {fuel : Nat} {c : Value} {y : DataW H × List MemPlace}
    (h : DataW.trod enc Try.prog w base (fun _ => true) held fuel 23 [c] = some y) : ∃ a n k, c = .slice a n k ∧ Row w (.slice a n k) n := by
  rcases open_ints Try.underlying23 Try.underlying64 (by kernel_rfl) h with ⟨hcs, _⟩ | ⟨x, l, c', zs, hcs, _, hl, hm, hz, _, hcell, hwz⟩
  · injection hcs with h1 _
    subst h1
    exact ⟨_, _, _, rfl, fun hn => is_of_row hn (Or.inl ⟨rfl, rfl, rfl, rfl⟩)⟩
  · injection hcs with h1 _
    subst h1
    exact ⟨_, _, _, rfl, fun hn => is_of_row hn (Or.inr ⟨x, rfl, hl, hm, by simpa using hz, hcell, hwz⟩)⟩

theorem open_Int {H : Type} {enc : TypeId × Value → H} {w : World} {base : Nat} {held : Bool} {r : Reach} {b0 : Nat} {v : Value} {d : DataW H} {p : List MemPlace}
    (hv : Value.okWide Try.prog w r b0 33 v) (h : DataW.Trod enc Try.prog w base (fun _ => true) held 33 v d p) :
    ∃ b a n c, v = .agg #[.bool b, .slice a n c] ∧ Row w (.slice a n c) n := by
  obtain ⟨v0, v1, y0, y1, m, rfl, -, -, h0, h1⟩ := Joins.open_agg2 Try.underlying33 (by kernel_rfl) (by kernel_rfl) hv h
  obtain ⟨b, e0, -⟩ := DataW.trod_bool (t := 4) Try.underlying4 h0
  obtain ⟨a, n, c, rfl, hr⟩ := row_of_read h1
  injection e0 with e0 _
  subst e0
  exact ⟨b, a, n, c, rfl, hr⟩
theorem open_Rat {H : Type} {enc : TypeId × Value → H} {w : World} {base : Nat} {held : Bool} {r : Reach} {b0 : Nat} {v : Value} {d : DataW H} {p : List MemPlace}
    (hv : Value.okWide Try.prog w r b0 25 v) (h : DataW.Trod enc Try.prog w base (fun _ => true) held 25 v d p) :
    ∃ b a n c d m e, v = .agg #[.bool b, .slice a n c, .slice d m e] ∧ Row w (.slice a n c) n ∧ Row w (.slice d m e) m := by
  obtain ⟨v0, v1, v2, y0, y1, y2, m, rfl, -, -, h0, h1, h2⟩ := Joins.open_agg3 Try.underlying25 (by kernel_rfl) (by kernel_rfl) hv h
  obtain ⟨b, e0, -⟩ := DataW.trod_bool (t := 4) Try.underlying4 h0
  obtain ⟨a, n, c, rfl, hr⟩ := row_of_read h1
  obtain ⟨a', n', c', rfl, hr'⟩ := row_of_read h2
  injection e0 with e0 _
  subst e0
  exact ⟨b, a, n, c, a', n', c', rfl, hr, hr'⟩
theorem wf_i64 {n : Int} (h : (Lit.int .i64 n).wf = true) : -9223372036854775808 ≤ n ∧ n < 9223372036854775808 := by
  simp [Lit.wf, IntKind.min, IntKind.max, IntKind.signed, IntKind.bits] at h
  omega
theorem wf_u16 {n : Int} (h : (Lit.int .u16 n).wf = true) : 0 ≤ n ∧ n < 65536 := by
  simp [Lit.wf, IntKind.min, IntKind.max, IntKind.signed, IntKind.bits] at h
  omega
theorem Row.aiR {w : World} {b : Bool} {a : Option Addr} {n c : Nat} (h : Row w (.slice a n c) n) (L : Nat) (hn : n ≤ L) (hL : L ≤ 1099511627776) : ∃ z, AI z L w (.agg #[.bool b, .slice a n c]) := by
  obtain ⟨X, hX⟩ := h.is L hn hL
  exact ⟨_, AI.mk hX⟩
theorem Row.ar {w : World} {b : Bool} {a d : Option Addr} {n c m e : Nat} (h : Row w (.slice a n c) n) (h' : Row w (.slice d m e) m) (L : Nat) (hn : n ≤ L) (hm : m ≤ L) (hL : L ≤ 1099511627776) :
    ∃ q, AR q L w (.agg #[.bool b, .slice a n c, .slice d m e]) := by
  obtain ⟨X, hX⟩ := h.is L hn hL
  obtain ⟨Y, hY⟩ := h'.is L hm hL
  exact ⟨_, AR.mk hX hY⟩
end Go.Proofs.Ytfkjhaniglmejaa
