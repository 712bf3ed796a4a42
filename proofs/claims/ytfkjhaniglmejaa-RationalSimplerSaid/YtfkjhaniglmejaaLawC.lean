/- Walks over the laws of package natural: the laws that add, subtract and multiply. Printed by laws01.py. -/
import Derived.Test.YtfkjhaniglmejaaLawB
namespace Go.Proofs.Ytfkjhaniglmejaa
open Go.RowKit Nt

theorem sub_is2 {a b L M : Nat} {u v : Value} {w : World} {e : Int} (he : subErr a b = e) (h : Is a L w u) (h' : Is b M w v) (hL : L ≤ 4294967296) :
    Calls Try.prog 84 #[u, v] w (Ret w (CanE (a - b) L e)) := by rw [← he]; exact sub_is h h' hL
theorem rsub_is2 {a b L M : Nat} {u v : Value} {w : World} {e : Int} (he : subErr a b = e) (h : Is a L w u) (h' : Is b M w v) (hL : L ≤ 4294967296) :
    Calls Try.prog 93 #[u, v] w (Ret w (CanE (a - b) L e)) := by rw [← he]; exact rsub_is h h' hL

end Go.Proofs.Ytfkjhaniglmejaa
