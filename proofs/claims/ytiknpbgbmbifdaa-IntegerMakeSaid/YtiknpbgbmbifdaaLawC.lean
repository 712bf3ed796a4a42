/- Walks over the laws of package natural: the laws that add, subtract and multiply. Printed by laws01.py. -/
import Derived.Test.YtiknpbgbmbifdaaLawB
namespace Go.Proofs.Ytiknpbgbmbifdaa
open Go.RowKit Nt

theorem sub_is2 {a b L M : Nat} {u v : Value} {w : World} {e : Int} (he : subErr a b = e) (h : Is a L w u) (h' : Is b M w v) (hL : L ≤ 4294967296) :
    Calls Try.prog 47 #[u, v] w (Ret w (CanE (a - b) L e)) := by rw [← he]; exact sub_is h h' hL
theorem rsub_is2 {a b L M : Nat} {u v : Value} {w : World} {e : Int} (he : subErr a b = e) (h : Is a L w u) (h' : Is b M w v) (hL : L ≤ 4294967296) :
    Calls Try.prog 50 #[u, v] w (Ret w (CanE (a - b) L e)) := by rw [← he]; exact rsub_is h h' hL

end Go.Proofs.Ytiknpbgbmbifdaa
