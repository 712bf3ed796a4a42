/- The integer layer: Sub, Same, Sign, Valid, Cmp of both packages. Printed by intd.py. -/
import Derived.Test.YtfkjhaniglmejaaIntD
namespace Go.Proofs.Ytfkjhaniglmejaa
open Go.RowKit Nt
set_option linter.unusedVariables false

theorem AI.agg {z : Int} {L : Nat} {w : World} {v : Value} (h : AI z L w v) : ∃ n s, v = .agg #[.bool n, s] := let ⟨n, s, _, h1, _⟩ := h; ⟨n, s, h1⟩
theorem AI.mk {n : Bool} {m L : Nat} {w : World} {s : Value} (h : Is m L w s) : AI (iv n m) L w (.agg #[.bool n, s]) := ⟨_, _, _, rfl, h, rfl⟩
theorem iv_sign_0 {n : Bool} {m : Nat} (h : m = 0) : (iv n m).sign = 0 := by subst h; cases n <;> rfl
theorem iv_sign_false {m : Nat} (h : 0 < m) : (iv false m).sign = 1 := by
  show (m : Int).sign = 1
  exact Int.sign_eq_one_of_pos (by omega)
theorem iv_sign_true {m : Nat} (h : 0 < m) : (iv true m).sign = -1 := by
  show (-(m : Int)).sign = -1
  exact Int.sign_eq_neg_one_of_neg (by omega)

theorem bits_zero {m L : Nat} {s : Value} {w : World} (hm : m = 0) (h : Is m L w s) (hL : L ≤ 4294967296) : Calls Try.prog 89 #[s] w (Ret w (Val (.int .i64 0))) := by
  obtain ⟨xs, h, hv, hl⟩ := h
  have := bits_any _ _ _ h (by omega)
  rw [hv, hm] at this
  exact this
def NotZ (_ : World) (v : Value) : Prop := ∃ U : Int, v = .int .i64 U ∧ (U == 0) = false
theorem bits_pos {m L : Nat} {s : Value} {w : World} (hm : 0 < m) (h : Is m L w s) (hL : L ≤ 4294967296) : Calls Try.prog 89 #[s] w (Ret w NotZ) := by
  obtain ⟨xs, h, hv, hl⟩ := h
  refine (bits_any _ _ _ h (by omega)).mono ?_
  rintro e w' ⟨v, rfl, rfl, hb⟩
  refine ⟨_, rfl, ⟨_, rfl, ?_⟩, hb⟩
  rw [hv]
  unfold blen
  rw [if_neg (by omega)]
  simp only [beq_eq_false_iff_ne, ne_eq]
  omega
def Lit0 (n : Bool) (b : Bool) (_ : World) (v : Value) : Prop := ∃ ad n1 cap, v = .agg #[.bool n, .slice ad n1 cap] ∧ ((n1 : Int) == 0) = b
theorem limbs_len0 {m n : Nat} (hn : (limbs m).length = n) (b : Bool) (h : (m == 0) = b) : ((n : Int) == 0) = b := by
  have := @sz_eq_zero m
  unfold sz at this
  subst h hn
  rw [Bool.eq_iff_iff]
  simp only [beq_iff_eq]
  omega
theorem rimake_0 {n : Bool} {m L : Nat} {s : Value} {w : World} (hm : m = 0) (h : Is m L w s) : Calls Try.prog 79 #[.bool n, s] w (Ret w (Lit0 false true)) := by
  refine (rimake_ai h).mono ?_
  rintro e w' ⟨v, rfl, ⟨⟨s1, rfl, h2⟩, -⟩, hb⟩
  obtain ⟨ad, n1, cap, rfl, hn, -⟩ := h2
  refine ⟨_, rfl, ⟨ad, n1, cap, ?_, limbs_len0 hn true (by rw [iv_abs, hm]; rfl)⟩, hb⟩
  rw [iv_lt, hm]; simp
theorem rimake_true {m L : Nat} {s : Value} {w : World} (hm : 0 < m) (h : Is m L w s) : Calls Try.prog 79 #[.bool true, s] w (Ret w (Lit0 true false)) := by
  refine (rimake_ai h).mono ?_
  rintro e w' ⟨v, rfl, ⟨⟨s1, rfl, h2⟩, -⟩, hb⟩
  obtain ⟨ad, n1, cap, rfl, hn, -⟩ := h2
  refine ⟨_, rfl, ⟨ad, n1, cap, ?_, limbs_len0 hn false (by rw [iv_abs]; simp; omega)⟩, hb⟩
  rw [iv_lt]; simp [hm]
theorem rimake_false {m L : Nat} {s : Value} {w : World} (hm : 0 < m) (h : Is m L w s) : Calls Try.prog 79 #[.bool false, s] w (Ret w (Lit0 false false)) := by
  refine (rimake_ai h).mono ?_
  rintro e w' ⟨v, rfl, ⟨⟨s1, rfl, h2⟩, -⟩, hb⟩
  obtain ⟨ad, n1, cap, rfl, hn, -⟩ := h2
  refine ⟨_, rfl, ⟨ad, n1, cap, ?_, limbs_len0 hn false (by rw [iv_abs]; simp; omega)⟩, hb⟩
  rw [iv_lt]; simp
theorem sub_sign_lt {y z : Int} (h : y.sign < z.sign) : (y - z).sign = -1 := by
  apply Int.sign_eq_neg_one_of_neg
  rcases Int.lt_trichotomy y 0 with h1 | h1 | h1 <;> rcases Int.lt_trichotomy z 0 with h2 | h2 | h2 <;>
    simp [Int.sign_eq_neg_one_of_neg, Int.sign_eq_one_of_pos, h1, h2] at h <;> omega
theorem sub_sign_gt {y z : Int} (h : z.sign < y.sign) : (y - z).sign = 1 := by
  apply Int.sign_eq_one_of_pos
  rcases Int.lt_trichotomy y 0 with h1 | h1 | h1 <;> rcases Int.lt_trichotomy z 0 with h2 | h2 | h2 <;>
    simp [Int.sign_eq_neg_one_of_neg, Int.sign_eq_one_of_pos, h1, h2] at h <;> omega
theorem cmpN_sign (a b : Nat) : cmpN a b = ((a : Int) - b).sign := by
  rcases Nat.lt_trichotomy a b with h | h | h
  · rw [cmpN_lt h, Int.sign_eq_neg_one_of_neg (by omega)]
  · rw [cmpN_eq h, h]; simp
  · rw [cmpN_gt h, Int.sign_eq_one_of_pos (by omega)]
theorem sign_neg_iff {y : Int} : y.sign < 0 ↔ y < 0 := by
  rcases Int.lt_trichotomy y 0 with h1 | h1 | h1
  · simp [Int.sign_eq_neg_one_of_neg h1, h1]
  · simp [h1]
  · simp [Int.sign_eq_one_of_pos h1]; omega
theorem cmp_neg {na nb : Bool} {ma mb : Nat} (h : (iv na ma).sign < 0) (hs : (iv na ma).sign = (iv nb mb).sign) : cmpN mb ma = (iv na ma - iv nb mb).sign := by
  have h2 : (iv nb mb).sign < 0 := hs ▸ h
  rw [sign_neg_iff] at h h2
  rw [cmpN_sign]
  congr 1
  cases na <;> cases nb <;> simp [iv] at h h2 ⊢ <;> omega
theorem cmp_pos {na nb : Bool} {ma mb : Nat} (h : ¬ (iv na ma).sign < 0) (hs : (iv na ma).sign = (iv nb mb).sign) : cmpN ma mb = (iv na ma - iv nb mb).sign := by
  have h2 : ¬ (iv nb mb).sign < 0 := hs ▸ h
  rw [sign_neg_iff] at h h2
  rw [cmpN_sign]
  congr 1
  cases na <;> cases nb <;> simp [iv] at h h2 ⊢ <;> omega

set_option maxRecDepth 100000 in
theorem isame_bx {L M : Nat} {y z : Int} {n : Bool} {sa sb : Value} {w : World} (ha : Can y.natAbs L w sa) (hb : Can z.natAbs M w sb) (he : y.natAbs = z.natAbs) :
    Calls Try.prog 44 #[.agg #[.bool n, sa], .agg #[.bool n, sb]] w (Ret w (Val (.bool true))) := by
  have Ha := Lib.hid ha
  have Hb := Lib.hid hb
  have He := Lib.hid he
  clear ha hb he
  go_enter Try.func44, Try.ntmps44
  go_wp2_with fail
  obtain ⟨W, hW⟩ : ∃ W, W = ((w.alloc (.cells #[.bool n, sa] 33)).alloc (.cells #[.bool n, sb] 33)) := ⟨_, rfl⟩
  rw [← hW]
  obtain ⟨x1, x2, hk, hb⟩ := boxes_2 _ _ _ _ _ hW
  clear hW
  have Ha := Lib.hid (Can.keep Ha.out hk)
  have Hb := Lib.hid (Can.keep Hb.out hk)
  have X1 := Lib.hid x1
  have X2 := Lib.hid x2
  have HB := Lib.hid hb
  clear hk hb x1 x2
  (first | (have hcall := same_can Ha.out Hb.out He.out; refine Calls.mono hcall ?_; clear hcall) | refine Calls.mono (same_can Ha.out Hb.out He.out) ?_)
  rintro e w1 ⟨v1, rfl, rfl, hb⟩
  have X1 := Lib.hid (Box.pcall hb X1.out)
  have X2 := Lib.hid (Box.pcall hb X2.out)
  have HB := Lib.hid (below_call HB.out hb)
  clear hb
  obtain ⟨c10, c11, f10, f11⟩ := X1.out.c2
  obtain ⟨c20, c21, f20, f21⟩ := X2.out.c2
  go_wp2_with fail
  go_wp2
  all_goals (go_ret; exact ⟨_, rfl, rfl, HB.out⟩)


theorem isame_cl {y z : Int} {L M : Nat} {u v : Value} {w : World} (h : CL y L w u) (h' : CL z M w v) (he : y = z) :
    Calls Try.prog 44 #[u, v] w (Ret w (Val (.bool true))) := by
  subst he
  obtain ⟨⟨s, rfl, h2⟩, h3⟩ := h
  obtain ⟨⟨s', rfl, h2'⟩, h3'⟩ := h'
  exact isame_bx ⟨h2, h3⟩ ⟨h2', h3'⟩ rfl

set_option maxRecDepth 100000 in
theorem isign_0 {L m : Nat} {sa : Value} {w : World} (n : Bool) (ha : Is m L w sa) (hL : L ≤ 4294967296) (hm : m = 0) :
    Calls Try.prog 71 #[.agg #[.bool n, sa]] w (Ret w (Val (.int .i64 0))) := by
  have Ha := Lib.hid ha
  have Hm := Lib.hid hm
  clear ha hm
  go_enter Try.func71, Try.ntmps71
  go_wp2_with fail
  obtain ⟨W, hW⟩ : ∃ W, W = (w.alloc (.cells #[.bool n, sa] 33)) := ⟨_, rfl⟩
  rw [← hW]
  obtain ⟨x1, hk, hb⟩ := boxes_1 _ _ _ hW
  clear hW
  have Ha := Lib.hid (Is.keep Ha.out hk)
  have X1 := Lib.hid x1
  have HB := Lib.hid hb
  clear hk hb x1
  (first | (have hcall := bits_zero Hm.out Ha.out hL; refine Calls.mono hcall ?_; clear hcall) | refine Calls.mono (bits_zero Hm.out Ha.out hL) ?_)
  rintro e w1 ⟨v1, rfl, rfl, hb⟩
  have X1 := Lib.hid (Box.pcall hb X1.out)
  have HB := Lib.hid (below_call HB.out hb)
  clear hb
  go_wp2
  all_goals (go_ret; exact ⟨_, rfl, rfl, HB.out⟩)


set_option maxRecDepth 100000 in
theorem isign_true {L m : Nat} {sa : Value} {w : World} (ha : Is m L w sa) (hL : L ≤ 4294967296) (hm : 0 < m) :
    Calls Try.prog 71 #[.agg #[.bool true, sa]] w (Ret w (Val (.int .i64 (-1)))) := by
  have Ha := Lib.hid ha
  have Hm := Lib.hid hm
  clear ha hm
  go_enter Try.func71, Try.ntmps71
  go_wp2_with fail
  obtain ⟨W, hW⟩ : ∃ W, W = (w.alloc (.cells #[.bool true, sa] 33)) := ⟨_, rfl⟩
  rw [← hW]
  obtain ⟨x1, hk, hb⟩ := boxes_1 _ _ _ hW
  clear hW
  have Ha := Lib.hid (Is.keep Ha.out hk)
  have X1 := Lib.hid x1
  have HB := Lib.hid hb
  clear hk hb x1
  (first | (have hcall := bits_pos Hm.out Ha.out hL; refine Calls.mono hcall ?_; clear hcall) | refine Calls.mono (bits_pos Hm.out Ha.out hL) ?_)
  rintro e w1 ⟨v1, rfl, ⟨U, rfl, hU⟩, hb⟩
  have X1 := Lib.hid (Box.pcall hb X1.out)
  have HB := Lib.hid (below_call HB.out hb)
  clear hb
  obtain ⟨c10, c11, f10, f11⟩ := X1.out.c2
  go_wp2_with fail
  go_wp2
  all_goals (go_ret; exact ⟨_, rfl, rfl, HB.out⟩)


set_option maxRecDepth 100000 in
theorem isign_false {L m : Nat} {sa : Value} {w : World} (ha : Is m L w sa) (hL : L ≤ 4294967296) (hm : 0 < m) :
    Calls Try.prog 71 #[.agg #[.bool false, sa]] w (Ret w (Val (.int .i64 1))) := by
  have Ha := Lib.hid ha
  have Hm := Lib.hid hm
  clear ha hm
  go_enter Try.func71, Try.ntmps71
  go_wp2_with fail
  obtain ⟨W, hW⟩ : ∃ W, W = (w.alloc (.cells #[.bool false, sa] 33)) := ⟨_, rfl⟩
  rw [← hW]
  obtain ⟨x1, hk, hb⟩ := boxes_1 _ _ _ hW
  clear hW
  have Ha := Lib.hid (Is.keep Ha.out hk)
  have X1 := Lib.hid x1
  have HB := Lib.hid hb
  clear hk hb x1
  (first | (have hcall := bits_pos Hm.out Ha.out hL; refine Calls.mono hcall ?_; clear hcall) | refine Calls.mono (bits_pos Hm.out Ha.out hL) ?_)
  rintro e w1 ⟨v1, rfl, ⟨U, rfl, hU⟩, hb⟩
  have X1 := Lib.hid (Box.pcall hb X1.out)
  have HB := Lib.hid (below_call HB.out hb)
  clear hb
  obtain ⟨c10, c11, f10, f11⟩ := X1.out.c2
  go_wp2_with fail
  go_wp2
  all_goals (go_ret; exact ⟨_, rfl, rfl, HB.out⟩)


set_option maxRecDepth 100000 in
theorem risign_0 {L m : Nat} {sa : Value} {w : World} (n : Bool) (ha : Is m L w sa) (hm : m = 0) :
    Calls Try.prog 72 #[.agg #[.bool n, sa]] w (Ret w (Val (.int .i64 0))) := by
  have Ha := Lib.hid ha
  have Hm := Lib.hid hm
  clear ha hm
  go_enter Try.func72, Try.ntmps72
  go_wp2_with fail
  obtain ⟨W, hW⟩ : ∃ W, W = (w.alloc (.cells #[.bool n, sa] 33)) := ⟨_, rfl⟩
  rw [← hW]
  obtain ⟨x1, hk, hb⟩ := boxes_1 _ _ _ hW
  clear hW
  have Ha := Lib.hid (Is.keep Ha.out hk)
  have X1 := Lib.hid x1
  have HB := Lib.hid hb
  clear hk hb x1
  (first | (have hcall := rimake_0 Hm.out Ha.out; refine Calls.mono hcall ?_; clear hcall) | refine Calls.mono (rimake_0 Hm.out Ha.out) ?_)
  rintro e w1 ⟨v1, rfl, ⟨ad, n1, cap, rfl, hn1⟩, hb⟩
  have X1 := Lib.hid (Box.pcall hb X1.out)
  have HB := Lib.hid (below_call HB.out hb)
  clear hb
  obtain ⟨c10, c11, f10, f11⟩ := X1.out.c2
  go_wp2_with fail
  go_wp2
  go_ret
  exact ⟨_, rfl, rfl, by first | exact HB.out | exact below_set2 HB.out (by omega) | exact below_set3 HB.out (by omega)⟩


set_option maxRecDepth 100000 in
theorem risign_true {L m : Nat} {sa : Value} {w : World} (ha : Is m L w sa) (hm : 0 < m) :
    Calls Try.prog 72 #[.agg #[.bool true, sa]] w (Ret w (Val (.int .i64 (-1)))) := by
  have Ha := Lib.hid ha
  have Hm := Lib.hid hm
  clear ha hm
  go_enter Try.func72, Try.ntmps72
  go_wp2_with fail
  obtain ⟨W, hW⟩ : ∃ W, W = (w.alloc (.cells #[.bool true, sa] 33)) := ⟨_, rfl⟩
  rw [← hW]
  obtain ⟨x1, hk, hb⟩ := boxes_1 _ _ _ hW
  clear hW
  have Ha := Lib.hid (Is.keep Ha.out hk)
  have X1 := Lib.hid x1
  have HB := Lib.hid hb
  clear hk hb x1
  (first | (have hcall := rimake_true Hm.out Ha.out; refine Calls.mono hcall ?_; clear hcall) | refine Calls.mono (rimake_true Hm.out Ha.out) ?_)
  rintro e w1 ⟨v1, rfl, ⟨ad, n1, cap, rfl, hn1⟩, hb⟩
  have X1 := Lib.hid (Box.pcall hb X1.out)
  have HB := Lib.hid (below_call HB.out hb)
  clear hb
  obtain ⟨c10, c11, f10, f11⟩ := X1.out.c2
  go_wp2_with fail
  go_wp2
  go_ret
  exact ⟨_, rfl, rfl, by first | exact HB.out | exact below_set2 HB.out (by omega) | exact below_set3 HB.out (by omega)⟩


set_option maxRecDepth 100000 in
theorem risign_false {L m : Nat} {sa : Value} {w : World} (ha : Is m L w sa) (hm : 0 < m) :
    Calls Try.prog 72 #[.agg #[.bool false, sa]] w (Ret w (Val (.int .i64 1))) := by
  have Ha := Lib.hid ha
  have Hm := Lib.hid hm
  clear ha hm
  go_enter Try.func72, Try.ntmps72
  go_wp2_with fail
  obtain ⟨W, hW⟩ : ∃ W, W = (w.alloc (.cells #[.bool false, sa] 33)) := ⟨_, rfl⟩
  rw [← hW]
  obtain ⟨x1, hk, hb⟩ := boxes_1 _ _ _ hW
  clear hW
  have Ha := Lib.hid (Is.keep Ha.out hk)
  have X1 := Lib.hid x1
  have HB := Lib.hid hb
  clear hk hb x1
  (first | (have hcall := rimake_false Hm.out Ha.out; refine Calls.mono hcall ?_; clear hcall) | refine Calls.mono (rimake_false Hm.out Ha.out) ?_)
  rintro e w1 ⟨v1, rfl, ⟨ad, n1, cap, rfl, hn1⟩, hb⟩
  have X1 := Lib.hid (Box.pcall hb X1.out)
  have HB := Lib.hid (below_call HB.out hb)
  clear hb
  obtain ⟨c10, c11, f10, f11⟩ := X1.out.c2
  go_wp2_with fail
  go_wp2
  go_ret
  exact ⟨_, rfl, rfl, by first | exact HB.out | exact below_set2 HB.out (by omega) | exact below_set3 HB.out (by omega)⟩


theorem isign_ai {z : Int} {L : Nat} {u : Value} {w : World} (k : Int) (h : AI z L w u) (hk : z.sign = k) (hL : L ≤ 4294967296) :
    Calls Try.prog 71 #[u] w (Ret w (Val (.int .i64 k))) := by
  obtain ⟨n, s, m, rfl, h, rfl⟩ := h
  subst hk
  rcases Nat.eq_zero_or_pos m with h0 | h0
  · rw [iv_sign_0 h0]; exact isign_0 n h hL h0
  · cases n
    · rw [iv_sign_false h0]; exact isign_false h hL h0
    · rw [iv_sign_true h0]; exact isign_true h hL h0

theorem risign_ai {z : Int} {L : Nat} {u : Value} {w : World} (k : Int) (h : AI z L w u) (hk : z.sign = k) :
    Calls Try.prog 72 #[u] w (Ret w (Val (.int .i64 k))) := by
  obtain ⟨n, s, m, rfl, h, rfl⟩ := h
  subst hk
  rcases Nat.eq_zero_or_pos m with h0 | h0
  · rw [iv_sign_0 h0]; exact risign_0 n h h0
  · cases n
    · rw [iv_sign_false h0]; exact risign_false h h0
    · rw [iv_sign_true h0]; exact risign_true h h0

set_option maxRecDepth 100000 in
theorem rivalid_tt_pos {ad : Option Addr} {n1 cap : Nat} {xs : List Nat} {w : World} (hc : canon xs = true) (hp : 0 < xs.length) (hn : xs.length = n1) (ha : Sl w (.slice ad n1 cap) xs) :
    Calls Try.prog 22 #[.agg #[.bool true, .slice ad n1 cap]] w (Ret w (Val (.bool true))) := by
  have Ha := Lib.hid ha
  have Hc := Lib.hid hc
  clear ha hc
  have hq : decide (0 < n1) = true := by simpa using (show 0 < n1 by omega)
  clear hp hn
  go_enter Try.func22, Try.ntmps22
  go_wp2_with fail
  obtain ⟨W, hW⟩ : ∃ W, W = (w.alloc (.cells #[.bool true, .slice ad n1 cap] 33)) := ⟨_, rfl⟩
  rw [← hW]
  obtain ⟨x1, hk, hb⟩ := boxes_1 _ _ _ hW
  clear hW
  have Ha := Lib.hid (Sl.keep Ha.out hk)
  have X1 := Lib.hid x1
  have HB := Lib.hid hb
  clear hk hb x1
  (first | (have hcall := rvalid_sl Hc.out Ha.out; refine Calls.mono hcall ?_; clear hcall) | refine Calls.mono (rvalid_sl Hc.out Ha.out) ?_)
  rintro e w1 ⟨v1, rfl, rfl, hb⟩
  have X1 := Lib.hid (Box.pcall hb X1.out)
  have HB := Lib.hid (below_call HB.out hb)
  clear hb
  obtain ⟨c10, c11, f10, f11⟩ := X1.out.c2
  go_wp2_with fail
  go_wp2
  all_goals (go_ret; exact ⟨_, rfl, rfl, HB.out⟩)


set_option maxRecDepth 100000 in
theorem rivalid_tt_nil {ad : Option Addr} {n1 cap : Nat} {xs : List Nat} {w : World} (hc : canon xs = true) (hp : xs.length = 0) (hn : xs.length = n1) (ha : Sl w (.slice ad n1 cap) xs) :
    Calls Try.prog 22 #[.agg #[.bool true, .slice ad n1 cap]] w (Ret w (Val (.bool false))) := by
  have Ha := Lib.hid ha
  have Hc := Lib.hid hc
  clear ha hc
  have hq : decide (0 < n1) = false := by simpa using (show n1 = 0 by omega)
  clear hp hn
  go_enter Try.func22, Try.ntmps22
  go_wp2_with fail
  obtain ⟨W, hW⟩ : ∃ W, W = (w.alloc (.cells #[.bool true, .slice ad n1 cap] 33)) := ⟨_, rfl⟩
  rw [← hW]
  obtain ⟨x1, hk, hb⟩ := boxes_1 _ _ _ hW
  clear hW
  have Ha := Lib.hid (Sl.keep Ha.out hk)
  have X1 := Lib.hid x1
  have HB := Lib.hid hb
  clear hk hb x1
  (first | (have hcall := rvalid_sl Hc.out Ha.out; refine Calls.mono hcall ?_; clear hcall) | refine Calls.mono (rvalid_sl Hc.out Ha.out) ?_)
  rintro e w1 ⟨v1, rfl, rfl, hb⟩
  have X1 := Lib.hid (Box.pcall hb X1.out)
  have HB := Lib.hid (below_call HB.out hb)
  clear hb
  obtain ⟨c10, c11, f10, f11⟩ := X1.out.c2
  go_wp2_with fail
  go_wp2
  all_goals (go_ret; exact ⟨_, rfl, rfl, HB.out⟩)


set_option maxRecDepth 100000 in
theorem rivalid_tf {sa : Value} {xs : List Nat} {w : World} (hc : canon xs = false) (ha : Sl w sa xs) :
    Calls Try.prog 22 #[.agg #[.bool true, sa]] w (Ret w (Val (.bool false))) := by
  have Ha := Lib.hid ha
  have Hc := Lib.hid hc
  clear ha hc
  go_enter Try.func22, Try.ntmps22
  go_wp2_with fail
  obtain ⟨W, hW⟩ : ∃ W, W = (w.alloc (.cells #[.bool true, sa] 33)) := ⟨_, rfl⟩
  rw [← hW]
  obtain ⟨x1, hk, hb⟩ := boxes_1 _ _ _ hW
  clear hW
  have Ha := Lib.hid (Sl.keep Ha.out hk)
  have X1 := Lib.hid x1
  have HB := Lib.hid hb
  clear hk hb x1
  (first | (have hcall := rvalid_sl Hc.out Ha.out; refine Calls.mono hcall ?_; clear hcall) | refine Calls.mono (rvalid_sl Hc.out Ha.out) ?_)
  rintro e w1 ⟨v1, rfl, rfl, hb⟩
  have X1 := Lib.hid (Box.pcall hb X1.out)
  have HB := Lib.hid (below_call HB.out hb)
  clear hb
  obtain ⟨c10, c11, f10, f11⟩ := X1.out.c2
  go_wp2_with fail
  go_wp2
  all_goals (go_ret; exact ⟨_, rfl, rfl, HB.out⟩)


set_option maxRecDepth 100000 in
theorem rivalid_ft {ad : Option Addr} {n1 cap : Nat} {xs : List Nat} {w : World} (hc : canon xs = true) (ha : Sl w (.slice ad n1 cap) xs) :
    Calls Try.prog 22 #[.agg #[.bool false, .slice ad n1 cap]] w (Ret w (Val (.bool true))) := by
  have Ha := Lib.hid ha
  have Hc := Lib.hid hc
  clear ha hc
  go_enter Try.func22, Try.ntmps22
  go_wp2_with fail
  obtain ⟨W, hW⟩ : ∃ W, W = (w.alloc (.cells #[.bool false, .slice ad n1 cap] 33)) := ⟨_, rfl⟩
  rw [← hW]
  obtain ⟨x1, hk, hb⟩ := boxes_1 _ _ _ hW
  clear hW
  have Ha := Lib.hid (Sl.keep Ha.out hk)
  have X1 := Lib.hid x1
  have HB := Lib.hid hb
  clear hk hb x1
  (first | (have hcall := rvalid_sl Hc.out Ha.out; refine Calls.mono hcall ?_; clear hcall) | refine Calls.mono (rvalid_sl Hc.out Ha.out) ?_)
  rintro e w1 ⟨v1, rfl, rfl, hb⟩
  have X1 := Lib.hid (Box.pcall hb X1.out)
  have HB := Lib.hid (below_call HB.out hb)
  clear hb
  obtain ⟨c10, c11, f10, f11⟩ := X1.out.c2
  go_wp2_with fail
  go_wp2
  all_goals (go_ret; exact ⟨_, rfl, rfl, HB.out⟩)


set_option maxRecDepth 100000 in
theorem rivalid_ff {sa : Value} {xs : List Nat} {w : World} (hc : canon xs = false) (ha : Sl w sa xs) :
    Calls Try.prog 22 #[.agg #[.bool false, sa]] w (Ret w (Val (.bool false))) := by
  have Ha := Lib.hid ha
  have Hc := Lib.hid hc
  clear ha hc
  go_enter Try.func22, Try.ntmps22
  go_wp2_with fail
  obtain ⟨W, hW⟩ : ∃ W, W = (w.alloc (.cells #[.bool false, sa] 33)) := ⟨_, rfl⟩
  rw [← hW]
  obtain ⟨x1, hk, hb⟩ := boxes_1 _ _ _ hW
  clear hW
  have Ha := Lib.hid (Sl.keep Ha.out hk)
  have X1 := Lib.hid x1
  have HB := Lib.hid hb
  clear hk hb x1
  (first | (have hcall := rvalid_sl Hc.out Ha.out; refine Calls.mono hcall ?_; clear hcall) | refine Calls.mono (rvalid_sl Hc.out Ha.out) ?_)
  rintro e w1 ⟨v1, rfl, rfl, hb⟩
  have X1 := Lib.hid (Box.pcall hb X1.out)
  have HB := Lib.hid (below_call HB.out hb)
  clear hb
  obtain ⟨c10, c11, f10, f11⟩ := X1.out.c2
  go_wp2_with fail
  go_wp2
  all_goals (go_ret; exact ⟨_, rfl, rfl, HB.out⟩)


set_option maxRecDepth 100000 in
theorem icmp_lt {L M : Nat} {ma mb : Nat} {na nb : Bool} {sa sb : Value} {w : World} (s t : Int) (hs : (iv na ma).sign = s) (ht : (iv nb mb).sign = t) (h1 : decide (s < t) = true) (ha : Is ma L w sa) (hb : Is mb M w sb) (hL : L ≤ 4294967296) (hM : M ≤ 4294967296) :
    Calls Try.prog 78 #[.agg #[.bool na, sa], .agg #[.bool nb, sb]] w (Ret w (Val (.int .i64 (-1)))) := by
  have Ha := Lib.hid ha
  have Hb := Lib.hid hb
  have Hs := Lib.hid hs
  have Ht := Lib.hid ht
  clear ha hb hs ht
  go_enter Try.func78, Try.ntmps78
  go_wp2_with fail
  obtain ⟨W, hW⟩ : ∃ W, W = ((w.alloc (.cells #[.bool na, sa] 33)).alloc (.cells #[.bool nb, sb] 33)) := ⟨_, rfl⟩
  rw [← hW]
  obtain ⟨x1, x2, hk, hb⟩ := boxes_2 _ _ _ _ _ hW
  clear hW
  have Ha := Lib.hid (Is.keep Ha.out hk)
  have Hb := Lib.hid (Is.keep Hb.out hk)
  have X1 := Lib.hid x1
  have X2 := Lib.hid x2
  have HB := Lib.hid hb
  clear hk hb x1 x2
  have Ha := Lib.hid (Is.keep Ha.out (Keep.drew W))
  have Hb := Lib.hid (Is.keep Hb.out (Keep.drew W))
  have X1 := Lib.hid (Box.drew X1.out)
  have X2 := Lib.hid (Box.drew X2.out)
  have HB := Lib.hid (Below.drew HB.out)
  have tok0 : True := trivial
  go_region_held3 (fun w' => w'.cell? ⟨w.heap.size, 0, none⟩ = some (.bool na) ∧ w'.cell? ⟨w.heap.size, 1, none⟩ = some (sa) ∧ w'.cell? ⟨w.heap.size + 1, 0, none⟩ = some (.bool nb) ∧ w'.cell? ⟨w.heap.size + 1, 1, none⟩ = some (sb))
    (first | exact ⟨X1.out.cell 0 rfl, X1.out.cell 1 rfl, X2.out.cell 0 rfl, X2.out.cell 1 rfl⟩ | go_keep)
    (first | (have _t := tok0; go_at_call 71; (first | (have hcall := isign_ai s (AI.mk Ha.out) Hs.out hL; refine Calls.mono hcall ?_; clear hcall) | refine Calls.mono (isign_ai s (AI.mk Ha.out) Hs.out hL) ?_); rintro e w1 ⟨v1, rfl, rfl, hb⟩; have Hb := Lib.hid (Is.keep Hb.out (Keep.call hb)); have X1 := Lib.hid (Box.pcall hb X1.out); have X2 := Lib.hid (Box.pcall hb X2.out); have HB := Lib.hid (below_call HB.out hb); clear hb tok0 _t; have tok1 : True := trivial)
           | (have _t := tok1; go_at_call 71; (first | (have hcall := isign_ai t (AI.mk Hb.out) Ht.out hM; refine Calls.mono hcall ?_; clear hcall) | refine Calls.mono (isign_ai t (AI.mk Hb.out) Ht.out hM) ?_); rintro e w2 ⟨v2, rfl, rfl, hb⟩; have X1 := Lib.hid (Box.pcall hb X1.out); have X2 := Lib.hid (Box.pcall hb X2.out); have HB := Lib.hid (below_call HB.out hb); clear hb tok1 _t))
  go_wp2
  all_goals (go_ret; exact ⟨_, rfl, rfl, HB.out⟩)


set_option maxRecDepth 100000 in
theorem icmp_gt {L M : Nat} {ma mb : Nat} {na nb : Bool} {sa sb : Value} {w : World} (s t : Int) (hs : (iv na ma).sign = s) (ht : (iv nb mb).sign = t) (h1 : decide (s < t) = false) (h2 : decide (t < s) = true) (ha : Is ma L w sa) (hb : Is mb M w sb) (hL : L ≤ 4294967296) (hM : M ≤ 4294967296) :
    Calls Try.prog 78 #[.agg #[.bool na, sa], .agg #[.bool nb, sb]] w (Ret w (Val (.int .i64 1))) := by
  have Ha := Lib.hid ha
  have Hb := Lib.hid hb
  have Hs := Lib.hid hs
  have Ht := Lib.hid ht
  clear ha hb hs ht
  go_enter Try.func78, Try.ntmps78
  go_wp2_with fail
  obtain ⟨W, hW⟩ : ∃ W, W = ((w.alloc (.cells #[.bool na, sa] 33)).alloc (.cells #[.bool nb, sb] 33)) := ⟨_, rfl⟩
  rw [← hW]
  obtain ⟨x1, x2, hk, hb⟩ := boxes_2 _ _ _ _ _ hW
  clear hW
  have Ha := Lib.hid (Is.keep Ha.out hk)
  have Hb := Lib.hid (Is.keep Hb.out hk)
  have X1 := Lib.hid x1
  have X2 := Lib.hid x2
  have HB := Lib.hid hb
  clear hk hb x1 x2
  have Ha := Lib.hid (Is.keep Ha.out (Keep.drew W))
  have Hb := Lib.hid (Is.keep Hb.out (Keep.drew W))
  have X1 := Lib.hid (Box.drew X1.out)
  have X2 := Lib.hid (Box.drew X2.out)
  have HB := Lib.hid (Below.drew HB.out)
  have tok0 : True := trivial
  go_region_held3 (fun w' => w'.cell? ⟨w.heap.size, 0, none⟩ = some (.bool na) ∧ w'.cell? ⟨w.heap.size, 1, none⟩ = some (sa) ∧ w'.cell? ⟨w.heap.size + 1, 0, none⟩ = some (.bool nb) ∧ w'.cell? ⟨w.heap.size + 1, 1, none⟩ = some (sb))
    (first | exact ⟨X1.out.cell 0 rfl, X1.out.cell 1 rfl, X2.out.cell 0 rfl, X2.out.cell 1 rfl⟩ | go_keep)
    (first | (have _t := tok0; go_at_call 71; (first | (have hcall := isign_ai s (AI.mk Ha.out) Hs.out hL; refine Calls.mono hcall ?_; clear hcall) | refine Calls.mono (isign_ai s (AI.mk Ha.out) Hs.out hL) ?_); rintro e w1 ⟨v1, rfl, rfl, hb⟩; have Hb := Lib.hid (Is.keep Hb.out (Keep.call hb)); have X1 := Lib.hid (Box.pcall hb X1.out); have X2 := Lib.hid (Box.pcall hb X2.out); have HB := Lib.hid (below_call HB.out hb); clear hb tok0 _t; have tok1 : True := trivial)
           | (have _t := tok1; go_at_call 71; (first | (have hcall := isign_ai t (AI.mk Hb.out) Ht.out hM; refine Calls.mono hcall ?_; clear hcall) | refine Calls.mono (isign_ai t (AI.mk Hb.out) Ht.out hM) ?_); rintro e w2 ⟨v2, rfl, rfl, hb⟩; have X1 := Lib.hid (Box.pcall hb X1.out); have X2 := Lib.hid (Box.pcall hb X2.out); have HB := Lib.hid (below_call HB.out hb); clear hb tok1 _t))
  go_wp2
  all_goals (go_ret; exact ⟨_, rfl, rfl, HB.out⟩)


set_option maxRecDepth 100000 in
theorem icmp_neg {L M : Nat} {ma mb : Nat} {na nb : Bool} {sa sb : Value} {w : World} (s t : Int) (hs : (iv na ma).sign = s) (ht : (iv nb mb).sign = t) (k : Int) (h1 : decide (s < t) = false) (h2 : decide (t < s) = false) (h3 : decide (s < 0) = true) (hk : cmpN mb ma = k) (ha : Is ma L w sa) (hb : Is mb M w sb) (hL : L ≤ 4294967296) (hM : M ≤ 4294967296) :
    Calls Try.prog 78 #[.agg #[.bool na, sa], .agg #[.bool nb, sb]] w (Ret w (Val (.int .i64 k))) := by
  have Ha := Lib.hid ha
  have Hb := Lib.hid hb
  have Hs := Lib.hid hs
  have Ht := Lib.hid ht
  have Hk := Lib.hid hk
  clear ha hb hs ht hk
  go_enter Try.func78, Try.ntmps78
  go_wp2_with fail
  obtain ⟨W, hW⟩ : ∃ W, W = ((w.alloc (.cells #[.bool na, sa] 33)).alloc (.cells #[.bool nb, sb] 33)) := ⟨_, rfl⟩
  rw [← hW]
  obtain ⟨x1, x2, hk, hb⟩ := boxes_2 _ _ _ _ _ hW
  clear hW
  have Ha := Lib.hid (Is.keep Ha.out hk)
  have Hb := Lib.hid (Is.keep Hb.out hk)
  have X1 := Lib.hid x1
  have X2 := Lib.hid x2
  have HB := Lib.hid hb
  clear hk hb x1 x2
  have Ha := Lib.hid (Is.keep Ha.out (Keep.drew W))
  have Hb := Lib.hid (Is.keep Hb.out (Keep.drew W))
  have X1 := Lib.hid (Box.drew X1.out)
  have X2 := Lib.hid (Box.drew X2.out)
  have HB := Lib.hid (Below.drew HB.out)
  have tok0 : True := trivial
  go_region_held3 (fun w' => w'.cell? ⟨w.heap.size, 0, none⟩ = some (.bool na) ∧ w'.cell? ⟨w.heap.size, 1, none⟩ = some (sa) ∧ w'.cell? ⟨w.heap.size + 1, 0, none⟩ = some (.bool nb) ∧ w'.cell? ⟨w.heap.size + 1, 1, none⟩ = some (sb))
    (first | exact ⟨X1.out.cell 0 rfl, X1.out.cell 1 rfl, X2.out.cell 0 rfl, X2.out.cell 1 rfl⟩ | go_keep)
    (first | (have _t := tok0; go_at_call 71; (first | (have hcall := isign_ai s (AI.mk Ha.out) Hs.out hL; refine Calls.mono hcall ?_; clear hcall) | refine Calls.mono (isign_ai s (AI.mk Ha.out) Hs.out hL) ?_); rintro e w1 ⟨v1, rfl, rfl, hb⟩; have Ha := Lib.hid (Is.keep Ha.out (Keep.call hb)); have Hb := Lib.hid (Is.keep Hb.out (Keep.call hb)); have X1 := Lib.hid (Box.pcall hb X1.out); have X2 := Lib.hid (Box.pcall hb X2.out); have HB := Lib.hid (below_call HB.out hb); clear hb tok0 _t; have tok1 : True := trivial)
           | (have _t := tok1; go_at_call 71; (first | (have hcall := isign_ai t (AI.mk Hb.out) Ht.out hM; refine Calls.mono hcall ?_; clear hcall) | refine Calls.mono (isign_ai t (AI.mk Hb.out) Ht.out hM) ?_); rintro e w2 ⟨v2, rfl, rfl, hb⟩; have Ha := Lib.hid (Is.keep Ha.out (Keep.call hb)); have Hb := Lib.hid (Is.keep Hb.out (Keep.call hb)); have X1 := Lib.hid (Box.pcall hb X1.out); have X2 := Lib.hid (Box.pcall hb X2.out); have HB := Lib.hid (below_call HB.out hb); clear hb tok1 _t))
  obtain ⟨c10, c11, f10, f11⟩ := X1.out.c2
  obtain ⟨c20, c21, f20, f21⟩ := X2.out.c2
  go_wp2_with fail
  clear c10 c11 f10 f11 c20 c21 f20 f21
  (first | (have hcall := cmp_is k Hb.out Ha.out Hk.out; refine Calls.mono hcall ?_; clear hcall) | refine Calls.mono (cmp_is k Hb.out Ha.out Hk.out) ?_)
  rintro e w3 ⟨v3, rfl, rfl, hb⟩
  have X1 := Lib.hid (Box.pcall hb X1.out)
  have X2 := Lib.hid (Box.pcall hb X2.out)
  have HB := Lib.hid (below_call HB.out hb)
  clear hb
  go_wp2
  all_goals (go_ret; exact ⟨_, rfl, rfl, HB.out⟩)


set_option maxRecDepth 100000 in
theorem icmp_pos {L M : Nat} {ma mb : Nat} {na nb : Bool} {sa sb : Value} {w : World} (s t : Int) (hs : (iv na ma).sign = s) (ht : (iv nb mb).sign = t) (k : Int) (h1 : decide (s < t) = false) (h2 : decide (t < s) = false) (h3 : decide (s < 0) = false) (hk : cmpN ma mb = k) (ha : Is ma L w sa) (hb : Is mb M w sb) (hL : L ≤ 4294967296) (hM : M ≤ 4294967296) :
    Calls Try.prog 78 #[.agg #[.bool na, sa], .agg #[.bool nb, sb]] w (Ret w (Val (.int .i64 k))) := by
  have Ha := Lib.hid ha
  have Hb := Lib.hid hb
  have Hs := Lib.hid hs
  have Ht := Lib.hid ht
  have Hk := Lib.hid hk
  clear ha hb hs ht hk
  go_enter Try.func78, Try.ntmps78
  go_wp2_with fail
  obtain ⟨W, hW⟩ : ∃ W, W = ((w.alloc (.cells #[.bool na, sa] 33)).alloc (.cells #[.bool nb, sb] 33)) := ⟨_, rfl⟩
  rw [← hW]
  obtain ⟨x1, x2, hk, hb⟩ := boxes_2 _ _ _ _ _ hW
  clear hW
  have Ha := Lib.hid (Is.keep Ha.out hk)
  have Hb := Lib.hid (Is.keep Hb.out hk)
  have X1 := Lib.hid x1
  have X2 := Lib.hid x2
  have HB := Lib.hid hb
  clear hk hb x1 x2
  have Ha := Lib.hid (Is.keep Ha.out (Keep.drew W))
  have Hb := Lib.hid (Is.keep Hb.out (Keep.drew W))
  have X1 := Lib.hid (Box.drew X1.out)
  have X2 := Lib.hid (Box.drew X2.out)
  have HB := Lib.hid (Below.drew HB.out)
  have tok0 : True := trivial
  go_region_held3 (fun w' => w'.cell? ⟨w.heap.size, 0, none⟩ = some (.bool na) ∧ w'.cell? ⟨w.heap.size, 1, none⟩ = some (sa) ∧ w'.cell? ⟨w.heap.size + 1, 0, none⟩ = some (.bool nb) ∧ w'.cell? ⟨w.heap.size + 1, 1, none⟩ = some (sb))
    (first | exact ⟨X1.out.cell 0 rfl, X1.out.cell 1 rfl, X2.out.cell 0 rfl, X2.out.cell 1 rfl⟩ | go_keep)
    (first | (have _t := tok0; go_at_call 71; (first | (have hcall := isign_ai s (AI.mk Ha.out) Hs.out hL; refine Calls.mono hcall ?_; clear hcall) | refine Calls.mono (isign_ai s (AI.mk Ha.out) Hs.out hL) ?_); rintro e w1 ⟨v1, rfl, rfl, hb⟩; have Ha := Lib.hid (Is.keep Ha.out (Keep.call hb)); have Hb := Lib.hid (Is.keep Hb.out (Keep.call hb)); have X1 := Lib.hid (Box.pcall hb X1.out); have X2 := Lib.hid (Box.pcall hb X2.out); have HB := Lib.hid (below_call HB.out hb); clear hb tok0 _t; have tok1 : True := trivial)
           | (have _t := tok1; go_at_call 71; (first | (have hcall := isign_ai t (AI.mk Hb.out) Ht.out hM; refine Calls.mono hcall ?_; clear hcall) | refine Calls.mono (isign_ai t (AI.mk Hb.out) Ht.out hM) ?_); rintro e w2 ⟨v2, rfl, rfl, hb⟩; have Ha := Lib.hid (Is.keep Ha.out (Keep.call hb)); have Hb := Lib.hid (Is.keep Hb.out (Keep.call hb)); have X1 := Lib.hid (Box.pcall hb X1.out); have X2 := Lib.hid (Box.pcall hb X2.out); have HB := Lib.hid (below_call HB.out hb); clear hb tok1 _t))
  obtain ⟨c10, c11, f10, f11⟩ := X1.out.c2
  obtain ⟨c20, c21, f20, f21⟩ := X2.out.c2
  go_wp2_with fail
  clear c10 c11 f10 f11 c20 c21 f20 f21
  (first | (have hcall := cmp_is k Ha.out Hb.out Hk.out; refine Calls.mono hcall ?_; clear hcall) | refine Calls.mono (cmp_is k Ha.out Hb.out Hk.out) ?_)
  rintro e w3 ⟨v3, rfl, rfl, hb⟩
  have X1 := Lib.hid (Box.pcall hb X1.out)
  have X2 := Lib.hid (Box.pcall hb X2.out)
  have HB := Lib.hid (below_call HB.out hb)
  clear hb
  go_wp2
  all_goals (go_ret; exact ⟨_, rfl, rfl, HB.out⟩)


theorem icmp_ai {y z : Int} {L M : Nat} {u v : Value} {w : World} (k : Int) (h : AI y L w u) (h' : AI z M w v) (hk : (y - z).sign = k) (hL : L ≤ 4294967296) (hM : M ≤ 4294967296) :
    Calls Try.prog 78 #[u, v] w (Ret w (Val (.int .i64 k))) := by
  obtain ⟨na, sa, ma, rfl, h, rfl⟩ := h
  obtain ⟨nb, sb, mb, rfl, h', rfl⟩ := h'
  subst hk
  rcases Int.lt_trichotomy (iv na ma).sign (iv nb mb).sign with hs | hs | hs
  · rw [sub_sign_lt hs]
    exact icmp_lt _ _ rfl rfl (by simpa using hs) h h' hL hM
  · by_cases hn : (iv na ma).sign < 0
    · exact icmp_neg _ _ rfl rfl _ (by simp; omega) (by simp; omega) (by simpa using hn) (cmp_neg hn hs) h h' hL hM
    · exact icmp_pos _ _ rfl rfl _ (by simp; omega) (by simp; omega) (by simpa using hn) (cmp_pos (by omega) hs) h h' hL hM
  · rw [sub_sign_gt hs]
    exact icmp_gt _ _ rfl rfl (by simp; omega) (by simpa using hs) h h' hL hM
end Go.Proofs.Ytfkjhaniglmejaa
