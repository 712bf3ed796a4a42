/- Layer 3: the reference: DivMod of layer 2, Floor. Printed by ratd.py. -/
import Derived.Test.YtfkjhaniglmejaaRatF
namespace Go.Proofs.Ytfkjhaniglmejaa
open Go.RowKit Nt
set_option linter.unusedVariables false
theorem Box.c1 {w : World} {g : Nat} {t : TypeId} {x : Value} (h : Box w g t #[x]) : w.cell? ⟨g, 0, none⟩ = some x ∧ w.frozen? ⟨g, 0, none⟩ = false := ⟨h.cell 0 rfl, h.free 0⟩
theorem Is.ofbox {w : World} {g : Nat} {t : TypeId} (h : Box w g t #[.int .u32 1]) : Is 1 1 w (.slice (some ⟨g, 0, none⟩) 1 1) := by
  refine ⟨[1], ⟨_, _, _, rfl, rfl, Nat.le_refl _, by decide, ?_, fun _ => ⟨g, 0, rfl, h.lt, fun i hi => ?_⟩⟩, by simp [val], by simp⟩
  · intro x hx; simp at hx; omega
  · obtain rfl : i = 0 := by omega
    exact h.c1.1
theorem rdivmod_r0 {a b L M : Nat} {u v : Value} {w : World} (hb : 0 < b) (hr : a % b = 0) (h : Is a L w u) (h' : Is b M w v) (hL : L ≤ 2147483648) (hM : M ≤ 2147483648) :
    Calls Try.prog 95 #[u, v] w (Ret w (QR0 (a / b) L)) := (rdivmod_pos hb h h' hL hM).mono fun _ _ k => k.imp fun _ _ => qr0 hr
theorem rdivmod_rp {a b L M : Nat} {u v : Value} {w : World} (hb : 0 < b) (hr : 0 < a % b) (h : Is a L w u) (h' : Is b M w v) (hL : L ≤ 2147483648) (hM : M ≤ 2147483648) :
    Calls Try.prog 95 #[u, v] w (Ret w (QRp (a / b) (a % b) L)) := (rdivmod_pos hb h h' hL hM).mono fun _ _ k => k.imp fun _ _ => qrp hr
theorem ret_iie1 {fn : Func} {p q r : Tmp} {a : Act} {w0 W : World} {R : World → Value → Prop} {g h : Nat} {t t' : TypeId} {x y x' y' z : Value} (hres : fn.results = #[.cell p 33, .cell q 33, .tmp r])
    (hp : a.tmps.getD p undef = .pointer (some ⟨g, 0, none⟩)) (hq : a.tmps.getD q undef = .pointer (some ⟨h, 0, none⟩)) (hz : a.tmps.getD r undef = z) (hd : a.defers = []) (X : Box W g t #[x, y]) (Y : Box W h t' #[x', y'])
    (hR : R W (.tuple #[.agg #[x, y], .agg #[x', y'], z])) (HB : Below w0.heap.size w0 W) : bodyPost Try.prog fn (Ret w0 R) .ret a W :=
  bodyPost_ret (results_iie hres _ _ _ g h [x, y] [x', y'] z _ _ hp hq hz (box_range2 X) (box_range2 Y) Try.underlying33 rfl (by kernel_rfl) Try.underlying33 rfl (by kernel_rfl)) hd ⟨_, rfl, hR, HB⟩
theorem den_int_ne (q : Rat) : iv false q.den ≠ 0 := by
  have := q.den_pos
  show ((q.den : Nat) : Int) ≠ 0
  omega
theorem floor_den (q : Rat) : q.num / iv false q.den = q.floor := (Rat.floor_def q).symm

set_option maxRecDepth 100000 in
set_option maxHeartbeats 4000000 in
theorem ridm_P1_true {L M na nb : Nat} {sa sb : Value}  {w : World} (hz : 0 < nb) (hna : Is na L w sa) (hnb : Is nb M w sb) (hL : L ≤ 100000) (hM : M ≤ 100000) :
    Calls Try.prog 111 #[.agg #[.bool false, sa], .agg #[.bool true, sb]] w (Ret w (CL2E (iv false na / iv true nb) (iv false na % iv true nb) (max L 1 + 1) (max L M) 0)) := by
  have Hna := Lib.hid hna
  have Hnb := Lib.hid hnb
  have Hz := Lib.hid hz
  clear hna hnb hz
  go_enter Try.func111, Try.ntmps111
  have HB := Lib.hid (Below.refl w.heap.size w)
  go_wp2_with fail
  obtain ⟨W1, hW⟩ : ∃ W1, W1 = (World.alloc (World.alloc (World.alloc (World.alloc w (.cells #[.bool false, sa] 33)) (.cells #[.bool true, sb] 33)) (.cells #[.bool false, .slice none 0 0] 33)) (.cells #[.bool false, .slice none 0 0] 33)) := ⟨_, rfl⟩
  rw [← hW]
  obtain ⟨xa0, xb0, xc0, xd0, hk, hb⟩ := boxes_4 _ _ _ _ _ _ _ _ _ hW
  clear hW
  have Hna := Lib.hid (Is.keep Hna.out hk)
  have Hnb := Lib.hid (Is.keep Hnb.out hk)
  have Ga0 := Lib.hid (show w.heap.size ≤ w.heap.size from Nat.le_trans HB.out.size (by omega))
  have Gb0 := Lib.hid (show w.heap.size ≤ w.heap.size + 1 from Nat.le_trans HB.out.size (by omega))
  have Gc0 := Lib.hid (show w.heap.size ≤ w.heap.size + 1 + 1 from Nat.le_trans HB.out.size (by omega))
  have Gd0 := Lib.hid (show w.heap.size ≤ w.heap.size + 1 + 1 + 1 from Nat.le_trans HB.out.size (by omega))
  have Xa0 := Lib.hid xa0
  have Xb0 := Lib.hid xb0
  have Xc0 := Lib.hid xc0
  have Xd0 := Lib.hid xd0
  have HB := Lib.hid (below_call HB.out hb)
  clear hk hb xa0 xb0 xc0 xd0
  (first | (have hcall := rdivmod_pos Hz.out Hna.out Hnb.out (by omega) (by omega); refine Calls.mono hcall ?_; clear hcall) | refine Calls.mono (rdivmod_pos Hz.out Hna.out Hnb.out (by omega) (by omega)) ?_)
  rintro e w2 ⟨t2, rfl, ⟨v2, u2, rfl, hq, hr⟩, hb⟩
  obtain ⟨q_a, q_n, q_c, rfl⟩ := hq.is.lit
  obtain ⟨r_a, r_n, r_c, rfl⟩ := hr.is.lit
  have Xa0 := Lib.hid (Box.pcall hb Xa0.out)
  have Xb0 := Lib.hid (Box.pcall hb Xb0.out)
  have Xc0 := Lib.hid (Box.pcall hb Xc0.out)
  have Xd0 := Lib.hid (Box.pcall hb Xd0.out)
  have HB := Lib.hid (below_call HB.out hb)
  have Hq := Lib.hid hq
  have Hr := Lib.hid hr
  clear hb hq hr
  obtain ⟨ca00, ca01, fa00, fa01⟩ := Xa0.out.c2
  have la0 := Xa0.out.lt
  obtain ⟨cb00, cb01, fb00, fb01⟩ := Xb0.out.c2
  have lb0 := Xb0.out.lt
  obtain ⟨cc00, cc01, fc00, fc01⟩ := Xc0.out.c2
  have lc0 := Xc0.out.lt
  obtain ⟨cd00, cd01, fd00, fd01⟩ := Xd0.out.c2
  have ld0 := Xd0.out.lt
  go_wp2_with fail
  clear ca00 ca01 fa00 fa01 la0 cb00 cb01 fb00 fb01 lb0 cc00 cc01 fc00 fc01 lc0 cd00 cd01 fd00 fd01 ld0
  (first | (have hcall := rimake_ai (neg := true) Hq.out.is; refine Calls.mono hcall ?_; clear hcall) | refine Calls.mono (rimake_ai (neg := true) Hq.out.is) ?_)
  rintro e w3 ⟨v3, rfl, hs, hb⟩
  obtain ⟨s_b, s_a, s_n, s_c, rfl⟩ := hs.litb
  have Hr := Lib.hid (Can.keep Hr.out (Keep.call hb))
  have Xa0 := Lib.hid (Box.pcall hb Xa0.out)
  have Xb0 := Lib.hid (Box.pcall hb Xb0.out)
  have Xc0 := Lib.hid (Box.pcall hb Xc0.out)
  have Xd0 := Lib.hid (Box.pcall hb Xd0.out)
  have HB := Lib.hid (below_call HB.out hb)
  have Hs := Lib.hid hs
  clear hb hs
  obtain ⟨ca00, ca01, fa00, fa01⟩ := Xa0.out.c2
  have la0 := Xa0.out.lt
  obtain ⟨cb00, cb01, fb00, fb01⟩ := Xb0.out.c2
  have lb0 := Xb0.out.lt
  obtain ⟨cc00, cc01, fc00, fc01⟩ := Xc0.out.c2
  have lc0 := Xc0.out.lt
  obtain ⟨cd00, cd01, fd00, fd01⟩ := Xd0.out.c2
  have ld0 := Xd0.out.lt
  go_wp2_with fail
  clear ca00 ca01 fa00 fa01 la0 cb00 cb01 fb00 fb01 lb0 cc00 cc01 fc00 fc01 lc0 cd00 cd01 fd00 fd01 ld0
  (first | (have hcall := rimake_ai (neg := false) Hr.out.is; refine Calls.mono hcall ?_; clear hcall) | refine Calls.mono (rimake_ai (neg := false) Hr.out.is) ?_)
  rintro e w4 ⟨v4, rfl, ht, hb⟩
  obtain ⟨t_b, t_a, t_n, t_c, rfl⟩ := ht.litb
  have Hs := Lib.hid (CL.keep Hs.out (Keep.call hb))
  have Xa0 := Lib.hid (Box.pcall hb Xa0.out)
  have Xb0 := Lib.hid (Box.pcall hb Xb0.out)
  have Xc0 := Lib.hid (Box.pcall hb Xc0.out)
  have Xd0 := Lib.hid (Box.pcall hb Xd0.out)
  have HB := Lib.hid (below_call HB.out hb)
  have Ht := Lib.hid ht
  clear hb ht
  obtain ⟨ca00, ca01, fa00, fa01⟩ := Xa0.out.c2
  have la0 := Xa0.out.lt
  obtain ⟨cb00, cb01, fb00, fb01⟩ := Xb0.out.c2
  have lb0 := Xb0.out.lt
  obtain ⟨cc00, cc01, fc00, fc01⟩ := Xc0.out.c2
  have lc0 := Xc0.out.lt
  obtain ⟨cd00, cd01, fd00, fd01⟩ := Xd0.out.c2
  have ld0 := Xd0.out.lt
  go_wp2
  clear ca00 ca01 fa00 fa01 la0 cb00 cb01 fb00 fb01 lb0 cc00 cc01 fc00 fc01 lc0 cd00 cd01 fd00 fd01 ld0
  obtain ⟨W5, hW⟩ : ∃ W5, W5 = (World.setCell (World.setCell w4 ⟨w.heap.size + 1 + 1, 0, none⟩ (.bool s_b)) ⟨w.heap.size + 1 + 1, 1, none⟩ (.slice s_a s_n s_c)) := ⟨_, rfl⟩
  rw [← hW]
  obtain ⟨xc0, hk, hf, hbb, hz⟩ := stored2s hW Xc0.out (by first | exact NoInt.bool _ | exact NoInt.slice _ _ _) (by first | exact NoInt.bool _ | exact NoInt.slice _ _ _)
  have Hs := Lib.hid (CL.keep Hs.out hk)
  have Ht := Lib.hid (CL.keep Ht.out hk)
  have Xa0 := Lib.hid (hf _ _ _ Xa0.out (by omega))
  have Xb0 := Lib.hid (hf _ _ _ Xb0.out (by omega))
  have Xc0 := Lib.hid xc0
  have Xd0 := Lib.hid (hf _ _ _ Xd0.out (by omega))
  have HB := Lib.hid (hbb _ HB.out Gc0.out)
  clear hW hk hf hbb xc0
  clear hz
  obtain ⟨W6, hW⟩ : ∃ W6, W6 = (World.setCell (World.setCell W5 ⟨w.heap.size + 1 + 1 + 1, 0, none⟩ (.bool t_b)) ⟨w.heap.size + 1 + 1 + 1, 1, none⟩ (.slice t_a t_n t_c)) := ⟨_, rfl⟩
  rw [← hW]
  obtain ⟨xd0, hk, hf, hbb, hz⟩ := stored2s hW Xd0.out (by first | exact NoInt.bool _ | exact NoInt.slice _ _ _) (by first | exact NoInt.bool _ | exact NoInt.slice _ _ _)
  have Hs := Lib.hid (CL.keep Hs.out hk)
  have Ht := Lib.hid (CL.keep Ht.out hk)
  have Xa0 := Lib.hid (hf _ _ _ Xa0.out (by omega))
  have Xb0 := Lib.hid (hf _ _ _ Xb0.out (by omega))
  have Xc0 := Lib.hid (hf _ _ _ Xc0.out (by omega))
  have Xd0 := Lib.hid xd0
  have HB := Lib.hid (hbb _ HB.out Gd0.out)
  clear hW hk hf hbb xd0
  clear hz
  exact ret_iie1 rfl rfl rfl rfl rfl Xc0.out Xd0.out ⟨_, _, rfl, CL.mono (CL.cast (idiv_P1 true na nb).1 Hs.out) (by omega), CL.mono (CL.cast (idiv_P1 true na nb).2 Ht.out) (by omega)⟩ HB.out


set_option maxRecDepth 100000 in
set_option maxHeartbeats 4000000 in
theorem ridm_P2_true {L M na nb : Nat} {sa sb : Value}  {w : World} (hz : 0 < nb) (hm : na % nb = 0) (hna : Is na L w sa) (hnb : Is nb M w sb) (hL : L ≤ 100000) (hM : M ≤ 100000) :
    Calls Try.prog 111 #[.agg #[.bool true, sa], .agg #[.bool true, sb]] w (Ret w (CL2E (iv true na / iv true nb) (iv true na % iv true nb) (max L 1 + 1) (max L M) 0)) := by
  have Hna := Lib.hid hna
  have Hnb := Lib.hid hnb
  have Hz := Lib.hid hz
  have Hm := Lib.hid hm
  clear hna hnb hz hm
  go_enter Try.func111, Try.ntmps111
  have HB := Lib.hid (Below.refl w.heap.size w)
  go_wp2_with fail
  obtain ⟨W1, hW⟩ : ∃ W1, W1 = (World.alloc (World.alloc (World.alloc (World.alloc w (.cells #[.bool true, sa] 33)) (.cells #[.bool true, sb] 33)) (.cells #[.bool false, .slice none 0 0] 33)) (.cells #[.bool false, .slice none 0 0] 33)) := ⟨_, rfl⟩
  rw [← hW]
  obtain ⟨xa0, xb0, xc0, xd0, hk, hb⟩ := boxes_4 _ _ _ _ _ _ _ _ _ hW
  clear hW
  have Hna := Lib.hid (Is.keep Hna.out hk)
  have Hnb := Lib.hid (Is.keep Hnb.out hk)
  have Ga0 := Lib.hid (show w.heap.size ≤ w.heap.size from Nat.le_trans HB.out.size (by omega))
  have Gb0 := Lib.hid (show w.heap.size ≤ w.heap.size + 1 from Nat.le_trans HB.out.size (by omega))
  have Gc0 := Lib.hid (show w.heap.size ≤ w.heap.size + 1 + 1 from Nat.le_trans HB.out.size (by omega))
  have Gd0 := Lib.hid (show w.heap.size ≤ w.heap.size + 1 + 1 + 1 from Nat.le_trans HB.out.size (by omega))
  have Xa0 := Lib.hid xa0
  have Xb0 := Lib.hid xb0
  have Xc0 := Lib.hid xc0
  have Xd0 := Lib.hid xd0
  have HB := Lib.hid (below_call HB.out hb)
  clear hk hb xa0 xb0 xc0 xd0
  (first | (have hcall := rdivmod_r0 Hz.out Hm.out Hna.out Hnb.out (by omega) (by omega); refine Calls.mono hcall ?_; clear hcall) | refine Calls.mono (rdivmod_r0 Hz.out Hm.out Hna.out Hnb.out (by omega) (by omega)) ?_)
  rintro e w2 ⟨t2, rfl, ⟨v2, r_a, r_c, rfl, hq, hr⟩, hb⟩
  have Xa0 := Lib.hid (Box.pcall hb Xa0.out)
  have Xb0 := Lib.hid (Box.pcall hb Xb0.out)
  have Xc0 := Lib.hid (Box.pcall hb Xc0.out)
  have Xd0 := Lib.hid (Box.pcall hb Xd0.out)
  have HB := Lib.hid (below_call HB.out hb)
  have Hq := Lib.hid hq
  have Hr := Lib.hid hr
  clear hb hq hr
  obtain ⟨ca00, ca01, fa00, fa01⟩ := Xa0.out.c2
  have la0 := Xa0.out.lt
  obtain ⟨cb00, cb01, fb00, fb01⟩ := Xb0.out.c2
  have lb0 := Xb0.out.lt
  obtain ⟨cc00, cc01, fc00, fc01⟩ := Xc0.out.c2
  have lc0 := Xc0.out.lt
  obtain ⟨cd00, cd01, fd00, fd01⟩ := Xd0.out.c2
  have ld0 := Xd0.out.lt
  go_wp2_with fail
  clear ca00 ca01 fa00 fa01 la0 cb00 cb01 fb00 fb01 lb0 cc00 cc01 fc00 fc01 lc0 cd00 cd01 fd00 fd01 ld0
  (first | (have hcall := rimake_ai (neg := false) Hq.out.is; refine Calls.mono hcall ?_; clear hcall) | refine Calls.mono (rimake_ai (neg := false) Hq.out.is) ?_)
  rintro e w3 ⟨v3, rfl, hs, hb⟩
  obtain ⟨s_b, s_a, s_n, s_c, rfl⟩ := hs.litb
  have Hr := Lib.hid (Can.keep Hr.out (Keep.call hb))
  have Xa0 := Lib.hid (Box.pcall hb Xa0.out)
  have Xb0 := Lib.hid (Box.pcall hb Xb0.out)
  have Xc0 := Lib.hid (Box.pcall hb Xc0.out)
  have Xd0 := Lib.hid (Box.pcall hb Xd0.out)
  have HB := Lib.hid (below_call HB.out hb)
  have Hs := Lib.hid hs
  clear hb hs
  obtain ⟨ca00, ca01, fa00, fa01⟩ := Xa0.out.c2
  have la0 := Xa0.out.lt
  obtain ⟨cb00, cb01, fb00, fb01⟩ := Xb0.out.c2
  have lb0 := Xb0.out.lt
  obtain ⟨cc00, cc01, fc00, fc01⟩ := Xc0.out.c2
  have lc0 := Xc0.out.lt
  obtain ⟨cd00, cd01, fd00, fd01⟩ := Xd0.out.c2
  have ld0 := Xd0.out.lt
  go_wp2_with fail
  clear ca00 ca01 fa00 fa01 la0 cb00 cb01 fb00 fb01 lb0 cc00 cc01 fc00 fc01 lc0 cd00 cd01 fd00 fd01 ld0
  (first | (have hcall := rimake_ai (neg := false) Hr.out.is; refine Calls.mono hcall ?_; clear hcall) | refine Calls.mono (rimake_ai (neg := false) Hr.out.is) ?_)
  rintro e w4 ⟨v4, rfl, ht, hb⟩
  obtain ⟨t_b, t_a, t_n, t_c, rfl⟩ := ht.litb
  have Hs := Lib.hid (CL.keep Hs.out (Keep.call hb))
  have Xa0 := Lib.hid (Box.pcall hb Xa0.out)
  have Xb0 := Lib.hid (Box.pcall hb Xb0.out)
  have Xc0 := Lib.hid (Box.pcall hb Xc0.out)
  have Xd0 := Lib.hid (Box.pcall hb Xd0.out)
  have HB := Lib.hid (below_call HB.out hb)
  have Ht := Lib.hid ht
  clear hb ht
  obtain ⟨ca00, ca01, fa00, fa01⟩ := Xa0.out.c2
  have la0 := Xa0.out.lt
  obtain ⟨cb00, cb01, fb00, fb01⟩ := Xb0.out.c2
  have lb0 := Xb0.out.lt
  obtain ⟨cc00, cc01, fc00, fc01⟩ := Xc0.out.c2
  have lc0 := Xc0.out.lt
  obtain ⟨cd00, cd01, fd00, fd01⟩ := Xd0.out.c2
  have ld0 := Xd0.out.lt
  go_wp2
  clear ca00 ca01 fa00 fa01 la0 cb00 cb01 fb00 fb01 lb0 cc00 cc01 fc00 fc01 lc0 cd00 cd01 fd00 fd01 ld0
  obtain ⟨W5, hW⟩ : ∃ W5, W5 = (World.setCell (World.setCell w4 ⟨w.heap.size + 1 + 1, 0, none⟩ (.bool s_b)) ⟨w.heap.size + 1 + 1, 1, none⟩ (.slice s_a s_n s_c)) := ⟨_, rfl⟩
  rw [← hW]
  obtain ⟨xc0, hk, hf, hbb, hz⟩ := stored2s hW Xc0.out (by first | exact NoInt.bool _ | exact NoInt.slice _ _ _) (by first | exact NoInt.bool _ | exact NoInt.slice _ _ _)
  have Hs := Lib.hid (CL.keep Hs.out hk)
  have Ht := Lib.hid (CL.keep Ht.out hk)
  have Xa0 := Lib.hid (hf _ _ _ Xa0.out (by omega))
  have Xb0 := Lib.hid (hf _ _ _ Xb0.out (by omega))
  have Xc0 := Lib.hid xc0
  have Xd0 := Lib.hid (hf _ _ _ Xd0.out (by omega))
  have HB := Lib.hid (hbb _ HB.out Gc0.out)
  clear hW hk hf hbb xc0
  clear hz
  obtain ⟨W6, hW⟩ : ∃ W6, W6 = (World.setCell (World.setCell W5 ⟨w.heap.size + 1 + 1 + 1, 0, none⟩ (.bool t_b)) ⟨w.heap.size + 1 + 1 + 1, 1, none⟩ (.slice t_a t_n t_c)) := ⟨_, rfl⟩
  rw [← hW]
  obtain ⟨xd0, hk, hf, hbb, hz⟩ := stored2s hW Xd0.out (by first | exact NoInt.bool _ | exact NoInt.slice _ _ _) (by first | exact NoInt.bool _ | exact NoInt.slice _ _ _)
  have Hs := Lib.hid (CL.keep Hs.out hk)
  have Ht := Lib.hid (CL.keep Ht.out hk)
  have Xa0 := Lib.hid (hf _ _ _ Xa0.out (by omega))
  have Xb0 := Lib.hid (hf _ _ _ Xb0.out (by omega))
  have Xc0 := Lib.hid (hf _ _ _ Xc0.out (by omega))
  have Xd0 := Lib.hid xd0
  have HB := Lib.hid (hbb _ HB.out Gd0.out)
  clear hW hk hf hbb xd0
  clear hz
  exact ret_iie1 rfl rfl rfl rfl rfl Xc0.out Xd0.out ⟨_, _, rfl, CL.mono (CL.cast (idiv_P2 true (a := na) (b := nb) Hm.out).1 Hs.out) (by omega), CL.mono (CL.cast (idiv_P2 true (a := na) (b := nb) Hm.out).2 Ht.out) (by omega)⟩ HB.out


set_option maxRecDepth 100000 in
set_option maxHeartbeats 4000000 in
theorem ridm_P3_true {L M na nb : Nat} {sa sb : Value}  {w : World} (hz : 0 < nb) (hm : 0 < na % nb) (hna : Is na L w sa) (hnb : Is nb M w sb) (hL : L ≤ 100000) (hM : M ≤ 100000) :
    Calls Try.prog 111 #[.agg #[.bool true, sa], .agg #[.bool true, sb]] w (Ret w (CL2E (iv true na / iv true nb) (iv true na % iv true nb) (max L 1 + 1) (max L M) 0)) := by
  have Hna := Lib.hid hna
  have Hnb := Lib.hid hnb
  have Hz := Lib.hid hz
  have Hm := Lib.hid hm
  clear hna hnb hz hm
  go_enter Try.func111, Try.ntmps111
  have HB := Lib.hid (Below.refl w.heap.size w)
  go_wp2_with fail
  obtain ⟨W1, hW⟩ : ∃ W1, W1 = (World.alloc (World.alloc (World.alloc (World.alloc w (.cells #[.bool true, sa] 33)) (.cells #[.bool true, sb] 33)) (.cells #[.bool false, .slice none 0 0] 33)) (.cells #[.bool false, .slice none 0 0] 33)) := ⟨_, rfl⟩
  rw [← hW]
  obtain ⟨xa0, xb0, xc0, xd0, hk, hb⟩ := boxes_4 _ _ _ _ _ _ _ _ _ hW
  clear hW
  have Hna := Lib.hid (Is.keep Hna.out hk)
  have Hnb := Lib.hid (Is.keep Hnb.out hk)
  have Ga0 := Lib.hid (show w.heap.size ≤ w.heap.size from Nat.le_trans HB.out.size (by omega))
  have Gb0 := Lib.hid (show w.heap.size ≤ w.heap.size + 1 from Nat.le_trans HB.out.size (by omega))
  have Gc0 := Lib.hid (show w.heap.size ≤ w.heap.size + 1 + 1 from Nat.le_trans HB.out.size (by omega))
  have Gd0 := Lib.hid (show w.heap.size ≤ w.heap.size + 1 + 1 + 1 from Nat.le_trans HB.out.size (by omega))
  have Xa0 := Lib.hid xa0
  have Xb0 := Lib.hid xb0
  have Xc0 := Lib.hid xc0
  have Xd0 := Lib.hid xd0
  have HB := Lib.hid (below_call HB.out hb)
  clear hk hb xa0 xb0 xc0 xd0
  (first | (have hcall := rdivmod_rp Hz.out Hm.out Hna.out Hnb.out (by omega) (by omega); refine Calls.mono hcall ?_; clear hcall) | refine Calls.mono (rdivmod_rp Hz.out Hm.out Hna.out Hnb.out (by omega) (by omega)) ?_)
  rintro e w2 ⟨t2, rfl, ⟨v2, r_a, r_n, r_c, rfl, hq, hr, dr⟩, hb⟩
  have Hnb := Lib.hid (Is.keep Hnb.out (Keep.call hb))
  have Xa0 := Lib.hid (Box.pcall hb Xa0.out)
  have Xb0 := Lib.hid (Box.pcall hb Xb0.out)
  have Xc0 := Lib.hid (Box.pcall hb Xc0.out)
  have Xd0 := Lib.hid (Box.pcall hb Xd0.out)
  have HB := Lib.hid (below_call HB.out hb)
  have Hq := Lib.hid hq
  have Hr := Lib.hid hr
  clear hb hq hr
  obtain ⟨ca00, ca01, fa00, fa01⟩ := Xa0.out.c2
  have la0 := Xa0.out.lt
  obtain ⟨cb00, cb01, fb00, fb01⟩ := Xb0.out.c2
  have lb0 := Xb0.out.lt
  obtain ⟨cc00, cc01, fc00, fc01⟩ := Xc0.out.c2
  have lc0 := Xc0.out.lt
  obtain ⟨cd00, cd01, fd00, fd01⟩ := Xd0.out.c2
  have ld0 := Xd0.out.lt
  go_wp2_with fail
  clear ca00 ca01 fa00 fa01 la0 cb00 cb01 fb00 fb01 lb0 cc00 cc01 fc00 fc01 lc0 cd00 cd01 fd00 fd01 ld0
  obtain ⟨W3, hW⟩ : ∃ W3, W3 = (World.alloc w2 (.cells #[.int .u32 1] 64)) := ⟨_, rfl⟩
  rw [← hW]
  obtain ⟨xe0, hk, hb⟩ := boxes_1 _ _ _ hW
  clear hW
  have Hnb := Lib.hid (Is.keep Hnb.out hk)
  have Hq := Lib.hid (Can.keep Hq.out hk)
  have Hr := Lib.hid (Can.keep Hr.out hk)
  have Na0e0 := Lib.hid (show w.heap.size ≠ w2.heap.size from Nat.ne_of_lt (Nat.lt_of_lt_of_le Xa0.out.lt (by omega)))
  have Nb0e0 := Lib.hid (show w.heap.size + 1 ≠ w2.heap.size from Nat.ne_of_lt (Nat.lt_of_lt_of_le Xb0.out.lt (by omega)))
  have Nc0e0 := Lib.hid (show w.heap.size + 1 + 1 ≠ w2.heap.size from Nat.ne_of_lt (Nat.lt_of_lt_of_le Xc0.out.lt (by omega)))
  have Nd0e0 := Lib.hid (show w.heap.size + 1 + 1 + 1 ≠ w2.heap.size from Nat.ne_of_lt (Nat.lt_of_lt_of_le Xd0.out.lt (by omega)))
  have Ge0 := Lib.hid (show w.heap.size ≤ w2.heap.size from Nat.le_trans HB.out.size (by omega))
  have Xa0 := Lib.hid (Box.pcall hb Xa0.out)
  have Xb0 := Lib.hid (Box.pcall hb Xb0.out)
  have Xc0 := Lib.hid (Box.pcall hb Xc0.out)
  have Xd0 := Lib.hid (Box.pcall hb Xd0.out)
  have Xe0 := Lib.hid xe0
  have HB := Lib.hid (below_call HB.out hb)
  clear hk hb xe0
  (first | (have hcall := radd_is Hq.out.is (Is.ofbox Xe0.out) (by omega) (by omega); refine Calls.mono hcall ?_; clear hcall) | refine Calls.mono (radd_is Hq.out.is (Is.ofbox Xe0.out) (by omega) (by omega)) ?_)
  rintro e w4 ⟨v4, rfl, hp, hb⟩
  obtain ⟨p_a, p_n, p_c, rfl⟩ := hp.is.lit
  have Hnb := Lib.hid (Is.keep Hnb.out (Keep.call hb))
  have Hr := Lib.hid (Can.keep Hr.out (Keep.call hb))
  have Xa0 := Lib.hid (Box.pcall hb Xa0.out)
  have Xb0 := Lib.hid (Box.pcall hb Xb0.out)
  have Xc0 := Lib.hid (Box.pcall hb Xc0.out)
  have Xd0 := Lib.hid (Box.pcall hb Xd0.out)
  have Xe0 := Lib.hid (Box.pcall hb Xe0.out)
  have HB := Lib.hid (below_call HB.out hb)
  have Hp := Lib.hid hp
  clear hb hp
  obtain ⟨ca00, ca01, fa00, fa01⟩ := Xa0.out.c2
  have la0 := Xa0.out.lt
  obtain ⟨cb00, cb01, fb00, fb01⟩ := Xb0.out.c2
  have lb0 := Xb0.out.lt
  obtain ⟨cc00, cc01, fc00, fc01⟩ := Xc0.out.c2
  have lc0 := Xc0.out.lt
  obtain ⟨cd00, cd01, fd00, fd01⟩ := Xd0.out.c2
  have ld0 := Xd0.out.lt
  obtain ⟨ce00, fe00⟩ := Xe0.out.c1
  have le0 := Xe0.out.lt
  go_wp2_with fail
  clear ca00 ca01 fa00 fa01 la0 cb00 cb01 fb00 fb01 lb0 cc00 cc01 fc00 fc01 lc0 cd00 cd01 fd00 fd01 ld0 ce00 fe00 le0
  refine Calls.mono (rsub_is2 (subErr_le (Nat.le_of_lt (Nat.mod_lt _ Hz.out))) Hnb.out Hr.out.is (by omega)) ?_
  rintro e w5 ⟨t5, rfl, ⟨v5, rfl, hd⟩, hb⟩
  obtain ⟨d_a, d_n, d_c, rfl⟩ := hd.is.lit
  have Hp := Lib.hid (Can.keep Hp.out (Keep.call hb))
  have Xa0 := Lib.hid (Box.pcall hb Xa0.out)
  have Xb0 := Lib.hid (Box.pcall hb Xb0.out)
  have Xc0 := Lib.hid (Box.pcall hb Xc0.out)
  have Xd0 := Lib.hid (Box.pcall hb Xd0.out)
  have Xe0 := Lib.hid (Box.pcall hb Xe0.out)
  have HB := Lib.hid (below_call HB.out hb)
  have Hd := Lib.hid hd
  clear hb hd
  obtain ⟨ca00, ca01, fa00, fa01⟩ := Xa0.out.c2
  have la0 := Xa0.out.lt
  obtain ⟨cb00, cb01, fb00, fb01⟩ := Xb0.out.c2
  have lb0 := Xb0.out.lt
  obtain ⟨cc00, cc01, fc00, fc01⟩ := Xc0.out.c2
  have lc0 := Xc0.out.lt
  obtain ⟨cd00, cd01, fd00, fd01⟩ := Xd0.out.c2
  have ld0 := Xd0.out.lt
  obtain ⟨ce00, fe00⟩ := Xe0.out.c1
  have le0 := Xe0.out.lt
  go_wp2_with fail
  clear ca00 ca01 fa00 fa01 la0 cb00 cb01 fb00 fb01 lb0 cc00 cc01 fc00 fc01 lc0 cd00 cd01 fd00 fd01 ld0 ce00 fe00 le0
  (first | (have hcall := rimake_ai (neg := false) Hp.out.is; refine Calls.mono hcall ?_; clear hcall) | refine Calls.mono (rimake_ai (neg := false) Hp.out.is) ?_)
  rintro e w6 ⟨v6, rfl, hs, hb⟩
  obtain ⟨s_b, s_a, s_n, s_c, rfl⟩ := hs.litb
  have Hd := Lib.hid (Can.keep Hd.out (Keep.call hb))
  have Xa0 := Lib.hid (Box.pcall hb Xa0.out)
  have Xb0 := Lib.hid (Box.pcall hb Xb0.out)
  have Xc0 := Lib.hid (Box.pcall hb Xc0.out)
  have Xd0 := Lib.hid (Box.pcall hb Xd0.out)
  have Xe0 := Lib.hid (Box.pcall hb Xe0.out)
  have HB := Lib.hid (below_call HB.out hb)
  have Hs := Lib.hid hs
  clear hb hs
  obtain ⟨ca00, ca01, fa00, fa01⟩ := Xa0.out.c2
  have la0 := Xa0.out.lt
  obtain ⟨cb00, cb01, fb00, fb01⟩ := Xb0.out.c2
  have lb0 := Xb0.out.lt
  obtain ⟨cc00, cc01, fc00, fc01⟩ := Xc0.out.c2
  have lc0 := Xc0.out.lt
  obtain ⟨cd00, cd01, fd00, fd01⟩ := Xd0.out.c2
  have ld0 := Xd0.out.lt
  obtain ⟨ce00, fe00⟩ := Xe0.out.c1
  have le0 := Xe0.out.lt
  go_wp2_with fail
  clear ca00 ca01 fa00 fa01 la0 cb00 cb01 fb00 fb01 lb0 cc00 cc01 fc00 fc01 lc0 cd00 cd01 fd00 fd01 ld0 ce00 fe00 le0
  (first | (have hcall := rimake_ai (neg := false) Hd.out.is; refine Calls.mono hcall ?_; clear hcall) | refine Calls.mono (rimake_ai (neg := false) Hd.out.is) ?_)
  rintro e w7 ⟨v7, rfl, ht, hb⟩
  obtain ⟨t_b, t_a, t_n, t_c, rfl⟩ := ht.litb
  have Hs := Lib.hid (CL.keep Hs.out (Keep.call hb))
  have Xa0 := Lib.hid (Box.pcall hb Xa0.out)
  have Xb0 := Lib.hid (Box.pcall hb Xb0.out)
  have Xc0 := Lib.hid (Box.pcall hb Xc0.out)
  have Xd0 := Lib.hid (Box.pcall hb Xd0.out)
  have Xe0 := Lib.hid (Box.pcall hb Xe0.out)
  have HB := Lib.hid (below_call HB.out hb)
  have Ht := Lib.hid ht
  clear hb ht
  obtain ⟨ca00, ca01, fa00, fa01⟩ := Xa0.out.c2
  have la0 := Xa0.out.lt
  obtain ⟨cb00, cb01, fb00, fb01⟩ := Xb0.out.c2
  have lb0 := Xb0.out.lt
  obtain ⟨cc00, cc01, fc00, fc01⟩ := Xc0.out.c2
  have lc0 := Xc0.out.lt
  obtain ⟨cd00, cd01, fd00, fd01⟩ := Xd0.out.c2
  have ld0 := Xd0.out.lt
  obtain ⟨ce00, fe00⟩ := Xe0.out.c1
  have le0 := Xe0.out.lt
  go_wp2
  clear ca00 ca01 fa00 fa01 la0 cb00 cb01 fb00 fb01 lb0 cc00 cc01 fc00 fc01 lc0 cd00 cd01 fd00 fd01 ld0 ce00 fe00 le0
  obtain ⟨W8, hW⟩ : ∃ W8, W8 = (World.setCell (World.setCell w7 ⟨w.heap.size + 1 + 1, 0, none⟩ (.bool s_b)) ⟨w.heap.size + 1 + 1, 1, none⟩ (.slice s_a s_n s_c)) := ⟨_, rfl⟩
  rw [← hW]
  obtain ⟨xc0, hk, hf, hbb, hz⟩ := stored2s hW Xc0.out (by first | exact NoInt.bool _ | exact NoInt.slice _ _ _) (by first | exact NoInt.bool _ | exact NoInt.slice _ _ _)
  have Hs := Lib.hid (CL.keep Hs.out hk)
  have Ht := Lib.hid (CL.keep Ht.out hk)
  have Xa0 := Lib.hid (hf _ _ _ Xa0.out (by omega))
  have Xb0 := Lib.hid (hf _ _ _ Xb0.out (by omega))
  have Xc0 := Lib.hid xc0
  have Xd0 := Lib.hid (hf _ _ _ Xd0.out (by omega))
  have Xe0 := Lib.hid (hf _ _ _ Xe0.out Nc0e0.out.symm)
  have HB := Lib.hid (hbb _ HB.out Gc0.out)
  clear hW hk hf hbb xc0
  clear hz
  obtain ⟨W9, hW⟩ : ∃ W9, W9 = (World.setCell (World.setCell W8 ⟨w.heap.size + 1 + 1 + 1, 0, none⟩ (.bool t_b)) ⟨w.heap.size + 1 + 1 + 1, 1, none⟩ (.slice t_a t_n t_c)) := ⟨_, rfl⟩
  rw [← hW]
  obtain ⟨xd0, hk, hf, hbb, hz⟩ := stored2s hW Xd0.out (by first | exact NoInt.bool _ | exact NoInt.slice _ _ _) (by first | exact NoInt.bool _ | exact NoInt.slice _ _ _)
  have Hs := Lib.hid (CL.keep Hs.out hk)
  have Ht := Lib.hid (CL.keep Ht.out hk)
  have Xa0 := Lib.hid (hf _ _ _ Xa0.out (by omega))
  have Xb0 := Lib.hid (hf _ _ _ Xb0.out (by omega))
  have Xc0 := Lib.hid (hf _ _ _ Xc0.out (by omega))
  have Xd0 := Lib.hid xd0
  have Xe0 := Lib.hid (hf _ _ _ Xe0.out Nd0e0.out.symm)
  have HB := Lib.hid (hbb _ HB.out Gd0.out)
  clear hW hk hf hbb xd0
  clear hz
  exact ret_iie1 rfl rfl rfl rfl rfl Xc0.out Xd0.out ⟨_, _, rfl, CL.mono (CL.cast (idiv_P3 true (a := na) (b := nb) Hz.out Hm.out).1 Hs.out) (by omega), CL.mono (CL.cast (idiv_P3 true (a := na) (b := nb) Hz.out Hm.out).2 Ht.out) (by omega)⟩ HB.out


set_option maxRecDepth 100000 in
set_option maxHeartbeats 4000000 in
theorem ridm_P1_false {L M na nb : Nat} {sa sb : Value}  {w : World} (hz : 0 < nb) (hna : Is na L w sa) (hnb : Is nb M w sb) (hL : L ≤ 100000) (hM : M ≤ 100000) :
    Calls Try.prog 111 #[.agg #[.bool false, sa], .agg #[.bool false, sb]] w (Ret w (CL2E (iv false na / iv false nb) (iv false na % iv false nb) (max L 1 + 1) (max L M) 0)) := by
  have Hna := Lib.hid hna
  have Hnb := Lib.hid hnb
  have Hz := Lib.hid hz
  clear hna hnb hz
  go_enter Try.func111, Try.ntmps111
  have HB := Lib.hid (Below.refl w.heap.size w)
  go_wp2_with fail
  obtain ⟨W1, hW⟩ : ∃ W1, W1 = (World.alloc (World.alloc (World.alloc (World.alloc w (.cells #[.bool false, sa] 33)) (.cells #[.bool false, sb] 33)) (.cells #[.bool false, .slice none 0 0] 33)) (.cells #[.bool false, .slice none 0 0] 33)) := ⟨_, rfl⟩
  rw [← hW]
  obtain ⟨xa0, xb0, xc0, xd0, hk, hb⟩ := boxes_4 _ _ _ _ _ _ _ _ _ hW
  clear hW
  have Hna := Lib.hid (Is.keep Hna.out hk)
  have Hnb := Lib.hid (Is.keep Hnb.out hk)
  have Ga0 := Lib.hid (show w.heap.size ≤ w.heap.size from Nat.le_trans HB.out.size (by omega))
  have Gb0 := Lib.hid (show w.heap.size ≤ w.heap.size + 1 from Nat.le_trans HB.out.size (by omega))
  have Gc0 := Lib.hid (show w.heap.size ≤ w.heap.size + 1 + 1 from Nat.le_trans HB.out.size (by omega))
  have Gd0 := Lib.hid (show w.heap.size ≤ w.heap.size + 1 + 1 + 1 from Nat.le_trans HB.out.size (by omega))
  have Xa0 := Lib.hid xa0
  have Xb0 := Lib.hid xb0
  have Xc0 := Lib.hid xc0
  have Xd0 := Lib.hid xd0
  have HB := Lib.hid (below_call HB.out hb)
  clear hk hb xa0 xb0 xc0 xd0
  (first | (have hcall := rdivmod_pos Hz.out Hna.out Hnb.out (by omega) (by omega); refine Calls.mono hcall ?_; clear hcall) | refine Calls.mono (rdivmod_pos Hz.out Hna.out Hnb.out (by omega) (by omega)) ?_)
  rintro e w2 ⟨t2, rfl, ⟨v2, u2, rfl, hq, hr⟩, hb⟩
  obtain ⟨q_a, q_n, q_c, rfl⟩ := hq.is.lit
  obtain ⟨r_a, r_n, r_c, rfl⟩ := hr.is.lit
  have Xa0 := Lib.hid (Box.pcall hb Xa0.out)
  have Xb0 := Lib.hid (Box.pcall hb Xb0.out)
  have Xc0 := Lib.hid (Box.pcall hb Xc0.out)
  have Xd0 := Lib.hid (Box.pcall hb Xd0.out)
  have HB := Lib.hid (below_call HB.out hb)
  have Hq := Lib.hid hq
  have Hr := Lib.hid hr
  clear hb hq hr
  obtain ⟨ca00, ca01, fa00, fa01⟩ := Xa0.out.c2
  have la0 := Xa0.out.lt
  obtain ⟨cb00, cb01, fb00, fb01⟩ := Xb0.out.c2
  have lb0 := Xb0.out.lt
  obtain ⟨cc00, cc01, fc00, fc01⟩ := Xc0.out.c2
  have lc0 := Xc0.out.lt
  obtain ⟨cd00, cd01, fd00, fd01⟩ := Xd0.out.c2
  have ld0 := Xd0.out.lt
  go_wp2_with fail
  clear ca00 ca01 fa00 fa01 la0 cb00 cb01 fb00 fb01 lb0 cc00 cc01 fc00 fc01 lc0 cd00 cd01 fd00 fd01 ld0
  (first | (have hcall := rimake_ai (neg := false) Hq.out.is; refine Calls.mono hcall ?_; clear hcall) | refine Calls.mono (rimake_ai (neg := false) Hq.out.is) ?_)
  rintro e w3 ⟨v3, rfl, hs, hb⟩
  obtain ⟨s_b, s_a, s_n, s_c, rfl⟩ := hs.litb
  have Hr := Lib.hid (Can.keep Hr.out (Keep.call hb))
  have Xa0 := Lib.hid (Box.pcall hb Xa0.out)
  have Xb0 := Lib.hid (Box.pcall hb Xb0.out)
  have Xc0 := Lib.hid (Box.pcall hb Xc0.out)
  have Xd0 := Lib.hid (Box.pcall hb Xd0.out)
  have HB := Lib.hid (below_call HB.out hb)
  have Hs := Lib.hid hs
  clear hb hs
  obtain ⟨ca00, ca01, fa00, fa01⟩ := Xa0.out.c2
  have la0 := Xa0.out.lt
  obtain ⟨cb00, cb01, fb00, fb01⟩ := Xb0.out.c2
  have lb0 := Xb0.out.lt
  obtain ⟨cc00, cc01, fc00, fc01⟩ := Xc0.out.c2
  have lc0 := Xc0.out.lt
  obtain ⟨cd00, cd01, fd00, fd01⟩ := Xd0.out.c2
  have ld0 := Xd0.out.lt
  go_wp2_with fail
  clear ca00 ca01 fa00 fa01 la0 cb00 cb01 fb00 fb01 lb0 cc00 cc01 fc00 fc01 lc0 cd00 cd01 fd00 fd01 ld0
  (first | (have hcall := rimake_ai (neg := false) Hr.out.is; refine Calls.mono hcall ?_; clear hcall) | refine Calls.mono (rimake_ai (neg := false) Hr.out.is) ?_)
  rintro e w4 ⟨v4, rfl, ht, hb⟩
  obtain ⟨t_b, t_a, t_n, t_c, rfl⟩ := ht.litb
  have Hs := Lib.hid (CL.keep Hs.out (Keep.call hb))
  have Xa0 := Lib.hid (Box.pcall hb Xa0.out)
  have Xb0 := Lib.hid (Box.pcall hb Xb0.out)
  have Xc0 := Lib.hid (Box.pcall hb Xc0.out)
  have Xd0 := Lib.hid (Box.pcall hb Xd0.out)
  have HB := Lib.hid (below_call HB.out hb)
  have Ht := Lib.hid ht
  clear hb ht
  obtain ⟨ca00, ca01, fa00, fa01⟩ := Xa0.out.c2
  have la0 := Xa0.out.lt
  obtain ⟨cb00, cb01, fb00, fb01⟩ := Xb0.out.c2
  have lb0 := Xb0.out.lt
  obtain ⟨cc00, cc01, fc00, fc01⟩ := Xc0.out.c2
  have lc0 := Xc0.out.lt
  obtain ⟨cd00, cd01, fd00, fd01⟩ := Xd0.out.c2
  have ld0 := Xd0.out.lt
  go_wp2
  clear ca00 ca01 fa00 fa01 la0 cb00 cb01 fb00 fb01 lb0 cc00 cc01 fc00 fc01 lc0 cd00 cd01 fd00 fd01 ld0
  obtain ⟨W5, hW⟩ : ∃ W5, W5 = (World.setCell (World.setCell w4 ⟨w.heap.size + 1 + 1, 0, none⟩ (.bool s_b)) ⟨w.heap.size + 1 + 1, 1, none⟩ (.slice s_a s_n s_c)) := ⟨_, rfl⟩
  rw [← hW]
  obtain ⟨xc0, hk, hf, hbb, hz⟩ := stored2s hW Xc0.out (by first | exact NoInt.bool _ | exact NoInt.slice _ _ _) (by first | exact NoInt.bool _ | exact NoInt.slice _ _ _)
  have Hs := Lib.hid (CL.keep Hs.out hk)
  have Ht := Lib.hid (CL.keep Ht.out hk)
  have Xa0 := Lib.hid (hf _ _ _ Xa0.out (by omega))
  have Xb0 := Lib.hid (hf _ _ _ Xb0.out (by omega))
  have Xc0 := Lib.hid xc0
  have Xd0 := Lib.hid (hf _ _ _ Xd0.out (by omega))
  have HB := Lib.hid (hbb _ HB.out Gc0.out)
  clear hW hk hf hbb xc0
  clear hz
  obtain ⟨W6, hW⟩ : ∃ W6, W6 = (World.setCell (World.setCell W5 ⟨w.heap.size + 1 + 1 + 1, 0, none⟩ (.bool t_b)) ⟨w.heap.size + 1 + 1 + 1, 1, none⟩ (.slice t_a t_n t_c)) := ⟨_, rfl⟩
  rw [← hW]
  obtain ⟨xd0, hk, hf, hbb, hz⟩ := stored2s hW Xd0.out (by first | exact NoInt.bool _ | exact NoInt.slice _ _ _) (by first | exact NoInt.bool _ | exact NoInt.slice _ _ _)
  have Hs := Lib.hid (CL.keep Hs.out hk)
  have Ht := Lib.hid (CL.keep Ht.out hk)
  have Xa0 := Lib.hid (hf _ _ _ Xa0.out (by omega))
  have Xb0 := Lib.hid (hf _ _ _ Xb0.out (by omega))
  have Xc0 := Lib.hid (hf _ _ _ Xc0.out (by omega))
  have Xd0 := Lib.hid xd0
  have HB := Lib.hid (hbb _ HB.out Gd0.out)
  clear hW hk hf hbb xd0
  clear hz
  exact ret_iie1 rfl rfl rfl rfl rfl Xc0.out Xd0.out ⟨_, _, rfl, CL.mono (CL.cast (idiv_P1 false na nb).1 Hs.out) (by omega), CL.mono (CL.cast (idiv_P1 false na nb).2 Ht.out) (by omega)⟩ HB.out


set_option maxRecDepth 100000 in
set_option maxHeartbeats 4000000 in
theorem ridm_P2_false {L M na nb : Nat} {sa sb : Value}  {w : World} (hz : 0 < nb) (hm : na % nb = 0) (hna : Is na L w sa) (hnb : Is nb M w sb) (hL : L ≤ 100000) (hM : M ≤ 100000) :
    Calls Try.prog 111 #[.agg #[.bool true, sa], .agg #[.bool false, sb]] w (Ret w (CL2E (iv true na / iv false nb) (iv true na % iv false nb) (max L 1 + 1) (max L M) 0)) := by
  have Hna := Lib.hid hna
  have Hnb := Lib.hid hnb
  have Hz := Lib.hid hz
  have Hm := Lib.hid hm
  clear hna hnb hz hm
  go_enter Try.func111, Try.ntmps111
  have HB := Lib.hid (Below.refl w.heap.size w)
  go_wp2_with fail
  obtain ⟨W1, hW⟩ : ∃ W1, W1 = (World.alloc (World.alloc (World.alloc (World.alloc w (.cells #[.bool true, sa] 33)) (.cells #[.bool false, sb] 33)) (.cells #[.bool false, .slice none 0 0] 33)) (.cells #[.bool false, .slice none 0 0] 33)) := ⟨_, rfl⟩
  rw [← hW]
  obtain ⟨xa0, xb0, xc0, xd0, hk, hb⟩ := boxes_4 _ _ _ _ _ _ _ _ _ hW
  clear hW
  have Hna := Lib.hid (Is.keep Hna.out hk)
  have Hnb := Lib.hid (Is.keep Hnb.out hk)
  have Ga0 := Lib.hid (show w.heap.size ≤ w.heap.size from Nat.le_trans HB.out.size (by omega))
  have Gb0 := Lib.hid (show w.heap.size ≤ w.heap.size + 1 from Nat.le_trans HB.out.size (by omega))
  have Gc0 := Lib.hid (show w.heap.size ≤ w.heap.size + 1 + 1 from Nat.le_trans HB.out.size (by omega))
  have Gd0 := Lib.hid (show w.heap.size ≤ w.heap.size + 1 + 1 + 1 from Nat.le_trans HB.out.size (by omega))
  have Xa0 := Lib.hid xa0
  have Xb0 := Lib.hid xb0
  have Xc0 := Lib.hid xc0
  have Xd0 := Lib.hid xd0
  have HB := Lib.hid (below_call HB.out hb)
  clear hk hb xa0 xb0 xc0 xd0
  (first | (have hcall := rdivmod_r0 Hz.out Hm.out Hna.out Hnb.out (by omega) (by omega); refine Calls.mono hcall ?_; clear hcall) | refine Calls.mono (rdivmod_r0 Hz.out Hm.out Hna.out Hnb.out (by omega) (by omega)) ?_)
  rintro e w2 ⟨t2, rfl, ⟨v2, r_a, r_c, rfl, hq, hr⟩, hb⟩
  have Xa0 := Lib.hid (Box.pcall hb Xa0.out)
  have Xb0 := Lib.hid (Box.pcall hb Xb0.out)
  have Xc0 := Lib.hid (Box.pcall hb Xc0.out)
  have Xd0 := Lib.hid (Box.pcall hb Xd0.out)
  have HB := Lib.hid (below_call HB.out hb)
  have Hq := Lib.hid hq
  have Hr := Lib.hid hr
  clear hb hq hr
  obtain ⟨ca00, ca01, fa00, fa01⟩ := Xa0.out.c2
  have la0 := Xa0.out.lt
  obtain ⟨cb00, cb01, fb00, fb01⟩ := Xb0.out.c2
  have lb0 := Xb0.out.lt
  obtain ⟨cc00, cc01, fc00, fc01⟩ := Xc0.out.c2
  have lc0 := Xc0.out.lt
  obtain ⟨cd00, cd01, fd00, fd01⟩ := Xd0.out.c2
  have ld0 := Xd0.out.lt
  go_wp2_with fail
  clear ca00 ca01 fa00 fa01 la0 cb00 cb01 fb00 fb01 lb0 cc00 cc01 fc00 fc01 lc0 cd00 cd01 fd00 fd01 ld0
  (first | (have hcall := rimake_ai (neg := true) Hq.out.is; refine Calls.mono hcall ?_; clear hcall) | refine Calls.mono (rimake_ai (neg := true) Hq.out.is) ?_)
  rintro e w3 ⟨v3, rfl, hs, hb⟩
  obtain ⟨s_b, s_a, s_n, s_c, rfl⟩ := hs.litb
  have Hr := Lib.hid (Can.keep Hr.out (Keep.call hb))
  have Xa0 := Lib.hid (Box.pcall hb Xa0.out)
  have Xb0 := Lib.hid (Box.pcall hb Xb0.out)
  have Xc0 := Lib.hid (Box.pcall hb Xc0.out)
  have Xd0 := Lib.hid (Box.pcall hb Xd0.out)
  have HB := Lib.hid (below_call HB.out hb)
  have Hs := Lib.hid hs
  clear hb hs
  obtain ⟨ca00, ca01, fa00, fa01⟩ := Xa0.out.c2
  have la0 := Xa0.out.lt
  obtain ⟨cb00, cb01, fb00, fb01⟩ := Xb0.out.c2
  have lb0 := Xb0.out.lt
  obtain ⟨cc00, cc01, fc00, fc01⟩ := Xc0.out.c2
  have lc0 := Xc0.out.lt
  obtain ⟨cd00, cd01, fd00, fd01⟩ := Xd0.out.c2
  have ld0 := Xd0.out.lt
  go_wp2_with fail
  clear ca00 ca01 fa00 fa01 la0 cb00 cb01 fb00 fb01 lb0 cc00 cc01 fc00 fc01 lc0 cd00 cd01 fd00 fd01 ld0
  (first | (have hcall := rimake_ai (neg := false) Hr.out.is; refine Calls.mono hcall ?_; clear hcall) | refine Calls.mono (rimake_ai (neg := false) Hr.out.is) ?_)
  rintro e w4 ⟨v4, rfl, ht, hb⟩
  obtain ⟨t_b, t_a, t_n, t_c, rfl⟩ := ht.litb
  have Hs := Lib.hid (CL.keep Hs.out (Keep.call hb))
  have Xa0 := Lib.hid (Box.pcall hb Xa0.out)
  have Xb0 := Lib.hid (Box.pcall hb Xb0.out)
  have Xc0 := Lib.hid (Box.pcall hb Xc0.out)
  have Xd0 := Lib.hid (Box.pcall hb Xd0.out)
  have HB := Lib.hid (below_call HB.out hb)
  have Ht := Lib.hid ht
  clear hb ht
  obtain ⟨ca00, ca01, fa00, fa01⟩ := Xa0.out.c2
  have la0 := Xa0.out.lt
  obtain ⟨cb00, cb01, fb00, fb01⟩ := Xb0.out.c2
  have lb0 := Xb0.out.lt
  obtain ⟨cc00, cc01, fc00, fc01⟩ := Xc0.out.c2
  have lc0 := Xc0.out.lt
  obtain ⟨cd00, cd01, fd00, fd01⟩ := Xd0.out.c2
  have ld0 := Xd0.out.lt
  go_wp2
  clear ca00 ca01 fa00 fa01 la0 cb00 cb01 fb00 fb01 lb0 cc00 cc01 fc00 fc01 lc0 cd00 cd01 fd00 fd01 ld0
  obtain ⟨W5, hW⟩ : ∃ W5, W5 = (World.setCell (World.setCell w4 ⟨w.heap.size + 1 + 1, 0, none⟩ (.bool s_b)) ⟨w.heap.size + 1 + 1, 1, none⟩ (.slice s_a s_n s_c)) := ⟨_, rfl⟩
  rw [← hW]
  obtain ⟨xc0, hk, hf, hbb, hz⟩ := stored2s hW Xc0.out (by first | exact NoInt.bool _ | exact NoInt.slice _ _ _) (by first | exact NoInt.bool _ | exact NoInt.slice _ _ _)
  have Hs := Lib.hid (CL.keep Hs.out hk)
  have Ht := Lib.hid (CL.keep Ht.out hk)
  have Xa0 := Lib.hid (hf _ _ _ Xa0.out (by omega))
  have Xb0 := Lib.hid (hf _ _ _ Xb0.out (by omega))
  have Xc0 := Lib.hid xc0
  have Xd0 := Lib.hid (hf _ _ _ Xd0.out (by omega))
  have HB := Lib.hid (hbb _ HB.out Gc0.out)
  clear hW hk hf hbb xc0
  clear hz
  obtain ⟨W6, hW⟩ : ∃ W6, W6 = (World.setCell (World.setCell W5 ⟨w.heap.size + 1 + 1 + 1, 0, none⟩ (.bool t_b)) ⟨w.heap.size + 1 + 1 + 1, 1, none⟩ (.slice t_a t_n t_c)) := ⟨_, rfl⟩
  rw [← hW]
  obtain ⟨xd0, hk, hf, hbb, hz⟩ := stored2s hW Xd0.out (by first | exact NoInt.bool _ | exact NoInt.slice _ _ _) (by first | exact NoInt.bool _ | exact NoInt.slice _ _ _)
  have Hs := Lib.hid (CL.keep Hs.out hk)
  have Ht := Lib.hid (CL.keep Ht.out hk)
  have Xa0 := Lib.hid (hf _ _ _ Xa0.out (by omega))
  have Xb0 := Lib.hid (hf _ _ _ Xb0.out (by omega))
  have Xc0 := Lib.hid (hf _ _ _ Xc0.out (by omega))
  have Xd0 := Lib.hid xd0
  have HB := Lib.hid (hbb _ HB.out Gd0.out)
  clear hW hk hf hbb xd0
  clear hz
  exact ret_iie1 rfl rfl rfl rfl rfl Xc0.out Xd0.out ⟨_, _, rfl, CL.mono (CL.cast (idiv_P2 false (a := na) (b := nb) Hm.out).1 Hs.out) (by omega), CL.mono (CL.cast (idiv_P2 false (a := na) (b := nb) Hm.out).2 Ht.out) (by omega)⟩ HB.out


set_option maxRecDepth 100000 in
set_option maxHeartbeats 4000000 in
theorem ridm_P3_false {L M na nb : Nat} {sa sb : Value}  {w : World} (hz : 0 < nb) (hm : 0 < na % nb) (hna : Is na L w sa) (hnb : Is nb M w sb) (hL : L ≤ 100000) (hM : M ≤ 100000) :
    Calls Try.prog 111 #[.agg #[.bool true, sa], .agg #[.bool false, sb]] w (Ret w (CL2E (iv true na / iv false nb) (iv true na % iv false nb) (max L 1 + 1) (max L M) 0)) := by
  have Hna := Lib.hid hna
  have Hnb := Lib.hid hnb
  have Hz := Lib.hid hz
  have Hm := Lib.hid hm
  clear hna hnb hz hm
  go_enter Try.func111, Try.ntmps111
  have HB := Lib.hid (Below.refl w.heap.size w)
  go_wp2_with fail
  obtain ⟨W1, hW⟩ : ∃ W1, W1 = (World.alloc (World.alloc (World.alloc (World.alloc w (.cells #[.bool true, sa] 33)) (.cells #[.bool false, sb] 33)) (.cells #[.bool false, .slice none 0 0] 33)) (.cells #[.bool false, .slice none 0 0] 33)) := ⟨_, rfl⟩
  rw [← hW]
  obtain ⟨xa0, xb0, xc0, xd0, hk, hb⟩ := boxes_4 _ _ _ _ _ _ _ _ _ hW
  clear hW
  have Hna := Lib.hid (Is.keep Hna.out hk)
  have Hnb := Lib.hid (Is.keep Hnb.out hk)
  have Ga0 := Lib.hid (show w.heap.size ≤ w.heap.size from Nat.le_trans HB.out.size (by omega))
  have Gb0 := Lib.hid (show w.heap.size ≤ w.heap.size + 1 from Nat.le_trans HB.out.size (by omega))
  have Gc0 := Lib.hid (show w.heap.size ≤ w.heap.size + 1 + 1 from Nat.le_trans HB.out.size (by omega))
  have Gd0 := Lib.hid (show w.heap.size ≤ w.heap.size + 1 + 1 + 1 from Nat.le_trans HB.out.size (by omega))
  have Xa0 := Lib.hid xa0
  have Xb0 := Lib.hid xb0
  have Xc0 := Lib.hid xc0
  have Xd0 := Lib.hid xd0
  have HB := Lib.hid (below_call HB.out hb)
  clear hk hb xa0 xb0 xc0 xd0
  (first | (have hcall := rdivmod_rp Hz.out Hm.out Hna.out Hnb.out (by omega) (by omega); refine Calls.mono hcall ?_; clear hcall) | refine Calls.mono (rdivmod_rp Hz.out Hm.out Hna.out Hnb.out (by omega) (by omega)) ?_)
  rintro e w2 ⟨t2, rfl, ⟨v2, r_a, r_n, r_c, rfl, hq, hr, dr⟩, hb⟩
  have Hnb := Lib.hid (Is.keep Hnb.out (Keep.call hb))
  have Xa0 := Lib.hid (Box.pcall hb Xa0.out)
  have Xb0 := Lib.hid (Box.pcall hb Xb0.out)
  have Xc0 := Lib.hid (Box.pcall hb Xc0.out)
  have Xd0 := Lib.hid (Box.pcall hb Xd0.out)
  have HB := Lib.hid (below_call HB.out hb)
  have Hq := Lib.hid hq
  have Hr := Lib.hid hr
  clear hb hq hr
  obtain ⟨ca00, ca01, fa00, fa01⟩ := Xa0.out.c2
  have la0 := Xa0.out.lt
  obtain ⟨cb00, cb01, fb00, fb01⟩ := Xb0.out.c2
  have lb0 := Xb0.out.lt
  obtain ⟨cc00, cc01, fc00, fc01⟩ := Xc0.out.c2
  have lc0 := Xc0.out.lt
  obtain ⟨cd00, cd01, fd00, fd01⟩ := Xd0.out.c2
  have ld0 := Xd0.out.lt
  go_wp2_with fail
  clear ca00 ca01 fa00 fa01 la0 cb00 cb01 fb00 fb01 lb0 cc00 cc01 fc00 fc01 lc0 cd00 cd01 fd00 fd01 ld0
  obtain ⟨W3, hW⟩ : ∃ W3, W3 = (World.alloc w2 (.cells #[.int .u32 1] 64)) := ⟨_, rfl⟩
  rw [← hW]
  obtain ⟨xe0, hk, hb⟩ := boxes_1 _ _ _ hW
  clear hW
  have Hnb := Lib.hid (Is.keep Hnb.out hk)
  have Hq := Lib.hid (Can.keep Hq.out hk)
  have Hr := Lib.hid (Can.keep Hr.out hk)
  have Na0e0 := Lib.hid (show w.heap.size ≠ w2.heap.size from Nat.ne_of_lt (Nat.lt_of_lt_of_le Xa0.out.lt (by omega)))
  have Nb0e0 := Lib.hid (show w.heap.size + 1 ≠ w2.heap.size from Nat.ne_of_lt (Nat.lt_of_lt_of_le Xb0.out.lt (by omega)))
  have Nc0e0 := Lib.hid (show w.heap.size + 1 + 1 ≠ w2.heap.size from Nat.ne_of_lt (Nat.lt_of_lt_of_le Xc0.out.lt (by omega)))
  have Nd0e0 := Lib.hid (show w.heap.size + 1 + 1 + 1 ≠ w2.heap.size from Nat.ne_of_lt (Nat.lt_of_lt_of_le Xd0.out.lt (by omega)))
  have Ge0 := Lib.hid (show w.heap.size ≤ w2.heap.size from Nat.le_trans HB.out.size (by omega))
  have Xa0 := Lib.hid (Box.pcall hb Xa0.out)
  have Xb0 := Lib.hid (Box.pcall hb Xb0.out)
  have Xc0 := Lib.hid (Box.pcall hb Xc0.out)
  have Xd0 := Lib.hid (Box.pcall hb Xd0.out)
  have Xe0 := Lib.hid xe0
  have HB := Lib.hid (below_call HB.out hb)
  clear hk hb xe0
  (first | (have hcall := radd_is Hq.out.is (Is.ofbox Xe0.out) (by omega) (by omega); refine Calls.mono hcall ?_; clear hcall) | refine Calls.mono (radd_is Hq.out.is (Is.ofbox Xe0.out) (by omega) (by omega)) ?_)
  rintro e w4 ⟨v4, rfl, hp, hb⟩
  obtain ⟨p_a, p_n, p_c, rfl⟩ := hp.is.lit
  have Hnb := Lib.hid (Is.keep Hnb.out (Keep.call hb))
  have Hr := Lib.hid (Can.keep Hr.out (Keep.call hb))
  have Xa0 := Lib.hid (Box.pcall hb Xa0.out)
  have Xb0 := Lib.hid (Box.pcall hb Xb0.out)
  have Xc0 := Lib.hid (Box.pcall hb Xc0.out)
  have Xd0 := Lib.hid (Box.pcall hb Xd0.out)
  have Xe0 := Lib.hid (Box.pcall hb Xe0.out)
  have HB := Lib.hid (below_call HB.out hb)
  have Hp := Lib.hid hp
  clear hb hp
  obtain ⟨ca00, ca01, fa00, fa01⟩ := Xa0.out.c2
  have la0 := Xa0.out.lt
  obtain ⟨cb00, cb01, fb00, fb01⟩ := Xb0.out.c2
  have lb0 := Xb0.out.lt
  obtain ⟨cc00, cc01, fc00, fc01⟩ := Xc0.out.c2
  have lc0 := Xc0.out.lt
  obtain ⟨cd00, cd01, fd00, fd01⟩ := Xd0.out.c2
  have ld0 := Xd0.out.lt
  obtain ⟨ce00, fe00⟩ := Xe0.out.c1
  have le0 := Xe0.out.lt
  go_wp2_with fail
  clear ca00 ca01 fa00 fa01 la0 cb00 cb01 fb00 fb01 lb0 cc00 cc01 fc00 fc01 lc0 cd00 cd01 fd00 fd01 ld0 ce00 fe00 le0
  refine Calls.mono (rsub_is2 (subErr_le (Nat.le_of_lt (Nat.mod_lt _ Hz.out))) Hnb.out Hr.out.is (by omega)) ?_
  rintro e w5 ⟨t5, rfl, ⟨v5, rfl, hd⟩, hb⟩
  obtain ⟨d_a, d_n, d_c, rfl⟩ := hd.is.lit
  have Hp := Lib.hid (Can.keep Hp.out (Keep.call hb))
  have Xa0 := Lib.hid (Box.pcall hb Xa0.out)
  have Xb0 := Lib.hid (Box.pcall hb Xb0.out)
  have Xc0 := Lib.hid (Box.pcall hb Xc0.out)
  have Xd0 := Lib.hid (Box.pcall hb Xd0.out)
  have Xe0 := Lib.hid (Box.pcall hb Xe0.out)
  have HB := Lib.hid (below_call HB.out hb)
  have Hd := Lib.hid hd
  clear hb hd
  obtain ⟨ca00, ca01, fa00, fa01⟩ := Xa0.out.c2
  have la0 := Xa0.out.lt
  obtain ⟨cb00, cb01, fb00, fb01⟩ := Xb0.out.c2
  have lb0 := Xb0.out.lt
  obtain ⟨cc00, cc01, fc00, fc01⟩ := Xc0.out.c2
  have lc0 := Xc0.out.lt
  obtain ⟨cd00, cd01, fd00, fd01⟩ := Xd0.out.c2
  have ld0 := Xd0.out.lt
  obtain ⟨ce00, fe00⟩ := Xe0.out.c1
  have le0 := Xe0.out.lt
  go_wp2_with fail
  clear ca00 ca01 fa00 fa01 la0 cb00 cb01 fb00 fb01 lb0 cc00 cc01 fc00 fc01 lc0 cd00 cd01 fd00 fd01 ld0 ce00 fe00 le0
  (first | (have hcall := rimake_ai (neg := true) Hp.out.is; refine Calls.mono hcall ?_; clear hcall) | refine Calls.mono (rimake_ai (neg := true) Hp.out.is) ?_)
  rintro e w6 ⟨v6, rfl, hs, hb⟩
  obtain ⟨s_b, s_a, s_n, s_c, rfl⟩ := hs.litb
  have Hd := Lib.hid (Can.keep Hd.out (Keep.call hb))
  have Xa0 := Lib.hid (Box.pcall hb Xa0.out)
  have Xb0 := Lib.hid (Box.pcall hb Xb0.out)
  have Xc0 := Lib.hid (Box.pcall hb Xc0.out)
  have Xd0 := Lib.hid (Box.pcall hb Xd0.out)
  have Xe0 := Lib.hid (Box.pcall hb Xe0.out)
  have HB := Lib.hid (below_call HB.out hb)
  have Hs := Lib.hid hs
  clear hb hs
  obtain ⟨ca00, ca01, fa00, fa01⟩ := Xa0.out.c2
  have la0 := Xa0.out.lt
  obtain ⟨cb00, cb01, fb00, fb01⟩ := Xb0.out.c2
  have lb0 := Xb0.out.lt
  obtain ⟨cc00, cc01, fc00, fc01⟩ := Xc0.out.c2
  have lc0 := Xc0.out.lt
  obtain ⟨cd00, cd01, fd00, fd01⟩ := Xd0.out.c2
  have ld0 := Xd0.out.lt
  obtain ⟨ce00, fe00⟩ := Xe0.out.c1
  have le0 := Xe0.out.lt
  go_wp2_with fail
  clear ca00 ca01 fa00 fa01 la0 cb00 cb01 fb00 fb01 lb0 cc00 cc01 fc00 fc01 lc0 cd00 cd01 fd00 fd01 ld0 ce00 fe00 le0
  (first | (have hcall := rimake_ai (neg := false) Hd.out.is; refine Calls.mono hcall ?_; clear hcall) | refine Calls.mono (rimake_ai (neg := false) Hd.out.is) ?_)
  rintro e w7 ⟨v7, rfl, ht, hb⟩
  obtain ⟨t_b, t_a, t_n, t_c, rfl⟩ := ht.litb
  have Hs := Lib.hid (CL.keep Hs.out (Keep.call hb))
  have Xa0 := Lib.hid (Box.pcall hb Xa0.out)
  have Xb0 := Lib.hid (Box.pcall hb Xb0.out)
  have Xc0 := Lib.hid (Box.pcall hb Xc0.out)
  have Xd0 := Lib.hid (Box.pcall hb Xd0.out)
  have Xe0 := Lib.hid (Box.pcall hb Xe0.out)
  have HB := Lib.hid (below_call HB.out hb)
  have Ht := Lib.hid ht
  clear hb ht
  obtain ⟨ca00, ca01, fa00, fa01⟩ := Xa0.out.c2
  have la0 := Xa0.out.lt
  obtain ⟨cb00, cb01, fb00, fb01⟩ := Xb0.out.c2
  have lb0 := Xb0.out.lt
  obtain ⟨cc00, cc01, fc00, fc01⟩ := Xc0.out.c2
  have lc0 := Xc0.out.lt
  obtain ⟨cd00, cd01, fd00, fd01⟩ := Xd0.out.c2
  have ld0 := Xd0.out.lt
  obtain ⟨ce00, fe00⟩ := Xe0.out.c1
  have le0 := Xe0.out.lt
  go_wp2
  clear ca00 ca01 fa00 fa01 la0 cb00 cb01 fb00 fb01 lb0 cc00 cc01 fc00 fc01 lc0 cd00 cd01 fd00 fd01 ld0 ce00 fe00 le0
  obtain ⟨W8, hW⟩ : ∃ W8, W8 = (World.setCell (World.setCell w7 ⟨w.heap.size + 1 + 1, 0, none⟩ (.bool s_b)) ⟨w.heap.size + 1 + 1, 1, none⟩ (.slice s_a s_n s_c)) := ⟨_, rfl⟩
  rw [← hW]
  obtain ⟨xc0, hk, hf, hbb, hz⟩ := stored2s hW Xc0.out (by first | exact NoInt.bool _ | exact NoInt.slice _ _ _) (by first | exact NoInt.bool _ | exact NoInt.slice _ _ _)
  have Hs := Lib.hid (CL.keep Hs.out hk)
  have Ht := Lib.hid (CL.keep Ht.out hk)
  have Xa0 := Lib.hid (hf _ _ _ Xa0.out (by omega))
  have Xb0 := Lib.hid (hf _ _ _ Xb0.out (by omega))
  have Xc0 := Lib.hid xc0
  have Xd0 := Lib.hid (hf _ _ _ Xd0.out (by omega))
  have Xe0 := Lib.hid (hf _ _ _ Xe0.out Nc0e0.out.symm)
  have HB := Lib.hid (hbb _ HB.out Gc0.out)
  clear hW hk hf hbb xc0
  clear hz
  obtain ⟨W9, hW⟩ : ∃ W9, W9 = (World.setCell (World.setCell W8 ⟨w.heap.size + 1 + 1 + 1, 0, none⟩ (.bool t_b)) ⟨w.heap.size + 1 + 1 + 1, 1, none⟩ (.slice t_a t_n t_c)) := ⟨_, rfl⟩
  rw [← hW]
  obtain ⟨xd0, hk, hf, hbb, hz⟩ := stored2s hW Xd0.out (by first | exact NoInt.bool _ | exact NoInt.slice _ _ _) (by first | exact NoInt.bool _ | exact NoInt.slice _ _ _)
  have Hs := Lib.hid (CL.keep Hs.out hk)
  have Ht := Lib.hid (CL.keep Ht.out hk)
  have Xa0 := Lib.hid (hf _ _ _ Xa0.out (by omega))
  have Xb0 := Lib.hid (hf _ _ _ Xb0.out (by omega))
  have Xc0 := Lib.hid (hf _ _ _ Xc0.out (by omega))
  have Xd0 := Lib.hid xd0
  have Xe0 := Lib.hid (hf _ _ _ Xe0.out Nd0e0.out.symm)
  have HB := Lib.hid (hbb _ HB.out Gd0.out)
  clear hW hk hf hbb xd0
  clear hz
  exact ret_iie1 rfl rfl rfl rfl rfl Xc0.out Xd0.out ⟨_, _, rfl, CL.mono (CL.cast (idiv_P3 false (a := na) (b := nb) Hz.out Hm.out).1 Hs.out) (by omega), CL.mono (CL.cast (idiv_P3 false (a := na) (b := nb) Hz.out Hm.out).2 Ht.out) (by omega)⟩ HB.out


theorem ridivmod_ai {y z : Int} {L M : Nat} {u v : Value} {w : World} (hz : z ≠ 0) (h : AI y L w u) (h' : AI z M w v) (hL : L ≤ 100000) (hM : M ≤ 100000) :
    Calls Try.prog 111 #[u, v] w (Ret w (CL2E (y / z) (y % z) (max L 1 + 1) (max L M) 0)) := by
  obtain ⟨ba, sa, ma, rfl, ha, rfl⟩ := h
  obtain ⟨bb, sb, mb, rfl, hb, rfl⟩ := h'
  have h0 : 0 < mb := by
    rcases Nat.eq_zero_or_pos mb with rfl | h0
    · exact absurd (by cases bb <;> rfl) hz
    · exact h0
  cases ba
  · cases bb
    · exact ridm_P1_false h0 ha hb hL hM
    · exact ridm_P1_true h0 ha hb hL hM
  · rcases Nat.eq_zero_or_pos (ma % mb) with hm | hm <;> cases bb
    · exact ridm_P2_false h0 hm ha hb hL hM
    · exact ridm_P2_true h0 hm ha hb hL hM
    · exact ridm_P3_false h0 hm ha hb hL hM
    · exact ridm_P3_true h0 hm ha hb hL hM

set_option maxRecDepth 100000 in
set_option maxHeartbeats 4000000 in
theorem zfloor_p {L : Nat} {qa : Rat} {ba : Bool} {sa ta : Value} {w : World} (ha : AR qa L w (.agg #[.bool ba, sa, ta])) (hL : L ≤ 100000) :
    Calls Try.prog 97 #[.agg #[.bool ba, sa, ta]] w (Ret w (CL qa.floor (L + 3))) := by
  have Ha := Lib.hid ha
  clear ha
  go_enter Try.func97, Try.ntmps97
  have HB := Lib.hid (Below.refl w.heap.size w)
  go_wp2_with fail
  obtain ⟨W1, hW⟩ : ∃ W1, W1 = (World.alloc (World.alloc w (.cells #[.bool ba, sa, ta] 25)) (.cells #[.bool false, .slice none 0 0] 33)) := ⟨_, rfl⟩
  rw [← hW]
  obtain ⟨xa0, xb0, hk, hb⟩ := boxes_2 _ _ _ _ _ hW
  clear hW
  have Ha := Lib.hid (AR.keep Ha.out hk)
  have Ga0 := Lib.hid (show w.heap.size ≤ w.heap.size from Nat.le_trans HB.out.size (by omega))
  have Gb0 := Lib.hid (show w.heap.size ≤ w.heap.size + 1 from Nat.le_trans HB.out.size (by omega))
  have Xa0 := Lib.hid xa0
  have Xb0 := Lib.hid xb0
  have HB := Lib.hid (below_call HB.out hb)
  clear hk hb xa0 xb0
  have Ha := Lib.hid (AR.keep Ha.out (Keep.drew W1))
  have Xa0 := Lib.hid (Box.drew Xa0.out)
  have Xb0 := Lib.hid (Box.drew Xb0.out)
  have HB := Lib.hid (Below.drew HB.out)
  refine wp_region_float [] [⟨10, 3, 33, #[.bool false, .slice none 0 0]⟩, ⟨11, 4, 33, #[.bool false, .slice none 0 0]⟩] (by kernel_rfl) (by kernel_rfl) 17 (by kernel_rfl) (Flok.cons (Flok.one (by kernel_rfl) (by kernel_rfl) (by kernel_rfl) (by intro w; go_simp)) (Flok.one (by kernel_rfl) (by kernel_rfl) (by kernel_rfl) (by intro w; go_simp)) (by kernel_rfl)) ?_
  intro ok
  have Hok := Lib.hid ok
  clear ok
  have HG := Lib.hid (Below.refl (W1.drew).heap.size (W1.drew))
  refine good_pureX 0 (some 7) (Go.Op.load 25 (Go.Operand.tmp 1)) (none) (.agg #[.bool ba, sa, ta]) (by kernel_rfl) (by kernel_rfl) (by kernel_rfl) (fun _ _ _ h => h) (fun w' hw' => ?_) ?_
  · obtain ⟨ca00, ca01, ca02, fa00, fa01, fa02⟩ := (Box.se hw' Xa0.out notin0).c3
    first | (go_simp; done) | (go_simp; simp_all; done) | (go_simp; rfl)
  simp only [Act.put, List.setIfInBounds_toArray, List.set_cons_zero, List.set_cons_succ]
  refine good_pureX 2 (some 9) (Go.Op.load 25 (Go.Operand.tmp 1)) (none) (.agg #[.bool ba, sa, ta]) (by kernel_rfl) (by kernel_rfl) (by kernel_rfl) (fun _ _ _ h => h) (fun w' hw' => ?_) ?_
  · obtain ⟨ca00, ca01, ca02, fa00, fa01, fa02⟩ := (Box.se hw' Xa0.out notin0).c3
    first | (go_simp; done) | (go_simp; simp_all; done) | (go_simp; rfl)
  simp only [Act.put, List.setIfInBounds_toArray, List.set_cons_zero, List.set_cons_succ]
  refine good_callX 1 46 (some 8) #[Go.Operand.tmp 7] #[25] (none) #[.agg #[.bool ba, sa, ta]] (by kernel_rfl) Hok.out (by kernel_rfl) (by kernel_rfl) (by kernel_rfl) (by kernel_rfl) rfl rfl rfl (by kernel_rfl) (fun w2 hb => ?_)
  have HG := Lib.hid (below_call HG.out hb)
  clear hb
  (first | (have hcall := znum_ar (AR.keep Ha.out (Keep.call HG.out)) (by omega); refine Calls.mono hcall ?_; clear hcall) | refine Calls.mono (znum_ar (AR.keep Ha.out (Keep.call HG.out)) (by omega)) ?_)
  rintro e w3 ⟨v3, rfl, hn, hb⟩
  obtain ⟨n_b, n_a, n_n, n_c, rfl⟩ := hn.litb
  refine ⟨_, rfl, ?_, hb⟩
  have HG := Lib.hid (below_call HG.out hb)
  have Hn := Lib.hid hn
  clear hb hn
  simp only [Act.put, List.setIfInBounds_toArray, List.set_cons_zero, List.set_cons_succ]
  refine good_callX 3 29 (some 10) #[Go.Operand.tmp 9] #[25] (none) #[.agg #[.bool ba, sa, ta]] (by kernel_rfl) Hok.out (by kernel_rfl) (by kernel_rfl) (by kernel_rfl) (by kernel_rfl) rfl rfl rfl (by kernel_rfl) (fun w4 hb => ?_)
  have Hn := Lib.hid (CL.keep Hn.out (Keep.call hb))
  have HG := Lib.hid (below_call HG.out hb)
  clear hb
  (first | (have hcall := zden_ar (AR.keep Ha.out (Keep.call HG.out)) (by omega); refine Calls.mono hcall ?_; clear hcall) | refine Calls.mono (zden_ar (AR.keep Ha.out (Keep.call HG.out)) (by omega)) ?_)
  rintro e w5 ⟨v5, rfl, hd, hb⟩
  obtain ⟨d_a, d_n, d_c, rfl⟩ := hd.lit
  refine ⟨_, rfl, ?_, hb⟩
  have Hn := Lib.hid (CL.keep Hn.out (Keep.call hb))
  have HG := Lib.hid (below_call HG.out hb)
  have Hd := Lib.hid hd
  clear hb hd
  simp only [Act.put, List.setIfInBounds_toArray, List.set_cons_zero, List.set_cons_succ]
  refine good_pureX 4 (some 11) (Go.Op.build 33 #[(1, Go.Operand.tmp 10)]) (none) (.agg #[.bool false, .slice d_a d_n d_c]) (by kernel_rfl) (by kernel_rfl) (by kernel_rfl) (fun _ _ _ h => h) (fun w' hw' => ?_) ?_
  · first | (go_simp; done) | (go_simp; simp_all; done) | (go_simp; rfl)
  simp only [Act.put, List.setIfInBounds_toArray, List.set_cons_zero, List.set_cons_succ]
  refine good_callX 5 111 (some 12) #[Go.Operand.tmp 8, Go.Operand.tmp 11] #[33, 33] (none) #[.agg #[.bool n_b, .slice n_a n_n n_c], .agg #[.bool false, .slice d_a d_n d_c]] (by kernel_rfl) Hok.out (by kernel_rfl) (by kernel_rfl) (by kernel_rfl) (by kernel_rfl) rfl rfl rfl (by kernel_rfl) (fun w6 hb => ?_)
  have Hn := Lib.hid (CL.keep Hn.out (Keep.call hb))
  have Hd := Lib.hid (Is.keep Hd.out (Keep.call hb))
  have HG := Lib.hid (below_call HG.out hb)
  clear hb
  refine Calls.mono (ridivmod_ai (den_int_ne _) Hn.out.ai (AI.mk (n := false) Hd.out) (by omega) (by omega)) ?_
  rintro e w7 ⟨t7, rfl, ⟨v7, u7, rfl, hq, hr⟩, hb⟩
  obtain ⟨q_b, q_a, q_n, q_c, rfl⟩ := hq.litb
  obtain ⟨r_b, r_a, r_n, r_c, rfl⟩ := hr.litb
  refine ⟨_, rfl, ?_, hb⟩
  have HG := Lib.hid (below_call HG.out hb)
  have Hq := Lib.hid hq
  have Hr := Lib.hid hr
  clear hb hq hr
  simp only [Act.put, List.setIfInBounds_toArray, List.set_cons_zero, List.set_cons_succ]
  refine good_pureX 6 (some 6) (Go.Op.move (Go.Operand.tmp 12)) (none) (.tuple #[.agg #[.bool q_b, .slice q_a q_n q_c], .agg #[.bool r_b, .slice r_a r_n r_c], .int .i64 0]) (by kernel_rfl) (by kernel_rfl) (by kernel_rfl) (fun _ _ _ h => h) (fun w' hw' => ?_) ?_
  · first | (go_simp; done) | (go_simp; simp_all; done) | (go_simp; rfl)
  simp only [Act.put, List.setIfInBounds_toArray, List.set_cons_zero, List.set_cons_succ]
  refine good_pureX 7 (some 13) (Go.Op.extract (Go.Operand.tmp 6) 0) (none) (.agg #[.bool q_b, .slice q_a q_n q_c]) (by kernel_rfl) (by kernel_rfl) (by kernel_rfl) (fun _ _ _ h => h) (fun w' hw' => ?_) ?_
  · first | (go_simp; done) | (go_simp; simp_all; done) | (go_simp; rfl)
  simp only [Act.put, List.setIfInBounds_toArray, List.set_cons_zero, List.set_cons_succ]
  refine good_pureX 8 (some 14) (Go.Op.extract (Go.Operand.tmp 6) 1) (none) (.agg #[.bool r_b, .slice r_a r_n r_c]) (by kernel_rfl) (by kernel_rfl) (by kernel_rfl) (fun _ _ _ h => h) (fun w' hw' => ?_) ?_
  · first | (go_simp; done) | (go_simp; simp_all; done) | (go_simp; rfl)
  simp only [Act.put, List.setIfInBounds_toArray, List.set_cons_zero, List.set_cons_succ]
  refine good_pureX 9 (some 15) (Go.Op.extract (Go.Operand.tmp 6) 2) (none) (.int .i64 0) (by kernel_rfl) (by kernel_rfl) (by kernel_rfl) (fun _ _ _ h => h) (fun w' hw' => ?_) ?_
  · first | (go_simp; done) | (go_simp; simp_all; done) | (go_simp; rfl)
  simp only [Act.put, List.setIfInBounds_toArray, List.set_cons_zero, List.set_cons_succ]
  refine good_end2 3 Hok.out (by kernel_rfl) (by kernel_rfl) (by kernel_rfl) (by kernel_rfl) (by kernel_rfl) (fun _ gc0 gd0 w8 hb ec0 ed0 hne xc0 xd0 => ?_)
  have Hq := Lib.hid (CL.keep Hq.out (Keep.call hb))
  have HG := Lib.hid (below_call HG.out hb)
  clear hb
  have Na0c0 := Lib.hid (show w.heap.size ≠ gc0 from Nat.ne_of_lt (Nat.lt_of_lt_of_le Xa0.out.lt ec0))
  have Nb0c0 := Lib.hid (show w.heap.size + 1 ≠ gc0 from Nat.ne_of_lt (Nat.lt_of_lt_of_le Xb0.out.lt ec0))
  have Gc0 := Lib.hid (show w.heap.size ≤ gc0 from Nat.le_trans HB.out.size ec0)
  have Ec0 := Lib.hid ec0
  clear ec0
  have Na0d0 := Lib.hid (show w.heap.size ≠ gd0 from Nat.ne_of_lt (Nat.lt_of_lt_of_le Xa0.out.lt ed0))
  have Nb0d0 := Lib.hid (show w.heap.size + 1 ≠ gd0 from Nat.ne_of_lt (Nat.lt_of_lt_of_le Xb0.out.lt ed0))
  have Gd0 := Lib.hid (show w.heap.size ≤ gd0 from Nat.le_trans HB.out.size ed0)
  have Ed0 := Lib.hid ed0
  clear ed0
  have Xa0 := Lib.hid (Box.pcall HG.out Xa0.out)
  have Xb0 := Lib.hid (Box.pcall HG.out Xb0.out)
  have HB := Lib.hid (below_call HB.out HG.out)
  have HS := Lib.hid (SE.of (E := []) HG.out)
  have Nc0d0 := Lib.hid hne
  clear hne
  have Xc0 := Lib.hid xc0
  clear xc0
  have Xd0 := Lib.hid xd0
  clear xd0
  simp only [Act.put, List.setIfInBounds_toArray, List.set_cons_zero, List.set_cons_succ]
  refine held_oneX 12 (Go.Op.store 33 (Go.Operand.tmp 3) (Go.Operand.tmp 13)) (none) (World.setCell (World.setCell w8 ⟨gc0, 0, none⟩ (.bool q_b)) ⟨gc0, 1, none⟩ (.slice q_a q_n q_c)) (by kernel_rfl) (by kernel_rfl) (by kernel_rfl) (by kernel_rfl) ?_ (HS.out.store2 (.inr Ec0.out)) ?_
  · obtain ⟨cc00, cc01, fc00, fc01⟩ := Xc0.out.c2
    first | (go_simp; done) | (go_simp; simp_all; done) | (go_simp; rfl)
  obtain ⟨W9, hW⟩ : ∃ W9, W9 = (World.setCell (World.setCell w8 ⟨gc0, 0, none⟩ (.bool q_b)) ⟨gc0, 1, none⟩ (.slice q_a q_n q_c)) := ⟨_, rfl⟩
  rw [← hW]
  obtain ⟨xc0, hk, hf, hbb, hz⟩ := stored2s hW Xc0.out (by first | exact NoInt.bool _ | exact NoInt.slice _ _ _) (by first | exact NoInt.bool _ | exact NoInt.slice _ _ _)
  have Hq := Lib.hid (CL.keep Hq.out hk)
  have Xa0 := Lib.hid (hf _ _ _ Xa0.out Na0c0.out)
  have Xb0 := Lib.hid (hf _ _ _ Xb0.out Nb0c0.out)
  have Xc0 := Lib.hid xc0
  have Xd0 := Lib.hid (hf _ _ _ Xd0.out Nc0d0.out.symm)
  have HB := Lib.hid (hbb _ HB.out Gc0.out)
  have HS := Lib.hid (show SE (W1.drew) [] W9 from by rw [hW]; exact HS.out.store2 (.inr Ec0.out))
  clear hW hk hf hbb xc0
  clear hz
  refine held_oneX 13 (Go.Op.store 33 (Go.Operand.tmp 4) (Go.Operand.tmp 14)) (none) (World.setCell (World.setCell W9 ⟨gd0, 0, none⟩ (.bool r_b)) ⟨gd0, 1, none⟩ (.slice r_a r_n r_c)) (by kernel_rfl) (by kernel_rfl) (by kernel_rfl) (by kernel_rfl) ?_ (HS.out.store2 (.inr Ed0.out)) ?_
  · obtain ⟨cd00, cd01, fd00, fd01⟩ := Xd0.out.c2
    first | (go_simp; done) | (go_simp; simp_all; done) | (go_simp; rfl)
  obtain ⟨W10, hW⟩ : ∃ W10, W10 = (World.setCell (World.setCell W9 ⟨gd0, 0, none⟩ (.bool r_b)) ⟨gd0, 1, none⟩ (.slice r_a r_n r_c)) := ⟨_, rfl⟩
  rw [← hW]
  obtain ⟨xd0, hk, hf, hbb, hz⟩ := stored2s hW Xd0.out (by first | exact NoInt.bool _ | exact NoInt.slice _ _ _) (by first | exact NoInt.bool _ | exact NoInt.slice _ _ _)
  have Hq := Lib.hid (CL.keep Hq.out hk)
  have Xa0 := Lib.hid (hf _ _ _ Xa0.out Na0d0.out)
  have Xb0 := Lib.hid (hf _ _ _ Xb0.out Nb0d0.out)
  have Xc0 := Lib.hid (hf _ _ _ Xc0.out Nc0d0.out)
  have Xd0 := Lib.hid xd0
  have HB := Lib.hid (hbb _ HB.out Gd0.out)
  have HS := Lib.hid (show SE (W1.drew) [] W10 from by rw [hW]; exact HS.out.store2 (.inr Ed0.out))
  clear hW hk hf hbb xd0
  clear hz
  refine held_pureX 14 (some 5) (Go.Op.assign (Go.Operand.tmp 15)) (none) (.int .i64 0) (by kernel_rfl) (by kernel_rfl) (by kernel_rfl) (fun _ _ _ h => h) (fun w' => by first | (go_simp; done) | (go_simp; simp_all; done) | (go_simp; rfl)) HS.out ?_
  simp only [Act.put, List.setIfInBounds_toArray, List.set_cons_zero, List.set_cons_succ]
  refine wpAnyH_done (by kernel_rfl) ?_ _
  clear HG HS Hok Ec0 Ed0
  obtain ⟨ca00, ca01, ca02, fa00, fa01, fa02⟩ := Xa0.out.c3
  have la0 := Xa0.out.lt
  obtain ⟨cb00, cb01, fb00, fb01⟩ := Xb0.out.c2
  have lb0 := Xb0.out.lt
  obtain ⟨cc00, cc01, fc00, fc01⟩ := Xc0.out.c2
  have lc0 := Xc0.out.lt
  obtain ⟨cd00, cd01, fd00, fd01⟩ := Xd0.out.c2
  have ld0 := Xd0.out.lt
  go_wp2
  clear ca00 ca01 ca02 fa00 fa01 fa02 la0 cb00 cb01 fb00 fb01 lb0 cc00 cc01 fc00 fc01 lc0 cd00 cd01 fd00 fd01 ld0
  obtain ⟨W11, hW⟩ : ∃ W11, W11 = (World.setCell (World.setCell W10 ⟨w.heap.size + 1, 0, none⟩ (.bool q_b)) ⟨w.heap.size + 1, 1, none⟩ (.slice q_a q_n q_c)) := ⟨_, rfl⟩
  rw [← hW]
  obtain ⟨xb0, hk, hf, hbb, hz⟩ := stored2s hW Xb0.out (by first | exact NoInt.bool _ | exact NoInt.slice _ _ _) (by first | exact NoInt.bool _ | exact NoInt.slice _ _ _)
  have Hq := Lib.hid (CL.keep Hq.out hk)
  have Xa0 := Lib.hid (hf _ _ _ Xa0.out (by omega))
  have Xb0 := Lib.hid xb0
  have Xc0 := Lib.hid (hf _ _ _ Xc0.out Nb0c0.out.symm)
  have Xd0 := Lib.hid (hf _ _ _ Xd0.out Nb0d0.out.symm)
  have HB := Lib.hid (hbb _ HB.out Gb0.out)
  clear hW hk hf hbb xb0
  clear hz
  exact ret_int1 rfl rfl rfl Xb0.out (CL.mono (CL.cast (floor_den _) Hq.out) (by omega)) HB.out


theorem zfloor_ar {q : Rat} {L : Nat} {v : Value} {w : World} (h : AR q L w v) (hL : L ≤ 100000) : Calls Try.prog 97 #[v] w (Ret w (CL q.floor (L + 3))) := by
  obtain ⟨b, s, t, rfl⟩ := h.agg
  exact zfloor_p h hL

end Go.Proofs.Ytfkjhaniglmejaa
