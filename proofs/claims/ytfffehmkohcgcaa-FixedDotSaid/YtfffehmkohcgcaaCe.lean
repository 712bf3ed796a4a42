/- Texts RatG Spl RatH RatI RatJ ShelR, in this order. -/
import Derived.Test.YtfffehmkohcgcaaCd
import Derived.ProofKit
import Derived.OpenShut
import Derived.ShutString
import Derived.ChangeOld
import Derived.Lib.SmallJoins
namespace Go.Proofs.Ytfffehmkohcgcaa
open Go.RowKit Nt
set_option linter.unusedVariables false
theorem Box.c1 {w : World} {g : Nat} {t : TypeId} {x : Value} (h : Box w g t #[x]) : w.cell? ⟨g, 0, none⟩ = some x ∧ w.frozen? ⟨g, 0, none⟩ = false := ⟨h.cell 0 rfl, h.free 0⟩
theorem Is.ofbox {w : World} {g : Nat} {t : TypeId} (h : Box w g t #[.int .u32 1]) : Is 1 1 w (.slice (some ⟨g, 0, none⟩) 1 1) := by
  refine ⟨[1], ⟨_, _, _, rfl, rfl, Nat.le_refl _, by decide, ?_, fun _ => ⟨g, 0, rfl, h.lt, fun i hi => ?_⟩⟩, by simp [val], by simp⟩
  · intro x hx; simp at hx; omega
  · obtain rfl : i = 0 := by omega
    exact h.c1.1
theorem rdivmod_r0 {a b L M : Nat} {u v : Value} {w : World} (hb : 0 < b) (hr : a % b = 0) (h : Is a L w u) (h' : Is b M w v) (hL : L ≤ 2147483648) (hM : M ≤ 2147483648) :
    Calls Try.prog 95 #[u, v] w (Ret w (QR0 (a / b) L)) := (rdivmod_pos hb h h' hL hM).mono fun _ _ k => k.imp fun _ _ => qr0 hr
theorem rdivmod_rp {a b L M : Nat} {u v : Value} {w : World} (hb : 0 < b) (hr : 0 < a % b) (h : Is a L w u) (h' : Is b M w v) (hL : L ≤ 2147483648) (hM : M ≤ 2147483648) :
    Calls Try.prog 95 #[u, v] w (Ret w (QRp (a / b) (a % b) L)) := (rdivmod_pos hb h h' hL hM).mono fun _ _ k => k.imp fun _ _ => qrp hr
theorem ret_iie1 {fn : Func} {p q r : Tmp} {a : Act} {w0 W : World} {R : World → Value → Prop} {g h : Nat} {t t' : TypeId} {x y x' y' z : Value} (hres : fn.results = #[.cell p 49, .cell q 49, .tmp r])
    (hp : a.tmps.getD p undef = .pointer (some ⟨g, 0, none⟩)) (hq : a.tmps.getD q undef = .pointer (some ⟨h, 0, none⟩)) (hz : a.tmps.getD r undef = z) (hd : a.defers = []) (X : Box W g t #[x, y]) (Y : Box W h t' #[x', y'])
    (hR : R W (.tuple #[.agg #[x, y], .agg #[x', y'], z])) (HB : Below w0.heap.size w0 W) : bodyPost Try.prog fn (Ret w0 R) .ret a W :=
  bodyPost_ret (results_iie hres _ _ _ g h [x, y] [x', y'] z _ _ hp hq hz (box_range2 X) (box_range2 Y) Try.underlying49 rfl (by kernel_rfl) Try.underlying49 rfl (by kernel_rfl)) hd ⟨_, rfl, hR, HB⟩
theorem den_int_ne (q : Rat) : iv false q.den ≠ 0 := by
  have := q.den_pos
  show ((q.den : Nat) : Int) ≠ 0
  omega
theorem floor_den (q : Rat) : q.num / iv false q.den = q.floor := (Rat.floor_def q).symm

set_option maxRecDepth 100000 in
set_option maxHeartbeats 4000000 in
theorem ridm_P1_true {L M na nb : Nat} {sa sb : Value}  {w : World} (hz : 0 < nb) (hna : Is na L w sa) (hnb : Is nb M w sb) (hL : L ≤ 100000) (hM : M ≤ 100000) :
    Calls Try.prog 108 #[.agg #[.bool false, sa], .agg #[.bool true, sb]] w (Ret w (CL2E (iv false na / iv true nb) (iv false na % iv true nb) (max L 1 + 1) (max L M) 0)) := by
  have Hna := Lib.hid hna
  have Hnb := Lib.hid hnb
  have Hz := Lib.hid hz
  clear hna hnb hz
  go_enter Try.func108, Try.ntmps108
  have HB := Lib.hid (Below.refl w.heap.size w)
  go_wp2_with fail
  obtain ⟨W1, hW⟩ : ∃ W1, W1 = (World.alloc (World.alloc (World.alloc (World.alloc w (.cells #[.bool false, sa] 49)) (.cells #[.bool true, sb] 49)) (.cells #[.bool false, .slice none 0 0] 49)) (.cells #[.bool false, .slice none 0 0] 49)) := ⟨_, rfl⟩
  rw [← hW]
  obtain ⟨xa0, xb0, xc0, xd0, hk, hb⟩ := boxes_4 _ _ _ _ _ _ _ _ _ hW
  clear hW
  have Hna := Lib.hid (Is.keep Hna.out hk)
  have Hnb := Lib.hid (Is.keep Hnb.out hk)
  have Ga0 := Lib.hid (show w.heap.size ≤ w.heap.size from Nat.le_trans HB.out.size (by omega))
  have Gb0 := Lib.hid (show w.heap.size ≤ w.heap.size + 1 from Nat.le_trans HB.out.size (by omega))
  have Gc0 := Lib.hid (show w.heap.size ≤ w.heap.size + 1 + 1 from Nat.le_trans HB.out.size (by omega))
  have Gd0 := Lib.hid (show w.heap.size ≤ w.heap.size + 1 + 1 + 1 from Nat.le_trans HB.out.size (by omega))
  have Xa0 := Lib.hid xa0
  have Xb0 := Lib.hid xb0
  have Xc0 := Lib.hid xc0
  have Xd0 := Lib.hid xd0
  have HB := Lib.hid (below_call HB.out hb)
  clear hk hb xa0 xb0 xc0 xd0
  (first | (have hcall := rdivmod_pos Hz.out Hna.out Hnb.out (by omega) (by omega); refine Calls.mono hcall ?_; clear hcall) | refine Calls.mono (rdivmod_pos Hz.out Hna.out Hnb.out (by omega) (by omega)) ?_)
  rintro e w2 ⟨t2, rfl, ⟨v2, u2, rfl, hq, hr⟩, hb⟩
  obtain ⟨q_a, q_n, q_c, rfl⟩ := hq.is.lit
  obtain ⟨r_a, r_n, r_c, rfl⟩ := hr.is.lit
  have Xa0 := Lib.hid (Box.pcall hb Xa0.out)
  have Xb0 := Lib.hid (Box.pcall hb Xb0.out)
  have Xc0 := Lib.hid (Box.pcall hb Xc0.out)
  have Xd0 := Lib.hid (Box.pcall hb Xd0.out)
  have HB := Lib.hid (below_call HB.out hb)
  have Hq := Lib.hid hq
  have Hr := Lib.hid hr
  clear hb hq hr
  obtain ⟨ca00, ca01, fa00, fa01⟩ := Xa0.out.c2
  have la0 := Xa0.out.lt
  obtain ⟨cb00, cb01, fb00, fb01⟩ := Xb0.out.c2
  have lb0 := Xb0.out.lt
  obtain ⟨cc00, cc01, fc00, fc01⟩ := Xc0.out.c2
  have lc0 := Xc0.out.lt
  obtain ⟨cd00, cd01, fd00, fd01⟩ := Xd0.out.c2
  have ld0 := Xd0.out.lt
  go_wp2_with fail
  clear ca00 ca01 fa00 fa01 la0 cb00 cb01 fb00 fb01 lb0 cc00 cc01 fc00 fc01 lc0 cd00 cd01 fd00 fd01 ld0
  (first | (have hcall := rimake_ai (neg := true) Hq.out.is; refine Calls.mono hcall ?_; clear hcall) | refine Calls.mono (rimake_ai (neg := true) Hq.out.is) ?_)
  rintro e w3 ⟨v3, rfl, hs, hb⟩
  obtain ⟨s_b, s_a, s_n, s_c, rfl⟩ := hs.litb
  have Hr := Lib.hid (Can.keep Hr.out (Keep.call hb))
  have Xa0 := Lib.hid (Box.pcall hb Xa0.out)
  have Xb0 := Lib.hid (Box.pcall hb Xb0.out)
  have Xc0 := Lib.hid (Box.pcall hb Xc0.out)
  have Xd0 := Lib.hid (Box.pcall hb Xd0.out)
  have HB := Lib.hid (below_call HB.out hb)
  have Hs := Lib.hid hs
  clear hb hs
  obtain ⟨ca00, ca01, fa00, fa01⟩ := Xa0.out.c2
  have la0 := Xa0.out.lt
  obtain ⟨cb00, cb01, fb00, fb01⟩ := Xb0.out.c2
  have lb0 := Xb0.out.lt
  obtain ⟨cc00, cc01, fc00, fc01⟩ := Xc0.out.c2
  have lc0 := Xc0.out.lt
  obtain ⟨cd00, cd01, fd00, fd01⟩ := Xd0.out.c2
  have ld0 := Xd0.out.lt
  go_wp2_with fail
  clear ca00 ca01 fa00 fa01 la0 cb00 cb01 fb00 fb01 lb0 cc00 cc01 fc00 fc01 lc0 cd00 cd01 fd00 fd01 ld0
  (first | (have hcall := rimake_ai (neg := false) Hr.out.is; refine Calls.mono hcall ?_; clear hcall) | refine Calls.mono (rimake_ai (neg := false) Hr.out.is) ?_)
  rintro e w4 ⟨v4, rfl, ht, hb⟩
  obtain ⟨t_b, t_a, t_n, t_c, rfl⟩ := ht.litb
  have Hs := Lib.hid (CL.keep Hs.out (Keep.call hb))
  have Xa0 := Lib.hid (Box.pcall hb Xa0.out)
  have Xb0 := Lib.hid (Box.pcall hb Xb0.out)
  have Xc0 := Lib.hid (Box.pcall hb Xc0.out)
  have Xd0 := Lib.hid (Box.pcall hb Xd0.out)
  have HB := Lib.hid (below_call HB.out hb)
  have Ht := Lib.hid ht
  clear hb ht
  obtain ⟨ca00, ca01, fa00, fa01⟩ := Xa0.out.c2
  have la0 := Xa0.out.lt
  obtain ⟨cb00, cb01, fb00, fb01⟩ := Xb0.out.c2
  have lb0 := Xb0.out.lt
  obtain ⟨cc00, cc01, fc00, fc01⟩ := Xc0.out.c2
  have lc0 := Xc0.out.lt
  obtain ⟨cd00, cd01, fd00, fd01⟩ := Xd0.out.c2
  have ld0 := Xd0.out.lt
  go_wp2
  clear ca00 ca01 fa00 fa01 la0 cb00 cb01 fb00 fb01 lb0 cc00 cc01 fc00 fc01 lc0 cd00 cd01 fd00 fd01 ld0
  obtain ⟨W5, hW⟩ : ∃ W5, W5 = (World.setCell (World.setCell w4 ⟨w.heap.size + 1 + 1, 0, none⟩ (.bool s_b)) ⟨w.heap.size + 1 + 1, 1, none⟩ (.slice s_a s_n s_c)) := ⟨_, rfl⟩
  rw [← hW]
  obtain ⟨xc0, hk, hf, hbb, hz⟩ := stored2s hW Xc0.out (by first | exact NoInt.bool _ | exact NoInt.slice _ _ _) (by first | exact NoInt.bool _ | exact NoInt.slice _ _ _)
  have Hs := Lib.hid (CL.keep Hs.out hk)
  have Ht := Lib.hid (CL.keep Ht.out hk)
  have Xa0 := Lib.hid (hf _ _ _ Xa0.out (by omega))
  have Xb0 := Lib.hid (hf _ _ _ Xb0.out (by omega))
  have Xc0 := Lib.hid xc0
  have Xd0 := Lib.hid (hf _ _ _ Xd0.out (by omega))
  have HB := Lib.hid (hbb _ HB.out Gc0.out)
  clear hW hk hf hbb xc0
  clear hz
  obtain ⟨W6, hW⟩ : ∃ W6, W6 = (World.setCell (World.setCell W5 ⟨w.heap.size + 1 + 1 + 1, 0, none⟩ (.bool t_b)) ⟨w.heap.size + 1 + 1 + 1, 1, none⟩ (.slice t_a t_n t_c)) := ⟨_, rfl⟩
  rw [← hW]
  obtain ⟨xd0, hk, hf, hbb, hz⟩ := stored2s hW Xd0.out (by first | exact NoInt.bool _ | exact NoInt.slice _ _ _) (by first | exact NoInt.bool _ | exact NoInt.slice _ _ _)
  have Hs := Lib.hid (CL.keep Hs.out hk)
  have Ht := Lib.hid (CL.keep Ht.out hk)
  have Xa0 := Lib.hid (hf _ _ _ Xa0.out (by omega))
  have Xb0 := Lib.hid (hf _ _ _ Xb0.out (by omega))
  have Xc0 := Lib.hid (hf _ _ _ Xc0.out (by omega))
  have Xd0 := Lib.hid xd0
  have HB := Lib.hid (hbb _ HB.out Gd0.out)
  clear hW hk hf hbb xd0
  clear hz
  exact ret_iie1 rfl rfl rfl rfl rfl Xc0.out Xd0.out ⟨_, _, rfl, CL.mono (CL.cast (idiv_P1 true na nb).1 Hs.out) (by omega), CL.mono (CL.cast (idiv_P1 true na nb).2 Ht.out) (by omega)⟩ HB.out


set_option maxRecDepth 100000 in
set_option maxHeartbeats 4000000 in
theorem ridm_P2_true {L M na nb : Nat} {sa sb : Value}  {w : World} (hz : 0 < nb) (hm : na % nb = 0) (hna : Is na L w sa) (hnb : Is nb M w sb) (hL : L ≤ 100000) (hM : M ≤ 100000) :
    Calls Try.prog 108 #[.agg #[.bool true, sa], .agg #[.bool true, sb]] w (Ret w (CL2E (iv true na / iv true nb) (iv true na % iv true nb) (max L 1 + 1) (max L M) 0)) := by
  have Hna := Lib.hid hna
  have Hnb := Lib.hid hnb
  have Hz := Lib.hid hz
  have Hm := Lib.hid hm
  clear hna hnb hz hm
  go_enter Try.func108, Try.ntmps108
  have HB := Lib.hid (Below.refl w.heap.size w)
  go_wp2_with fail
  obtain ⟨W1, hW⟩ : ∃ W1, W1 = (World.alloc (World.alloc (World.alloc (World.alloc w (.cells #[.bool true, sa] 49)) (.cells #[.bool true, sb] 49)) (.cells #[.bool false, .slice none 0 0] 49)) (.cells #[.bool false, .slice none 0 0] 49)) := ⟨_, rfl⟩
  rw [← hW]
  obtain ⟨xa0, xb0, xc0, xd0, hk, hb⟩ := boxes_4 _ _ _ _ _ _ _ _ _ hW
  clear hW
  have Hna := Lib.hid (Is.keep Hna.out hk)
  have Hnb := Lib.hid (Is.keep Hnb.out hk)
  have Ga0 := Lib.hid (show w.heap.size ≤ w.heap.size from Nat.le_trans HB.out.size (by omega))
  have Gb0 := Lib.hid (show w.heap.size ≤ w.heap.size + 1 from Nat.le_trans HB.out.size (by omega))
  have Gc0 := Lib.hid (show w.heap.size ≤ w.heap.size + 1 + 1 from Nat.le_trans HB.out.size (by omega))
  have Gd0 := Lib.hid (show w.heap.size ≤ w.heap.size + 1 + 1 + 1 from Nat.le_trans HB.out.size (by omega))
  have Xa0 := Lib.hid xa0
  have Xb0 := Lib.hid xb0
  have Xc0 := Lib.hid xc0
  have Xd0 := Lib.hid xd0
  have HB := Lib.hid (below_call HB.out hb)
  clear hk hb xa0 xb0 xc0 xd0
  (first | (have hcall := rdivmod_r0 Hz.out Hm.out Hna.out Hnb.out (by omega) (by omega); refine Calls.mono hcall ?_; clear hcall) | refine Calls.mono (rdivmod_r0 Hz.out Hm.out Hna.out Hnb.out (by omega) (by omega)) ?_)
  rintro e w2 ⟨t2, rfl, ⟨v2, r_a, r_c, rfl, hq, hr⟩, hb⟩
  have Xa0 := Lib.hid (Box.pcall hb Xa0.out)
  have Xb0 := Lib.hid (Box.pcall hb Xb0.out)
  have Xc0 := Lib.hid (Box.pcall hb Xc0.out)
  have Xd0 := Lib.hid (Box.pcall hb Xd0.out)
  have HB := Lib.hid (below_call HB.out hb)
  have Hq := Lib.hid hq
  have Hr := Lib.hid hr
  clear hb hq hr
  obtain ⟨ca00, ca01, fa00, fa01⟩ := Xa0.out.c2
  have la0 := Xa0.out.lt
  obtain ⟨cb00, cb01, fb00, fb01⟩ := Xb0.out.c2
  have lb0 := Xb0.out.lt
  obtain ⟨cc00, cc01, fc00, fc01⟩ := Xc0.out.c2
  have lc0 := Xc0.out.lt
  obtain ⟨cd00, cd01, fd00, fd01⟩ := Xd0.out.c2
  have ld0 := Xd0.out.lt
  go_wp2_with fail
  clear ca00 ca01 fa00 fa01 la0 cb00 cb01 fb00 fb01 lb0 cc00 cc01 fc00 fc01 lc0 cd00 cd01 fd00 fd01 ld0
  (first | (have hcall := rimake_ai (neg := false) Hq.out.is; refine Calls.mono hcall ?_; clear hcall) | refine Calls.mono (rimake_ai (neg := false) Hq.out.is) ?_)
  rintro e w3 ⟨v3, rfl, hs, hb⟩
  obtain ⟨s_b, s_a, s_n, s_c, rfl⟩ := hs.litb
  have Hr := Lib.hid (Can.keep Hr.out (Keep.call hb))
  have Xa0 := Lib.hid (Box.pcall hb Xa0.out)
  have Xb0 := Lib.hid (Box.pcall hb Xb0.out)
  have Xc0 := Lib.hid (Box.pcall hb Xc0.out)
  have Xd0 := Lib.hid (Box.pcall hb Xd0.out)
  have HB := Lib.hid (below_call HB.out hb)
  have Hs := Lib.hid hs
  clear hb hs
  obtain ⟨ca00, ca01, fa00, fa01⟩ := Xa0.out.c2
  have la0 := Xa0.out.lt
  obtain ⟨cb00, cb01, fb00, fb01⟩ := Xb0.out.c2
  have lb0 := Xb0.out.lt
  obtain ⟨cc00, cc01, fc00, fc01⟩ := Xc0.out.c2
  have lc0 := Xc0.out.lt
  obtain ⟨cd00, cd01, fd00, fd01⟩ := Xd0.out.c2
  have ld0 := Xd0.out.lt
  go_wp2_with fail
  clear ca00 ca01 fa00 fa01 la0 cb00 cb01 fb00 fb01 lb0 cc00 cc01 fc00 fc01 lc0 cd00 cd01 fd00 fd01 ld0
  (first | (have hcall := rimake_ai (neg := false) Hr.out.is; refine Calls.mono hcall ?_; clear hcall) | refine Calls.mono (rimake_ai (neg := false) Hr.out.is) ?_)
  rintro e w4 ⟨v4, rfl, ht, hb⟩
  obtain ⟨t_b, t_a, t_n, t_c, rfl⟩ := ht.litb
  have Hs := Lib.hid (CL.keep Hs.out (Keep.call hb))
  have Xa0 := Lib.hid (Box.pcall hb Xa0.out)
  have Xb0 := Lib.hid (Box.pcall hb Xb0.out)
  have Xc0 := Lib.hid (Box.pcall hb Xc0.out)
  have Xd0 := Lib.hid (Box.pcall hb Xd0.out)
  have HB := Lib.hid (below_call HB.out hb)
  have Ht := Lib.hid ht
  clear hb ht
  obtain ⟨ca00, ca01, fa00, fa01⟩ := Xa0.out.c2
  have la0 := Xa0.out.lt
  obtain ⟨cb00, cb01, fb00, fb01⟩ := Xb0.out.c2
  have lb0 := Xb0.out.lt
  obtain ⟨cc00, cc01, fc00, fc01⟩ := Xc0.out.c2
  have lc0 := Xc0.out.lt
  obtain ⟨cd00, cd01, fd00, fd01⟩ := Xd0.out.c2
  have ld0 := Xd0.out.lt
  go_wp2
  clear ca00 ca01 fa00 fa01 la0 cb00 cb01 fb00 fb01 lb0 cc00 cc01 fc00 fc01 lc0 cd00 cd01 fd00 fd01 ld0
  obtain ⟨W5, hW⟩ : ∃ W5, W5 = (World.setCell (World.setCell w4 ⟨w.heap.size + 1 + 1, 0, none⟩ (.bool s_b)) ⟨w.heap.size + 1 + 1, 1, none⟩ (.slice s_a s_n s_c)) := ⟨_, rfl⟩
  rw [← hW]
  obtain ⟨xc0, hk, hf, hbb, hz⟩ := stored2s hW Xc0.out (by first | exact NoInt.bool _ | exact NoInt.slice _ _ _) (by first | exact NoInt.bool _ | exact NoInt.slice _ _ _)
  have Hs := Lib.hid (CL.keep Hs.out hk)
  have Ht := Lib.hid (CL.keep Ht.out hk)
  have Xa0 := Lib.hid (hf _ _ _ Xa0.out (by omega))
  have Xb0 := Lib.hid (hf _ _ _ Xb0.out (by omega))
  have Xc0 := Lib.hid xc0
  have Xd0 := Lib.hid (hf _ _ _ Xd0.out (by omega))
  have HB := Lib.hid (hbb _ HB.out Gc0.out)
  clear hW hk hf hbb xc0
  clear hz
  obtain ⟨W6, hW⟩ : ∃ W6, W6 = (World.setCell (World.setCell W5 ⟨w.heap.size + 1 + 1 + 1, 0, none⟩ (.bool t_b)) ⟨w.heap.size + 1 + 1 + 1, 1, none⟩ (.slice t_a t_n t_c)) := ⟨_, rfl⟩
  rw [← hW]
  obtain ⟨xd0, hk, hf, hbb, hz⟩ := stored2s hW Xd0.out (by first | exact NoInt.bool _ | exact NoInt.slice _ _ _) (by first | exact NoInt.bool _ | exact NoInt.slice _ _ _)
  have Hs := Lib.hid (CL.keep Hs.out hk)
  have Ht := Lib.hid (CL.keep Ht.out hk)
  have Xa0 := Lib.hid (hf _ _ _ Xa0.out (by omega))
  have Xb0 := Lib.hid (hf _ _ _ Xb0.out (by omega))
  have Xc0 := Lib.hid (hf _ _ _ Xc0.out (by omega))
  have Xd0 := Lib.hid xd0
  have HB := Lib.hid (hbb _ HB.out Gd0.out)
  clear hW hk hf hbb xd0
  clear hz
  exact ret_iie1 rfl rfl rfl rfl rfl Xc0.out Xd0.out ⟨_, _, rfl, CL.mono (CL.cast (idiv_P2 true (a := na) (b := nb) Hm.out).1 Hs.out) (by omega), CL.mono (CL.cast (idiv_P2 true (a := na) (b := nb) Hm.out).2 Ht.out) (by omega)⟩ HB.out


set_option maxRecDepth 100000 in
set_option maxHeartbeats 4000000 in
theorem ridm_P3_true {L M na nb : Nat} {sa sb : Value}  {w : World} (hz : 0 < nb) (hm : 0 < na % nb) (hna : Is na L w sa) (hnb : Is nb M w sb) (hL : L ≤ 100000) (hM : M ≤ 100000) :
    Calls Try.prog 108 #[.agg #[.bool true, sa], .agg #[.bool true, sb]] w (Ret w (CL2E (iv true na / iv true nb) (iv true na % iv true nb) (max L 1 + 1) (max L M) 0)) := by
  have Hna := Lib.hid hna
  have Hnb := Lib.hid hnb
  have Hz := Lib.hid hz
  have Hm := Lib.hid hm
  clear hna hnb hz hm
  go_enter Try.func108, Try.ntmps108
  have HB := Lib.hid (Below.refl w.heap.size w)
  go_wp2_with fail
  obtain ⟨W1, hW⟩ : ∃ W1, W1 = (World.alloc (World.alloc (World.alloc (World.alloc w (.cells #[.bool true, sa] 49)) (.cells #[.bool true, sb] 49)) (.cells #[.bool false, .slice none 0 0] 49)) (.cells #[.bool false, .slice none 0 0] 49)) := ⟨_, rfl⟩
  rw [← hW]
  obtain ⟨xa0, xb0, xc0, xd0, hk, hb⟩ := boxes_4 _ _ _ _ _ _ _ _ _ hW
  clear hW
  have Hna := Lib.hid (Is.keep Hna.out hk)
  have Hnb := Lib.hid (Is.keep Hnb.out hk)
  have Ga0 := Lib.hid (show w.heap.size ≤ w.heap.size from Nat.le_trans HB.out.size (by omega))
  have Gb0 := Lib.hid (show w.heap.size ≤ w.heap.size + 1 from Nat.le_trans HB.out.size (by omega))
  have Gc0 := Lib.hid (show w.heap.size ≤ w.heap.size + 1 + 1 from Nat.le_trans HB.out.size (by omega))
  have Gd0 := Lib.hid (show w.heap.size ≤ w.heap.size + 1 + 1 + 1 from Nat.le_trans HB.out.size (by omega))
  have Xa0 := Lib.hid xa0
  have Xb0 := Lib.hid xb0
  have Xc0 := Lib.hid xc0
  have Xd0 := Lib.hid xd0
  have HB := Lib.hid (below_call HB.out hb)
  clear hk hb xa0 xb0 xc0 xd0
  (first | (have hcall := rdivmod_rp Hz.out Hm.out Hna.out Hnb.out (by omega) (by omega); refine Calls.mono hcall ?_; clear hcall) | refine Calls.mono (rdivmod_rp Hz.out Hm.out Hna.out Hnb.out (by omega) (by omega)) ?_)
  rintro e w2 ⟨t2, rfl, ⟨v2, r_a, r_n, r_c, rfl, hq, hr, dr⟩, hb⟩
  have Hnb := Lib.hid (Is.keep Hnb.out (Keep.call hb))
  have Xa0 := Lib.hid (Box.pcall hb Xa0.out)
  have Xb0 := Lib.hid (Box.pcall hb Xb0.out)
  have Xc0 := Lib.hid (Box.pcall hb Xc0.out)
  have Xd0 := Lib.hid (Box.pcall hb Xd0.out)
  have HB := Lib.hid (below_call HB.out hb)
  have Hq := Lib.hid hq
  have Hr := Lib.hid hr
  clear hb hq hr
  obtain ⟨ca00, ca01, fa00, fa01⟩ := Xa0.out.c2
  have la0 := Xa0.out.lt
  obtain ⟨cb00, cb01, fb00, fb01⟩ := Xb0.out.c2
  have lb0 := Xb0.out.lt
  obtain ⟨cc00, cc01, fc00, fc01⟩ := Xc0.out.c2
  have lc0 := Xc0.out.lt
  obtain ⟨cd00, cd01, fd00, fd01⟩ := Xd0.out.c2
  have ld0 := Xd0.out.lt
  go_wp2_with fail
  clear ca00 ca01 fa00 fa01 la0 cb00 cb01 fb00 fb01 lb0 cc00 cc01 fc00 fc01 lc0 cd00 cd01 fd00 fd01 ld0
  obtain ⟨W3, hW⟩ : ∃ W3, W3 = (World.alloc w2 (.cells #[.int .u32 1] 99)) := ⟨_, rfl⟩
  rw [← hW]
  obtain ⟨xe0, hk, hb⟩ := boxes_1 _ _ _ hW
  clear hW
  have Hnb := Lib.hid (Is.keep Hnb.out hk)
  have Hq := Lib.hid (Can.keep Hq.out hk)
  have Hr := Lib.hid (Can.keep Hr.out hk)
  have Na0e0 := Lib.hid (show w.heap.size ≠ w2.heap.size from Nat.ne_of_lt (Nat.lt_of_lt_of_le Xa0.out.lt (by omega)))
  have Nb0e0 := Lib.hid (show w.heap.size + 1 ≠ w2.heap.size from Nat.ne_of_lt (Nat.lt_of_lt_of_le Xb0.out.lt (by omega)))
  have Nc0e0 := Lib.hid (show w.heap.size + 1 + 1 ≠ w2.heap.size from Nat.ne_of_lt (Nat.lt_of_lt_of_le Xc0.out.lt (by omega)))
  have Nd0e0 := Lib.hid (show w.heap.size + 1 + 1 + 1 ≠ w2.heap.size from Nat.ne_of_lt (Nat.lt_of_lt_of_le Xd0.out.lt (by omega)))
  have Ge0 := Lib.hid (show w.heap.size ≤ w2.heap.size from Nat.le_trans HB.out.size (by omega))
  have Xa0 := Lib.hid (Box.pcall hb Xa0.out)
  have Xb0 := Lib.hid (Box.pcall hb Xb0.out)
  have Xc0 := Lib.hid (Box.pcall hb Xc0.out)
  have Xd0 := Lib.hid (Box.pcall hb Xd0.out)
  have Xe0 := Lib.hid xe0
  have HB := Lib.hid (below_call HB.out hb)
  clear hk hb xe0
  (first | (have hcall := radd_is Hq.out.is (Is.ofbox Xe0.out) (by omega) (by omega); refine Calls.mono hcall ?_; clear hcall) | refine Calls.mono (radd_is Hq.out.is (Is.ofbox Xe0.out) (by omega) (by omega)) ?_)
  rintro e w4 ⟨v4, rfl, hp, hb⟩
  obtain ⟨p_a, p_n, p_c, rfl⟩ := hp.is.lit
  have Hnb := Lib.hid (Is.keep Hnb.out (Keep.call hb))
  have Hr := Lib.hid (Can.keep Hr.out (Keep.call hb))
  have Xa0 := Lib.hid (Box.pcall hb Xa0.out)
  have Xb0 := Lib.hid (Box.pcall hb Xb0.out)
  have Xc0 := Lib.hid (Box.pcall hb Xc0.out)
  have Xd0 := Lib.hid (Box.pcall hb Xd0.out)
  have Xe0 := Lib.hid (Box.pcall hb Xe0.out)
  have HB := Lib.hid (below_call HB.out hb)
  have Hp := Lib.hid hp
  clear hb hp
  obtain ⟨ca00, ca01, fa00, fa01⟩ := Xa0.out.c2
  have la0 := Xa0.out.lt
  obtain ⟨cb00, cb01, fb00, fb01⟩ := Xb0.out.c2
  have lb0 := Xb0.out.lt
  obtain ⟨cc00, cc01, fc00, fc01⟩ := Xc0.out.c2
  have lc0 := Xc0.out.lt
  obtain ⟨cd00, cd01, fd00, fd01⟩ := Xd0.out.c2
  have ld0 := Xd0.out.lt
  obtain ⟨ce00, fe00⟩ := Xe0.out.c1
  have le0 := Xe0.out.lt
  go_wp2_with fail
  clear ca00 ca01 fa00 fa01 la0 cb00 cb01 fb00 fb01 lb0 cc00 cc01 fc00 fc01 lc0 cd00 cd01 fd00 fd01 ld0 ce00 fe00 le0
  refine Calls.mono (rsub_is2 (subErr_le (Nat.le_of_lt (Nat.mod_lt _ Hz.out))) Hnb.out Hr.out.is (by omega)) ?_
  rintro e w5 ⟨t5, rfl, ⟨v5, rfl, hd⟩, hb⟩
  obtain ⟨d_a, d_n, d_c, rfl⟩ := hd.is.lit
  have Hp := Lib.hid (Can.keep Hp.out (Keep.call hb))
  have Xa0 := Lib.hid (Box.pcall hb Xa0.out)
  have Xb0 := Lib.hid (Box.pcall hb Xb0.out)
  have Xc0 := Lib.hid (Box.pcall hb Xc0.out)
  have Xd0 := Lib.hid (Box.pcall hb Xd0.out)
  have Xe0 := Lib.hid (Box.pcall hb Xe0.out)
  have HB := Lib.hid (below_call HB.out hb)
  have Hd := Lib.hid hd
  clear hb hd
  obtain ⟨ca00, ca01, fa00, fa01⟩ := Xa0.out.c2
  have la0 := Xa0.out.lt
  obtain ⟨cb00, cb01, fb00, fb01⟩ := Xb0.out.c2
  have lb0 := Xb0.out.lt
  obtain ⟨cc00, cc01, fc00, fc01⟩ := Xc0.out.c2
  have lc0 := Xc0.out.lt
  obtain ⟨cd00, cd01, fd00, fd01⟩ := Xd0.out.c2
  have ld0 := Xd0.out.lt
  obtain ⟨ce00, fe00⟩ := Xe0.out.c1
  have le0 := Xe0.out.lt
  go_wp2_with fail
  clear ca00 ca01 fa00 fa01 la0 cb00 cb01 fb00 fb01 lb0 cc00 cc01 fc00 fc01 lc0 cd00 cd01 fd00 fd01 ld0 ce00 fe00 le0
  (first | (have hcall := rimake_ai (neg := false) Hp.out.is; refine Calls.mono hcall ?_; clear hcall) | refine Calls.mono (rimake_ai (neg := false) Hp.out.is) ?_)
  rintro e w6 ⟨v6, rfl, hs, hb⟩
  obtain ⟨s_b, s_a, s_n, s_c, rfl⟩ := hs.litb
  have Hd := Lib.hid (Can.keep Hd.out (Keep.call hb))
  have Xa0 := Lib.hid (Box.pcall hb Xa0.out)
  have Xb0 := Lib.hid (Box.pcall hb Xb0.out)
  have Xc0 := Lib.hid (Box.pcall hb Xc0.out)
  have Xd0 := Lib.hid (Box.pcall hb Xd0.out)
  have Xe0 := Lib.hid (Box.pcall hb Xe0.out)
  have HB := Lib.hid (below_call HB.out hb)
  have Hs := Lib.hid hs
  clear hb hs
  obtain ⟨ca00, ca01, fa00, fa01⟩ := Xa0.out.c2
  have la0 := Xa0.out.lt
  obtain ⟨cb00, cb01, fb00, fb01⟩ := Xb0.out.c2
  have lb0 := Xb0.out.lt
  obtain ⟨cc00, cc01, fc00, fc01⟩ := Xc0.out.c2
  have lc0 := Xc0.out.lt
  obtain ⟨cd00, cd01, fd00, fd01⟩ := Xd0.out.c2
  have ld0 := Xd0.out.lt
  obtain ⟨ce00, fe00⟩ := Xe0.out.c1
  have le0 := Xe0.out.lt
  go_wp2_with fail
  clear ca00 ca01 fa00 fa01 la0 cb00 cb01 fb00 fb01 lb0 cc00 cc01 fc00 fc01 lc0 cd00 cd01 fd00 fd01 ld0 ce00 fe00 le0
  (first | (have hcall := rimake_ai (neg := false) Hd.out.is; refine Calls.mono hcall ?_; clear hcall) | refine Calls.mono (rimake_ai (neg := false) Hd.out.is) ?_)
  rintro e w7 ⟨v7, rfl, ht, hb⟩
  obtain ⟨t_b, t_a, t_n, t_c, rfl⟩ := ht.litb
  have Hs := Lib.hid (CL.keep Hs.out (Keep.call hb))
  have Xa0 := Lib.hid (Box.pcall hb Xa0.out)
  have Xb0 := Lib.hid (Box.pcall hb Xb0.out)
  have Xc0 := Lib.hid (Box.pcall hb Xc0.out)
  have Xd0 := Lib.hid (Box.pcall hb Xd0.out)
  have Xe0 := Lib.hid (Box.pcall hb Xe0.out)
  have HB := Lib.hid (below_call HB.out hb)
  have Ht := Lib.hid ht
  clear hb ht
  obtain ⟨ca00, ca01, fa00, fa01⟩ := Xa0.out.c2
  have la0 := Xa0.out.lt
  obtain ⟨cb00, cb01, fb00, fb01⟩ := Xb0.out.c2
  have lb0 := Xb0.out.lt
  obtain ⟨cc00, cc01, fc00, fc01⟩ := Xc0.out.c2
  have lc0 := Xc0.out.lt
  obtain ⟨cd00, cd01, fd00, fd01⟩ := Xd0.out.c2
  have ld0 := Xd0.out.lt
  obtain ⟨ce00, fe00⟩ := Xe0.out.c1
  have le0 := Xe0.out.lt
  go_wp2
  clear ca00 ca01 fa00 fa01 la0 cb00 cb01 fb00 fb01 lb0 cc00 cc01 fc00 fc01 lc0 cd00 cd01 fd00 fd01 ld0 ce00 fe00 le0
  obtain ⟨W8, hW⟩ : ∃ W8, W8 = (World.setCell (World.setCell w7 ⟨w.heap.size + 1 + 1, 0, none⟩ (.bool s_b)) ⟨w.heap.size + 1 + 1, 1, none⟩ (.slice s_a s_n s_c)) := ⟨_, rfl⟩
  rw [← hW]
  obtain ⟨xc0, hk, hf, hbb, hz⟩ := stored2s hW Xc0.out (by first | exact NoInt.bool _ | exact NoInt.slice _ _ _) (by first | exact NoInt.bool _ | exact NoInt.slice _ _ _)
  have Hs := Lib.hid (CL.keep Hs.out hk)
  have Ht := Lib.hid (CL.keep Ht.out hk)
  have Xa0 := Lib.hid (hf _ _ _ Xa0.out (by omega))
  have Xb0 := Lib.hid (hf _ _ _ Xb0.out (by omega))
  have Xc0 := Lib.hid xc0
  have Xd0 := Lib.hid (hf _ _ _ Xd0.out (by omega))
  have Xe0 := Lib.hid (hf _ _ _ Xe0.out Nc0e0.out.symm)
  have HB := Lib.hid (hbb _ HB.out Gc0.out)
  clear hW hk hf hbb xc0
  clear hz
  obtain ⟨W9, hW⟩ : ∃ W9, W9 = (World.setCell (World.setCell W8 ⟨w.heap.size + 1 + 1 + 1, 0, none⟩ (.bool t_b)) ⟨w.heap.size + 1 + 1 + 1, 1, none⟩ (.slice t_a t_n t_c)) := ⟨_, rfl⟩
  rw [← hW]
  obtain ⟨xd0, hk, hf, hbb, hz⟩ := stored2s hW Xd0.out (by first | exact NoInt.bool _ | exact NoInt.slice _ _ _) (by first | exact NoInt.bool _ | exact NoInt.slice _ _ _)
  have Hs := Lib.hid (CL.keep Hs.out hk)
  have Ht := Lib.hid (CL.keep Ht.out hk)
  have Xa0 := Lib.hid (hf _ _ _ Xa0.out (by omega))
  have Xb0 := Lib.hid (hf _ _ _ Xb0.out (by omega))
  have Xc0 := Lib.hid (hf _ _ _ Xc0.out (by omega))
  have Xd0 := Lib.hid xd0
  have Xe0 := Lib.hid (hf _ _ _ Xe0.out Nd0e0.out.symm)
  have HB := Lib.hid (hbb _ HB.out Gd0.out)
  clear hW hk hf hbb xd0
  clear hz
  exact ret_iie1 rfl rfl rfl rfl rfl Xc0.out Xd0.out ⟨_, _, rfl, CL.mono (CL.cast (idiv_P3 true (a := na) (b := nb) Hz.out Hm.out).1 Hs.out) (by omega), CL.mono (CL.cast (idiv_P3 true (a := na) (b := nb) Hz.out Hm.out).2 Ht.out) (by omega)⟩ HB.out


set_option maxRecDepth 100000 in
set_option maxHeartbeats 4000000 in
theorem ridm_P1_false {L M na nb : Nat} {sa sb : Value}  {w : World} (hz : 0 < nb) (hna : Is na L w sa) (hnb : Is nb M w sb) (hL : L ≤ 100000) (hM : M ≤ 100000) :
    Calls Try.prog 108 #[.agg #[.bool false, sa], .agg #[.bool false, sb]] w (Ret w (CL2E (iv false na / iv false nb) (iv false na % iv false nb) (max L 1 + 1) (max L M) 0)) := by
  have Hna := Lib.hid hna
  have Hnb := Lib.hid hnb
  have Hz := Lib.hid hz
  clear hna hnb hz
  go_enter Try.func108, Try.ntmps108
  have HB := Lib.hid (Below.refl w.heap.size w)
  go_wp2_with fail
  obtain ⟨W1, hW⟩ : ∃ W1, W1 = (World.alloc (World.alloc (World.alloc (World.alloc w (.cells #[.bool false, sa] 49)) (.cells #[.bool false, sb] 49)) (.cells #[.bool false, .slice none 0 0] 49)) (.cells #[.bool false, .slice none 0 0] 49)) := ⟨_, rfl⟩
  rw [← hW]
  obtain ⟨xa0, xb0, xc0, xd0, hk, hb⟩ := boxes_4 _ _ _ _ _ _ _ _ _ hW
  clear hW
  have Hna := Lib.hid (Is.keep Hna.out hk)
  have Hnb := Lib.hid (Is.keep Hnb.out hk)
  have Ga0 := Lib.hid (show w.heap.size ≤ w.heap.size from Nat.le_trans HB.out.size (by omega))
  have Gb0 := Lib.hid (show w.heap.size ≤ w.heap.size + 1 from Nat.le_trans HB.out.size (by omega))
  have Gc0 := Lib.hid (show w.heap.size ≤ w.heap.size + 1 + 1 from Nat.le_trans HB.out.size (by omega))
  have Gd0 := Lib.hid (show w.heap.size ≤ w.heap.size + 1 + 1 + 1 from Nat.le_trans HB.out.size (by omega))
  have Xa0 := Lib.hid xa0
  have Xb0 := Lib.hid xb0
  have Xc0 := Lib.hid xc0
  have Xd0 := Lib.hid xd0
  have HB := Lib.hid (below_call HB.out hb)
  clear hk hb xa0 xb0 xc0 xd0
  (first | (have hcall := rdivmod_pos Hz.out Hna.out Hnb.out (by omega) (by omega); refine Calls.mono hcall ?_; clear hcall) | refine Calls.mono (rdivmod_pos Hz.out Hna.out Hnb.out (by omega) (by omega)) ?_)
  rintro e w2 ⟨t2, rfl, ⟨v2, u2, rfl, hq, hr⟩, hb⟩
  obtain ⟨q_a, q_n, q_c, rfl⟩ := hq.is.lit
  obtain ⟨r_a, r_n, r_c, rfl⟩ := hr.is.lit
  have Xa0 := Lib.hid (Box.pcall hb Xa0.out)
  have Xb0 := Lib.hid (Box.pcall hb Xb0.out)
  have Xc0 := Lib.hid (Box.pcall hb Xc0.out)
  have Xd0 := Lib.hid (Box.pcall hb Xd0.out)
  have HB := Lib.hid (below_call HB.out hb)
  have Hq := Lib.hid hq
  have Hr := Lib.hid hr
  clear hb hq hr
  obtain ⟨ca00, ca01, fa00, fa01⟩ := Xa0.out.c2
  have la0 := Xa0.out.lt
  obtain ⟨cb00, cb01, fb00, fb01⟩ := Xb0.out.c2
  have lb0 := Xb0.out.lt
  obtain ⟨cc00, cc01, fc00, fc01⟩ := Xc0.out.c2
  have lc0 := Xc0.out.lt
  obtain ⟨cd00, cd01, fd00, fd01⟩ := Xd0.out.c2
  have ld0 := Xd0.out.lt
  go_wp2_with fail
  clear ca00 ca01 fa00 fa01 la0 cb00 cb01 fb00 fb01 lb0 cc00 cc01 fc00 fc01 lc0 cd00 cd01 fd00 fd01 ld0
  (first | (have hcall := rimake_ai (neg := false) Hq.out.is; refine Calls.mono hcall ?_; clear hcall) | refine Calls.mono (rimake_ai (neg := false) Hq.out.is) ?_)
  rintro e w3 ⟨v3, rfl, hs, hb⟩
  obtain ⟨s_b, s_a, s_n, s_c, rfl⟩ := hs.litb
  have Hr := Lib.hid (Can.keep Hr.out (Keep.call hb))
  have Xa0 := Lib.hid (Box.pcall hb Xa0.out)
  have Xb0 := Lib.hid (Box.pcall hb Xb0.out)
  have Xc0 := Lib.hid (Box.pcall hb Xc0.out)
  have Xd0 := Lib.hid (Box.pcall hb Xd0.out)
  have HB := Lib.hid (below_call HB.out hb)
  have Hs := Lib.hid hs
  clear hb hs
  obtain ⟨ca00, ca01, fa00, fa01⟩ := Xa0.out.c2
  have la0 := Xa0.out.lt
  obtain ⟨cb00, cb01, fb00, fb01⟩ := Xb0.out.c2
  have lb0 := Xb0.out.lt
  obtain ⟨cc00, cc01, fc00, fc01⟩ := Xc0.out.c2
  have lc0 := Xc0.out.lt
  obtain ⟨cd00, cd01, fd00, fd01⟩ := Xd0.out.c2
  have ld0 := Xd0.out.lt
  go_wp2_with fail
  clear ca00 ca01 fa00 fa01 la0 cb00 cb01 fb00 fb01 lb0 cc00 cc01 fc00 fc01 lc0 cd00 cd01 fd00 fd01 ld0
  (first | (have hcall := rimake_ai (neg := false) Hr.out.is; refine Calls.mono hcall ?_; clear hcall) | refine Calls.mono (rimake_ai (neg := false) Hr.out.is) ?_)
  rintro e w4 ⟨v4, rfl, ht, hb⟩
  obtain ⟨t_b, t_a, t_n, t_c, rfl⟩ := ht.litb
  have Hs := Lib.hid (CL.keep Hs.out (Keep.call hb))
  have Xa0 := Lib.hid (Box.pcall hb Xa0.out)
  have Xb0 := Lib.hid (Box.pcall hb Xb0.out)
  have Xc0 := Lib.hid (Box.pcall hb Xc0.out)
  have Xd0 := Lib.hid (Box.pcall hb Xd0.out)
  have HB := Lib.hid (below_call HB.out hb)
  have Ht := Lib.hid ht
  clear hb ht
  obtain ⟨ca00, ca01, fa00, fa01⟩ := Xa0.out.c2
  have la0 := Xa0.out.lt
  obtain ⟨cb00, cb01, fb00, fb01⟩ := Xb0.out.c2
  have lb0 := Xb0.out.lt
  obtain ⟨cc00, cc01, fc00, fc01⟩ := Xc0.out.c2
  have lc0 := Xc0.out.lt
  obtain ⟨cd00, cd01, fd00, fd01⟩ := Xd0.out.c2
  have ld0 := Xd0.out.lt
  go_wp2
  clear ca00 ca01 fa00 fa01 la0 cb00 cb01 fb00 fb01 lb0 cc00 cc01 fc00 fc01 lc0 cd00 cd01 fd00 fd01 ld0
  obtain ⟨W5, hW⟩ : ∃ W5, W5 = (World.setCell (World.setCell w4 ⟨w.heap.size + 1 + 1, 0, none⟩ (.bool s_b)) ⟨w.heap.size + 1 + 1, 1, none⟩ (.slice s_a s_n s_c)) := ⟨_, rfl⟩
  rw [← hW]
  obtain ⟨xc0, hk, hf, hbb, hz⟩ := stored2s hW Xc0.out (by first | exact NoInt.bool _ | exact NoInt.slice _ _ _) (by first | exact NoInt.bool _ | exact NoInt.slice _ _ _)
  have Hs := Lib.hid (CL.keep Hs.out hk)
  have Ht := Lib.hid (CL.keep Ht.out hk)
  have Xa0 := Lib.hid (hf _ _ _ Xa0.out (by omega))
  have Xb0 := Lib.hid (hf _ _ _ Xb0.out (by omega))
  have Xc0 := Lib.hid xc0
  have Xd0 := Lib.hid (hf _ _ _ Xd0.out (by omega))
  have HB := Lib.hid (hbb _ HB.out Gc0.out)
  clear hW hk hf hbb xc0
  clear hz
  obtain ⟨W6, hW⟩ : ∃ W6, W6 = (World.setCell (World.setCell W5 ⟨w.heap.size + 1 + 1 + 1, 0, none⟩ (.bool t_b)) ⟨w.heap.size + 1 + 1 + 1, 1, none⟩ (.slice t_a t_n t_c)) := ⟨_, rfl⟩
  rw [← hW]
  obtain ⟨xd0, hk, hf, hbb, hz⟩ := stored2s hW Xd0.out (by first | exact NoInt.bool _ | exact NoInt.slice _ _ _) (by first | exact NoInt.bool _ | exact NoInt.slice _ _ _)
  have Hs := Lib.hid (CL.keep Hs.out hk)
  have Ht := Lib.hid (CL.keep Ht.out hk)
  have Xa0 := Lib.hid (hf _ _ _ Xa0.out (by omega))
  have Xb0 := Lib.hid (hf _ _ _ Xb0.out (by omega))
  have Xc0 := Lib.hid (hf _ _ _ Xc0.out (by omega))
  have Xd0 := Lib.hid xd0
  have HB := Lib.hid (hbb _ HB.out Gd0.out)
  clear hW hk hf hbb xd0
  clear hz
  exact ret_iie1 rfl rfl rfl rfl rfl Xc0.out Xd0.out ⟨_, _, rfl, CL.mono (CL.cast (idiv_P1 false na nb).1 Hs.out) (by omega), CL.mono (CL.cast (idiv_P1 false na nb).2 Ht.out) (by omega)⟩ HB.out


set_option maxRecDepth 100000 in
set_option maxHeartbeats 4000000 in
theorem ridm_P2_false {L M na nb : Nat} {sa sb : Value}  {w : World} (hz : 0 < nb) (hm : na % nb = 0) (hna : Is na L w sa) (hnb : Is nb M w sb) (hL : L ≤ 100000) (hM : M ≤ 100000) :
    Calls Try.prog 108 #[.agg #[.bool true, sa], .agg #[.bool false, sb]] w (Ret w (CL2E (iv true na / iv false nb) (iv true na % iv false nb) (max L 1 + 1) (max L M) 0)) := by
  have Hna := Lib.hid hna
  have Hnb := Lib.hid hnb
  have Hz := Lib.hid hz
  have Hm := Lib.hid hm
  clear hna hnb hz hm
  go_enter Try.func108, Try.ntmps108
  have HB := Lib.hid (Below.refl w.heap.size w)
  go_wp2_with fail
  obtain ⟨W1, hW⟩ : ∃ W1, W1 = (World.alloc (World.alloc (World.alloc (World.alloc w (.cells #[.bool true, sa] 49)) (.cells #[.bool false, sb] 49)) (.cells #[.bool false, .slice none 0 0] 49)) (.cells #[.bool false, .slice none 0 0] 49)) := ⟨_, rfl⟩
  rw [← hW]
  obtain ⟨xa0, xb0, xc0, xd0, hk, hb⟩ := boxes_4 _ _ _ _ _ _ _ _ _ hW
  clear hW
  have Hna := Lib.hid (Is.keep Hna.out hk)
  have Hnb := Lib.hid (Is.keep Hnb.out hk)
  have Ga0 := Lib.hid (show w.heap.size ≤ w.heap.size from Nat.le_trans HB.out.size (by omega))
  have Gb0 := Lib.hid (show w.heap.size ≤ w.heap.size + 1 from Nat.le_trans HB.out.size (by omega))
  have Gc0 := Lib.hid (show w.heap.size ≤ w.heap.size + 1 + 1 from Nat.le_trans HB.out.size (by omega))
  have Gd0 := Lib.hid (show w.heap.size ≤ w.heap.size + 1 + 1 + 1 from Nat.le_trans HB.out.size (by omega))
  have Xa0 := Lib.hid xa0
  have Xb0 := Lib.hid xb0
  have Xc0 := Lib.hid xc0
  have Xd0 := Lib.hid xd0
  have HB := Lib.hid (below_call HB.out hb)
  clear hk hb xa0 xb0 xc0 xd0
  (first | (have hcall := rdivmod_r0 Hz.out Hm.out Hna.out Hnb.out (by omega) (by omega); refine Calls.mono hcall ?_; clear hcall) | refine Calls.mono (rdivmod_r0 Hz.out Hm.out Hna.out Hnb.out (by omega) (by omega)) ?_)
  rintro e w2 ⟨t2, rfl, ⟨v2, r_a, r_c, rfl, hq, hr⟩, hb⟩
  have Xa0 := Lib.hid (Box.pcall hb Xa0.out)
  have Xb0 := Lib.hid (Box.pcall hb Xb0.out)
  have Xc0 := Lib.hid (Box.pcall hb Xc0.out)
  have Xd0 := Lib.hid (Box.pcall hb Xd0.out)
  have HB := Lib.hid (below_call HB.out hb)
  have Hq := Lib.hid hq
  have Hr := Lib.hid hr
  clear hb hq hr
  obtain ⟨ca00, ca01, fa00, fa01⟩ := Xa0.out.c2
  have la0 := Xa0.out.lt
  obtain ⟨cb00, cb01, fb00, fb01⟩ := Xb0.out.c2
  have lb0 := Xb0.out.lt
  obtain ⟨cc00, cc01, fc00, fc01⟩ := Xc0.out.c2
  have lc0 := Xc0.out.lt
  obtain ⟨cd00, cd01, fd00, fd01⟩ := Xd0.out.c2
  have ld0 := Xd0.out.lt
  go_wp2_with fail
  clear ca00 ca01 fa00 fa01 la0 cb00 cb01 fb00 fb01 lb0 cc00 cc01 fc00 fc01 lc0 cd00 cd01 fd00 fd01 ld0
  (first | (have hcall := rimake_ai (neg := true) Hq.out.is; refine Calls.mono hcall ?_; clear hcall) | refine Calls.mono (rimake_ai (neg := true) Hq.out.is) ?_)
  rintro e w3 ⟨v3, rfl, hs, hb⟩
  obtain ⟨s_b, s_a, s_n, s_c, rfl⟩ := hs.litb
  have Hr := Lib.hid (Can.keep Hr.out (Keep.call hb))
  have Xa0 := Lib.hid (Box.pcall hb Xa0.out)
  have Xb0 := Lib.hid (Box.pcall hb Xb0.out)
  have Xc0 := Lib.hid (Box.pcall hb Xc0.out)
  have Xd0 := Lib.hid (Box.pcall hb Xd0.out)
  have HB := Lib.hid (below_call HB.out hb)
  have Hs := Lib.hid hs
  clear hb hs
  obtain ⟨ca00, ca01, fa00, fa01⟩ := Xa0.out.c2
  have la0 := Xa0.out.lt
  obtain ⟨cb00, cb01, fb00, fb01⟩ := Xb0.out.c2
  have lb0 := Xb0.out.lt
  obtain ⟨cc00, cc01, fc00, fc01⟩ := Xc0.out.c2
  have lc0 := Xc0.out.lt
  obtain ⟨cd00, cd01, fd00, fd01⟩ := Xd0.out.c2
  have ld0 := Xd0.out.lt
  go_wp2_with fail
  clear ca00 ca01 fa00 fa01 la0 cb00 cb01 fb00 fb01 lb0 cc00 cc01 fc00 fc01 lc0 cd00 cd01 fd00 fd01 ld0
  (first | (have hcall := rimake_ai (neg := false) Hr.out.is; refine Calls.mono hcall ?_; clear hcall) | refine Calls.mono (rimake_ai (neg := false) Hr.out.is) ?_)
  rintro e w4 ⟨v4, rfl, ht, hb⟩
  obtain ⟨t_b, t_a, t_n, t_c, rfl⟩ := ht.litb
  have Hs := Lib.hid (CL.keep Hs.out (Keep.call hb))
  have Xa0 := Lib.hid (Box.pcall hb Xa0.out)
  have Xb0 := Lib.hid (Box.pcall hb Xb0.out)
  have Xc0 := Lib.hid (Box.pcall hb Xc0.out)
  have Xd0 := Lib.hid (Box.pcall hb Xd0.out)
  have HB := Lib.hid (below_call HB.out hb)
  have Ht := Lib.hid ht
  clear hb ht
  obtain ⟨ca00, ca01, fa00, fa01⟩ := Xa0.out.c2
  have la0 := Xa0.out.lt
  obtain ⟨cb00, cb01, fb00, fb01⟩ := Xb0.out.c2
  have lb0 := Xb0.out.lt
  obtain ⟨cc00, cc01, fc00, fc01⟩ := Xc0.out.c2
  have lc0 := Xc0.out.lt
  obtain ⟨cd00, cd01, fd00, fd01⟩ := Xd0.out.c2
  have ld0 := Xd0.out.lt
  go_wp2
  clear ca00 ca01 fa00 fa01 la0 cb00 cb01 fb00 fb01 lb0 cc00 cc01 fc00 fc01 lc0 cd00 cd01 fd00 fd01 ld0
  obtain ⟨W5, hW⟩ : ∃ W5, W5 = (World.setCell (World.setCell w4 ⟨w.heap.size + 1 + 1, 0, none⟩ (.bool s_b)) ⟨w.heap.size + 1 + 1, 1, none⟩ (.slice s_a s_n s_c)) := ⟨_, rfl⟩
  rw [← hW]
  obtain ⟨xc0, hk, hf, hbb, hz⟩ := stored2s hW Xc0.out (by first | exact NoInt.bool _ | exact NoInt.slice _ _ _) (by first | exact NoInt.bool _ | exact NoInt.slice _ _ _)
  have Hs := Lib.hid (CL.keep Hs.out hk)
  have Ht := Lib.hid (CL.keep Ht.out hk)
  have Xa0 := Lib.hid (hf _ _ _ Xa0.out (by omega))
  have Xb0 := Lib.hid (hf _ _ _ Xb0.out (by omega))
  have Xc0 := Lib.hid xc0
  have Xd0 := Lib.hid (hf _ _ _ Xd0.out (by omega))
  have HB := Lib.hid (hbb _ HB.out Gc0.out)
  clear hW hk hf hbb xc0
  clear hz
  obtain ⟨W6, hW⟩ : ∃ W6, W6 = (World.setCell (World.setCell W5 ⟨w.heap.size + 1 + 1 + 1, 0, none⟩ (.bool t_b)) ⟨w.heap.size + 1 + 1 + 1, 1, none⟩ (.slice t_a t_n t_c)) := ⟨_, rfl⟩
  rw [← hW]
  obtain ⟨xd0, hk, hf, hbb, hz⟩ := stored2s hW Xd0.out (by first | exact NoInt.bool _ | exact NoInt.slice _ _ _) (by first | exact NoInt.bool _ | exact NoInt.slice _ _ _)
  have Hs := Lib.hid (CL.keep Hs.out hk)
  have Ht := Lib.hid (CL.keep Ht.out hk)
  have Xa0 := Lib.hid (hf _ _ _ Xa0.out (by omega))
  have Xb0 := Lib.hid (hf _ _ _ Xb0.out (by omega))
  have Xc0 := Lib.hid (hf _ _ _ Xc0.out (by omega))
  have Xd0 := Lib.hid xd0
  have HB := Lib.hid (hbb _ HB.out Gd0.out)
  clear hW hk hf hbb xd0
  clear hz
  exact ret_iie1 rfl rfl rfl rfl rfl Xc0.out Xd0.out ⟨_, _, rfl, CL.mono (CL.cast (idiv_P2 false (a := na) (b := nb) Hm.out).1 Hs.out) (by omega), CL.mono (CL.cast (idiv_P2 false (a := na) (b := nb) Hm.out).2 Ht.out) (by omega)⟩ HB.out


set_option maxRecDepth 100000 in
set_option maxHeartbeats 4000000 in
theorem ridm_P3_false {L M na nb : Nat} {sa sb : Value}  {w : World} (hz : 0 < nb) (hm : 0 < na % nb) (hna : Is na L w sa) (hnb : Is nb M w sb) (hL : L ≤ 100000) (hM : M ≤ 100000) :
    Calls Try.prog 108 #[.agg #[.bool true, sa], .agg #[.bool false, sb]] w (Ret w (CL2E (iv true na / iv false nb) (iv true na % iv false nb) (max L 1 + 1) (max L M) 0)) := by
  have Hna := Lib.hid hna
  have Hnb := Lib.hid hnb
  have Hz := Lib.hid hz
  have Hm := Lib.hid hm
  clear hna hnb hz hm
  go_enter Try.func108, Try.ntmps108
  have HB := Lib.hid (Below.refl w.heap.size w)
  go_wp2_with fail
  obtain ⟨W1, hW⟩ : ∃ W1, W1 = (World.alloc (World.alloc (World.alloc (World.alloc w (.cells #[.bool true, sa] 49)) (.cells #[.bool false, sb] 49)) (.cells #[.bool false, .slice none 0 0] 49)) (.cells #[.bool false, .slice none 0 0] 49)) := ⟨_, rfl⟩
  rw [← hW]
  obtain ⟨xa0, xb0, xc0, xd0, hk, hb⟩ := boxes_4 _ _ _ _ _ _ _ _ _ hW
  clear hW
  have Hna := Lib.hid (Is.keep Hna.out hk)
  have Hnb := Lib.hid (Is.keep Hnb.out hk)
  have Ga0 := Lib.hid (show w.heap.size ≤ w.heap.size from Nat.le_trans HB.out.size (by omega))
  have Gb0 := Lib.hid (show w.heap.size ≤ w.heap.size + 1 from Nat.le_trans HB.out.size (by omega))
  have Gc0 := Lib.hid (show w.heap.size ≤ w.heap.size + 1 + 1 from Nat.le_trans HB.out.size (by omega))
  have Gd0 := Lib.hid (show w.heap.size ≤ w.heap.size + 1 + 1 + 1 from Nat.le_trans HB.out.size (by omega))
  have Xa0 := Lib.hid xa0
  have Xb0 := Lib.hid xb0
  have Xc0 := Lib.hid xc0
  have Xd0 := Lib.hid xd0
  have HB := Lib.hid (below_call HB.out hb)
  clear hk hb xa0 xb0 xc0 xd0
  (first | (have hcall := rdivmod_rp Hz.out Hm.out Hna.out Hnb.out (by omega) (by omega); refine Calls.mono hcall ?_; clear hcall) | refine Calls.mono (rdivmod_rp Hz.out Hm.out Hna.out Hnb.out (by omega) (by omega)) ?_)
  rintro e w2 ⟨t2, rfl, ⟨v2, r_a, r_n, r_c, rfl, hq, hr, dr⟩, hb⟩
  have Hnb := Lib.hid (Is.keep Hnb.out (Keep.call hb))
  have Xa0 := Lib.hid (Box.pcall hb Xa0.out)
  have Xb0 := Lib.hid (Box.pcall hb Xb0.out)
  have Xc0 := Lib.hid (Box.pcall hb Xc0.out)
  have Xd0 := Lib.hid (Box.pcall hb Xd0.out)
  have HB := Lib.hid (below_call HB.out hb)
  have Hq := Lib.hid hq
  have Hr := Lib.hid hr
  clear hb hq hr
  obtain ⟨ca00, ca01, fa00, fa01⟩ := Xa0.out.c2
  have la0 := Xa0.out.lt
  obtain ⟨cb00, cb01, fb00, fb01⟩ := Xb0.out.c2
  have lb0 := Xb0.out.lt
  obtain ⟨cc00, cc01, fc00, fc01⟩ := Xc0.out.c2
  have lc0 := Xc0.out.lt
  obtain ⟨cd00, cd01, fd00, fd01⟩ := Xd0.out.c2
  have ld0 := Xd0.out.lt
  go_wp2_with fail
  clear ca00 ca01 fa00 fa01 la0 cb00 cb01 fb00 fb01 lb0 cc00 cc01 fc00 fc01 lc0 cd00 cd01 fd00 fd01 ld0
  obtain ⟨W3, hW⟩ : ∃ W3, W3 = (World.alloc w2 (.cells #[.int .u32 1] 99)) := ⟨_, rfl⟩
  rw [← hW]
  obtain ⟨xe0, hk, hb⟩ := boxes_1 _ _ _ hW
  clear hW
  have Hnb := Lib.hid (Is.keep Hnb.out hk)
  have Hq := Lib.hid (Can.keep Hq.out hk)
  have Hr := Lib.hid (Can.keep Hr.out hk)
  have Na0e0 := Lib.hid (show w.heap.size ≠ w2.heap.size from Nat.ne_of_lt (Nat.lt_of_lt_of_le Xa0.out.lt (by omega)))
  have Nb0e0 := Lib.hid (show w.heap.size + 1 ≠ w2.heap.size from Nat.ne_of_lt (Nat.lt_of_lt_of_le Xb0.out.lt (by omega)))
  have Nc0e0 := Lib.hid (show w.heap.size + 1 + 1 ≠ w2.heap.size from Nat.ne_of_lt (Nat.lt_of_lt_of_le Xc0.out.lt (by omega)))
  have Nd0e0 := Lib.hid (show w.heap.size + 1 + 1 + 1 ≠ w2.heap.size from Nat.ne_of_lt (Nat.lt_of_lt_of_le Xd0.out.lt (by omega)))
  have Ge0 := Lib.hid (show w.heap.size ≤ w2.heap.size from Nat.le_trans HB.out.size (by omega))
  have Xa0 := Lib.hid (Box.pcall hb Xa0.out)
  have Xb0 := Lib.hid (Box.pcall hb Xb0.out)
  have Xc0 := Lib.hid (Box.pcall hb Xc0.out)
  have Xd0 := Lib.hid (Box.pcall hb Xd0.out)
  have Xe0 := Lib.hid xe0
  have HB := Lib.hid (below_call HB.out hb)
  clear hk hb xe0
  (first | (have hcall := radd_is Hq.out.is (Is.ofbox Xe0.out) (by omega) (by omega); refine Calls.mono hcall ?_; clear hcall) | refine Calls.mono (radd_is Hq.out.is (Is.ofbox Xe0.out) (by omega) (by omega)) ?_)
  rintro e w4 ⟨v4, rfl, hp, hb⟩
  obtain ⟨p_a, p_n, p_c, rfl⟩ := hp.is.lit
  have Hnb := Lib.hid (Is.keep Hnb.out (Keep.call hb))
  have Hr := Lib.hid (Can.keep Hr.out (Keep.call hb))
  have Xa0 := Lib.hid (Box.pcall hb Xa0.out)
  have Xb0 := Lib.hid (Box.pcall hb Xb0.out)
  have Xc0 := Lib.hid (Box.pcall hb Xc0.out)
  have Xd0 := Lib.hid (Box.pcall hb Xd0.out)
  have Xe0 := Lib.hid (Box.pcall hb Xe0.out)
  have HB := Lib.hid (below_call HB.out hb)
  have Hp := Lib.hid hp
  clear hb hp
  obtain ⟨ca00, ca01, fa00, fa01⟩ := Xa0.out.c2
  have la0 := Xa0.out.lt
  obtain ⟨cb00, cb01, fb00, fb01⟩ := Xb0.out.c2
  have lb0 := Xb0.out.lt
  obtain ⟨cc00, cc01, fc00, fc01⟩ := Xc0.out.c2
  have lc0 := Xc0.out.lt
  obtain ⟨cd00, cd01, fd00, fd01⟩ := Xd0.out.c2
  have ld0 := Xd0.out.lt
  obtain ⟨ce00, fe00⟩ := Xe0.out.c1
  have le0 := Xe0.out.lt
  go_wp2_with fail
  clear ca00 ca01 fa00 fa01 la0 cb00 cb01 fb00 fb01 lb0 cc00 cc01 fc00 fc01 lc0 cd00 cd01 fd00 fd01 ld0 ce00 fe00 le0
  refine Calls.mono (rsub_is2 (subErr_le (Nat.le_of_lt (Nat.mod_lt _ Hz.out))) Hnb.out Hr.out.is (by omega)) ?_
  rintro e w5 ⟨t5, rfl, ⟨v5, rfl, hd⟩, hb⟩
  obtain ⟨d_a, d_n, d_c, rfl⟩ := hd.is.lit
  have Hp := Lib.hid (Can.keep Hp.out (Keep.call hb))
  have Xa0 := Lib.hid (Box.pcall hb Xa0.out)
  have Xb0 := Lib.hid (Box.pcall hb Xb0.out)
  have Xc0 := Lib.hid (Box.pcall hb Xc0.out)
  have Xd0 := Lib.hid (Box.pcall hb Xd0.out)
  have Xe0 := Lib.hid (Box.pcall hb Xe0.out)
  have HB := Lib.hid (below_call HB.out hb)
  have Hd := Lib.hid hd
  clear hb hd
  obtain ⟨ca00, ca01, fa00, fa01⟩ := Xa0.out.c2
  have la0 := Xa0.out.lt
  obtain ⟨cb00, cb01, fb00, fb01⟩ := Xb0.out.c2
  have lb0 := Xb0.out.lt
  obtain ⟨cc00, cc01, fc00, fc01⟩ := Xc0.out.c2
  have lc0 := Xc0.out.lt
  obtain ⟨cd00, cd01, fd00, fd01⟩ := Xd0.out.c2
  have ld0 := Xd0.out.lt
  obtain ⟨ce00, fe00⟩ := Xe0.out.c1
  have le0 := Xe0.out.lt
  go_wp2_with fail
  clear ca00 ca01 fa00 fa01 la0 cb00 cb01 fb00 fb01 lb0 cc00 cc01 fc00 fc01 lc0 cd00 cd01 fd00 fd01 ld0 ce00 fe00 le0
  (first | (have hcall := rimake_ai (neg := true) Hp.out.is; refine Calls.mono hcall ?_; clear hcall) | refine Calls.mono (rimake_ai (neg := true) Hp.out.is) ?_)
  rintro e w6 ⟨v6, rfl, hs, hb⟩
  obtain ⟨s_b, s_a, s_n, s_c, rfl⟩ := hs.litb
  have Hd := Lib.hid (Can.keep Hd.out (Keep.call hb))
  have Xa0 := Lib.hid (Box.pcall hb Xa0.out)
  have Xb0 := Lib.hid (Box.pcall hb Xb0.out)
  have Xc0 := Lib.hid (Box.pcall hb Xc0.out)
  have Xd0 := Lib.hid (Box.pcall hb Xd0.out)
  have Xe0 := Lib.hid (Box.pcall hb Xe0.out)
  have HB := Lib.hid (below_call HB.out hb)
  have Hs := Lib.hid hs
  clear hb hs
  obtain ⟨ca00, ca01, fa00, fa01⟩ := Xa0.out.c2
  have la0 := Xa0.out.lt
  obtain ⟨cb00, cb01, fb00, fb01⟩ := Xb0.out.c2
  have lb0 := Xb0.out.lt
  obtain ⟨cc00, cc01, fc00, fc01⟩ := Xc0.out.c2
  have lc0 := Xc0.out.lt
  obtain ⟨cd00, cd01, fd00, fd01⟩ := Xd0.out.c2
  have ld0 := Xd0.out.lt
  obtain ⟨ce00, fe00⟩ := Xe0.out.c1
  have le0 := Xe0.out.lt
  go_wp2_with fail
  clear ca00 ca01 fa00 fa01 la0 cb00 cb01 fb00 fb01 lb0 cc00 cc01 fc00 fc01 lc0 cd00 cd01 fd00 fd01 ld0 ce00 fe00 le0
  (first | (have hcall := rimake_ai (neg := false) Hd.out.is; refine Calls.mono hcall ?_; clear hcall) | refine Calls.mono (rimake_ai (neg := false) Hd.out.is) ?_)
  rintro e w7 ⟨v7, rfl, ht, hb⟩
  obtain ⟨t_b, t_a, t_n, t_c, rfl⟩ := ht.litb
  have Hs := Lib.hid (CL.keep Hs.out (Keep.call hb))
  have Xa0 := Lib.hid (Box.pcall hb Xa0.out)
  have Xb0 := Lib.hid (Box.pcall hb Xb0.out)
  have Xc0 := Lib.hid (Box.pcall hb Xc0.out)
  have Xd0 := Lib.hid (Box.pcall hb Xd0.out)
  have Xe0 := Lib.hid (Box.pcall hb Xe0.out)
  have HB := Lib.hid (below_call HB.out hb)
  have Ht := Lib.hid ht
  clear hb ht
  obtain ⟨ca00, ca01, fa00, fa01⟩ := Xa0.out.c2
  have la0 := Xa0.out.lt
  obtain ⟨cb00, cb01, fb00, fb01⟩ := Xb0.out.c2
  have lb0 := Xb0.out.lt
  obtain ⟨cc00, cc01, fc00, fc01⟩ := Xc0.out.c2
  have lc0 := Xc0.out.lt
  obtain ⟨cd00, cd01, fd00, fd01⟩ := Xd0.out.c2
  have ld0 := Xd0.out.lt
  obtain ⟨ce00, fe00⟩ := Xe0.out.c1
  have le0 := Xe0.out.lt
  go_wp2
  clear ca00 ca01 fa00 fa01 la0 cb00 cb01 fb00 fb01 lb0 cc00 cc01 fc00 fc01 lc0 cd00 cd01 fd00 fd01 ld0 ce00 fe00 le0
  obtain ⟨W8, hW⟩ : ∃ W8, W8 = (World.setCell (World.setCell w7 ⟨w.heap.size + 1 + 1, 0, none⟩ (.bool s_b)) ⟨w.heap.size + 1 + 1, 1, none⟩ (.slice s_a s_n s_c)) := ⟨_, rfl⟩
  rw [← hW]
  obtain ⟨xc0, hk, hf, hbb, hz⟩ := stored2s hW Xc0.out (by first | exact NoInt.bool _ | exact NoInt.slice _ _ _) (by first | exact NoInt.bool _ | exact NoInt.slice _ _ _)
  have Hs := Lib.hid (CL.keep Hs.out hk)
  have Ht := Lib.hid (CL.keep Ht.out hk)
  have Xa0 := Lib.hid (hf _ _ _ Xa0.out (by omega))
  have Xb0 := Lib.hid (hf _ _ _ Xb0.out (by omega))
  have Xc0 := Lib.hid xc0
  have Xd0 := Lib.hid (hf _ _ _ Xd0.out (by omega))
  have Xe0 := Lib.hid (hf _ _ _ Xe0.out Nc0e0.out.symm)
  have HB := Lib.hid (hbb _ HB.out Gc0.out)
  clear hW hk hf hbb xc0
  clear hz
  obtain ⟨W9, hW⟩ : ∃ W9, W9 = (World.setCell (World.setCell W8 ⟨w.heap.size + 1 + 1 + 1, 0, none⟩ (.bool t_b)) ⟨w.heap.size + 1 + 1 + 1, 1, none⟩ (.slice t_a t_n t_c)) := ⟨_, rfl⟩
  rw [← hW]
  obtain ⟨xd0, hk, hf, hbb, hz⟩ := stored2s hW Xd0.out (by first | exact NoInt.bool _ | exact NoInt.slice _ _ _) (by first | exact NoInt.bool _ | exact NoInt.slice _ _ _)
  have Hs := Lib.hid (CL.keep Hs.out hk)
  have Ht := Lib.hid (CL.keep Ht.out hk)
  have Xa0 := Lib.hid (hf _ _ _ Xa0.out (by omega))
  have Xb0 := Lib.hid (hf _ _ _ Xb0.out (by omega))
  have Xc0 := Lib.hid (hf _ _ _ Xc0.out (by omega))
  have Xd0 := Lib.hid xd0
  have Xe0 := Lib.hid (hf _ _ _ Xe0.out Nd0e0.out.symm)
  have HB := Lib.hid (hbb _ HB.out Gd0.out)
  clear hW hk hf hbb xd0
  clear hz
  exact ret_iie1 rfl rfl rfl rfl rfl Xc0.out Xd0.out ⟨_, _, rfl, CL.mono (CL.cast (idiv_P3 false (a := na) (b := nb) Hz.out Hm.out).1 Hs.out) (by omega), CL.mono (CL.cast (idiv_P3 false (a := na) (b := nb) Hz.out Hm.out).2 Ht.out) (by omega)⟩ HB.out


theorem ridivmod_ai {y z : Int} {L M : Nat} {u v : Value} {w : World} (hz : z ≠ 0) (h : AI y L w u) (h' : AI z M w v) (hL : L ≤ 100000) (hM : M ≤ 100000) :
    Calls Try.prog 108 #[u, v] w (Ret w (CL2E (y / z) (y % z) (max L 1 + 1) (max L M) 0)) := by
  obtain ⟨ba, sa, ma, rfl, ha, rfl⟩ := h
  obtain ⟨bb, sb, mb, rfl, hb, rfl⟩ := h'
  have h0 : 0 < mb := by
    rcases Nat.eq_zero_or_pos mb with rfl | h0
    · exact absurd (by cases bb <;> rfl) hz
    · exact h0
  cases ba
  · cases bb
    · exact ridm_P1_false h0 ha hb hL hM
    · exact ridm_P1_true h0 ha hb hL hM
  · rcases Nat.eq_zero_or_pos (ma % mb) with hm | hm <;> cases bb
    · exact ridm_P2_false h0 hm ha hb hL hM
    · exact ridm_P2_true h0 hm ha hb hL hM
    · exact ridm_P3_false h0 hm ha hb hL hM
    · exact ridm_P3_true h0 hm ha hb hL hM

set_option maxRecDepth 100000 in
set_option maxHeartbeats 4000000 in
theorem zfloor_p {L : Nat} {qa : Rat} {ba : Bool} {sa ta : Value} {w : World} (ha : AR qa L w (.agg #[.bool ba, sa, ta])) (hL : L ≤ 100000) :
    Calls Try.prog 91 #[.agg #[.bool ba, sa, ta]] w (Ret w (CL qa.floor (L + 3))) := by
  have Ha := Lib.hid ha
  clear ha
  go_enter Try.func91, Try.ntmps91
  have HB := Lib.hid (Below.refl w.heap.size w)
  go_wp2_with fail
  obtain ⟨W1, hW⟩ : ∃ W1, W1 = (World.alloc (World.alloc w (.cells #[.bool ba, sa, ta] 25)) (.cells #[.bool false, .slice none 0 0] 49)) := ⟨_, rfl⟩
  rw [← hW]
  obtain ⟨xa0, xb0, hk, hb⟩ := boxes_2 _ _ _ _ _ hW
  clear hW
  have Ha := Lib.hid (AR.keep Ha.out hk)
  have Ga0 := Lib.hid (show w.heap.size ≤ w.heap.size from Nat.le_trans HB.out.size (by omega))
  have Gb0 := Lib.hid (show w.heap.size ≤ w.heap.size + 1 from Nat.le_trans HB.out.size (by omega))
  have Xa0 := Lib.hid xa0
  have Xb0 := Lib.hid xb0
  have HB := Lib.hid (below_call HB.out hb)
  clear hk hb xa0 xb0
  have Ha := Lib.hid (AR.keep Ha.out (Keep.drew W1))
  have Xa0 := Lib.hid (Box.drew Xa0.out)
  have Xb0 := Lib.hid (Box.drew Xb0.out)
  have HB := Lib.hid (Below.drew HB.out)
  refine wp_region_float [] [⟨10, 3, 49, #[.bool false, .slice none 0 0]⟩, ⟨11, 4, 49, #[.bool false, .slice none 0 0]⟩] (by kernel_rfl) (by kernel_rfl) 17 (by kernel_rfl) (Flok.cons (Flok.one (by kernel_rfl) (by kernel_rfl) (by kernel_rfl) (by intro w; go_simp)) (Flok.one (by kernel_rfl) (by kernel_rfl) (by kernel_rfl) (by intro w; go_simp)) (by kernel_rfl)) ?_
  intro ok
  have Hok := Lib.hid ok
  clear ok
  have HG := Lib.hid (Below.refl (W1.drew).heap.size (W1.drew))
  refine good_pureX 0 (some 7) (Go.Op.load 25 (Go.Operand.tmp 1)) (none) (.agg #[.bool ba, sa, ta]) (by kernel_rfl) (by kernel_rfl) (by kernel_rfl) (fun _ _ _ h => h) (fun w' hw' => ?_) ?_
  · obtain ⟨ca00, ca01, ca02, fa00, fa01, fa02⟩ := (Box.se hw' Xa0.out notin0).c3
    first | (go_simp; done) | (go_simp; simp_all; done) | (go_simp; rfl)
  simp only [Act.put, List.setIfInBounds_toArray, List.set_cons_zero, List.set_cons_succ]
  refine good_pureX 2 (some 9) (Go.Op.load 25 (Go.Operand.tmp 1)) (none) (.agg #[.bool ba, sa, ta]) (by kernel_rfl) (by kernel_rfl) (by kernel_rfl) (fun _ _ _ h => h) (fun w' hw' => ?_) ?_
  · obtain ⟨ca00, ca01, ca02, fa00, fa01, fa02⟩ := (Box.se hw' Xa0.out notin0).c3
    first | (go_simp; done) | (go_simp; simp_all; done) | (go_simp; rfl)
  simp only [Act.put, List.setIfInBounds_toArray, List.set_cons_zero, List.set_cons_succ]
  refine good_callX 1 109 (some 8) #[Go.Operand.tmp 7] #[25] (none) #[.agg #[.bool ba, sa, ta]] (by kernel_rfl) Hok.out (by kernel_rfl) (by kernel_rfl) (by kernel_rfl) (by kernel_rfl) rfl rfl rfl (by kernel_rfl) (fun w2 hb => ?_)
  have HG := Lib.hid (below_call HG.out hb)
  clear hb
  (first | (have hcall := znum_ar (AR.keep Ha.out (Keep.call HG.out)) (by omega); refine Calls.mono hcall ?_; clear hcall) | refine Calls.mono (znum_ar (AR.keep Ha.out (Keep.call HG.out)) (by omega)) ?_)
  rintro e w3 ⟨v3, rfl, hn, hb⟩
  obtain ⟨n_b, n_a, n_n, n_c, rfl⟩ := hn.litb
  refine ⟨_, rfl, ?_, hb⟩
  have HG := Lib.hid (below_call HG.out hb)
  have Hn := Lib.hid hn
  clear hb hn
  simp only [Act.put, List.setIfInBounds_toArray, List.set_cons_zero, List.set_cons_succ]
  refine good_callX 3 110 (some 10) #[Go.Operand.tmp 9] #[25] (none) #[.agg #[.bool ba, sa, ta]] (by kernel_rfl) Hok.out (by kernel_rfl) (by kernel_rfl) (by kernel_rfl) (by kernel_rfl) rfl rfl rfl (by kernel_rfl) (fun w4 hb => ?_)
  have Hn := Lib.hid (CL.keep Hn.out (Keep.call hb))
  have HG := Lib.hid (below_call HG.out hb)
  clear hb
  (first | (have hcall := zden_ar (AR.keep Ha.out (Keep.call HG.out)) (by omega); refine Calls.mono hcall ?_; clear hcall) | refine Calls.mono (zden_ar (AR.keep Ha.out (Keep.call HG.out)) (by omega)) ?_)
  rintro e w5 ⟨v5, rfl, hd, hb⟩
  obtain ⟨d_a, d_n, d_c, rfl⟩ := hd.lit
  refine ⟨_, rfl, ?_, hb⟩
  have Hn := Lib.hid (CL.keep Hn.out (Keep.call hb))
  have HG := Lib.hid (below_call HG.out hb)
  have Hd := Lib.hid hd
  clear hb hd
  simp only [Act.put, List.setIfInBounds_toArray, List.set_cons_zero, List.set_cons_succ]
  refine good_pureX 4 (some 11) (Go.Op.build 49 #[(1, Go.Operand.tmp 10)]) (none) (.agg #[.bool false, .slice d_a d_n d_c]) (by kernel_rfl) (by kernel_rfl) (by kernel_rfl) (fun _ _ _ h => h) (fun w' hw' => ?_) ?_
  · first | (go_simp; done) | (go_simp; simp_all; done) | (go_simp; rfl)
  simp only [Act.put, List.setIfInBounds_toArray, List.set_cons_zero, List.set_cons_succ]
  refine good_callX 5 108 (some 12) #[Go.Operand.tmp 8, Go.Operand.tmp 11] #[49, 49] (none) #[.agg #[.bool n_b, .slice n_a n_n n_c], .agg #[.bool false, .slice d_a d_n d_c]] (by kernel_rfl) Hok.out (by kernel_rfl) (by kernel_rfl) (by kernel_rfl) (by kernel_rfl) rfl rfl rfl (by kernel_rfl) (fun w6 hb => ?_)
  have Hn := Lib.hid (CL.keep Hn.out (Keep.call hb))
  have Hd := Lib.hid (Is.keep Hd.out (Keep.call hb))
  have HG := Lib.hid (below_call HG.out hb)
  clear hb
  refine Calls.mono (ridivmod_ai (den_int_ne _) Hn.out.ai (AI.mk (n := false) Hd.out) (by omega) (by omega)) ?_
  rintro e w7 ⟨t7, rfl, ⟨v7, u7, rfl, hq, hr⟩, hb⟩
  obtain ⟨q_b, q_a, q_n, q_c, rfl⟩ := hq.litb
  obtain ⟨r_b, r_a, r_n, r_c, rfl⟩ := hr.litb
  refine ⟨_, rfl, ?_, hb⟩
  have HG := Lib.hid (below_call HG.out hb)
  have Hq := Lib.hid hq
  have Hr := Lib.hid hr
  clear hb hq hr
  simp only [Act.put, List.setIfInBounds_toArray, List.set_cons_zero, List.set_cons_succ]
  refine good_pureX 6 (some 6) (Go.Op.move (Go.Operand.tmp 12)) (none) (.tuple #[.agg #[.bool q_b, .slice q_a q_n q_c], .agg #[.bool r_b, .slice r_a r_n r_c], .int .i64 0]) (by kernel_rfl) (by kernel_rfl) (by kernel_rfl) (fun _ _ _ h => h) (fun w' hw' => ?_) ?_
  · first | (go_simp; done) | (go_simp; simp_all; done) | (go_simp; rfl)
  simp only [Act.put, List.setIfInBounds_toArray, List.set_cons_zero, List.set_cons_succ]
  refine good_pureX 7 (some 13) (Go.Op.extract (Go.Operand.tmp 6) 0) (none) (.agg #[.bool q_b, .slice q_a q_n q_c]) (by kernel_rfl) (by kernel_rfl) (by kernel_rfl) (fun _ _ _ h => h) (fun w' hw' => ?_) ?_
  · first | (go_simp; done) | (go_simp; simp_all; done) | (go_simp; rfl)
  simp only [Act.put, List.setIfInBounds_toArray, List.set_cons_zero, List.set_cons_succ]
  refine good_pureX 8 (some 14) (Go.Op.extract (Go.Operand.tmp 6) 1) (none) (.agg #[.bool r_b, .slice r_a r_n r_c]) (by kernel_rfl) (by kernel_rfl) (by kernel_rfl) (fun _ _ _ h => h) (fun w' hw' => ?_) ?_
  · first | (go_simp; done) | (go_simp; simp_all; done) | (go_simp; rfl)
  simp only [Act.put, List.setIfInBounds_toArray, List.set_cons_zero, List.set_cons_succ]
  refine good_pureX 9 (some 15) (Go.Op.extract (Go.Operand.tmp 6) 2) (none) (.int .i64 0) (by kernel_rfl) (by kernel_rfl) (by kernel_rfl) (fun _ _ _ h => h) (fun w' hw' => ?_) ?_
  · first | (go_simp; done) | (go_simp; simp_all; done) | (go_simp; rfl)
  simp only [Act.put, List.setIfInBounds_toArray, List.set_cons_zero, List.set_cons_succ]
  refine good_end2 3 Hok.out (by kernel_rfl) (by kernel_rfl) (by kernel_rfl) (by kernel_rfl) (by kernel_rfl) (fun _ gc0 gd0 w8 hb ec0 ed0 hne xc0 xd0 => ?_)
  have Hq := Lib.hid (CL.keep Hq.out (Keep.call hb))
  have HG := Lib.hid (below_call HG.out hb)
  clear hb
  have Na0c0 := Lib.hid (show w.heap.size ≠ gc0 from Nat.ne_of_lt (Nat.lt_of_lt_of_le Xa0.out.lt ec0))
  have Nb0c0 := Lib.hid (show w.heap.size + 1 ≠ gc0 from Nat.ne_of_lt (Nat.lt_of_lt_of_le Xb0.out.lt ec0))
  have Gc0 := Lib.hid (show w.heap.size ≤ gc0 from Nat.le_trans HB.out.size ec0)
  have Ec0 := Lib.hid ec0
  clear ec0
  have Na0d0 := Lib.hid (show w.heap.size ≠ gd0 from Nat.ne_of_lt (Nat.lt_of_lt_of_le Xa0.out.lt ed0))
  have Nb0d0 := Lib.hid (show w.heap.size + 1 ≠ gd0 from Nat.ne_of_lt (Nat.lt_of_lt_of_le Xb0.out.lt ed0))
  have Gd0 := Lib.hid (show w.heap.size ≤ gd0 from Nat.le_trans HB.out.size ed0)
  have Ed0 := Lib.hid ed0
  clear ed0
  have Xa0 := Lib.hid (Box.pcall HG.out Xa0.out)
  have Xb0 := Lib.hid (Box.pcall HG.out Xb0.out)
  have HB := Lib.hid (below_call HB.out HG.out)
  have HS := Lib.hid (SE.of (E := []) HG.out)
  have Nc0d0 := Lib.hid hne
  clear hne
  have Xc0 := Lib.hid xc0
  clear xc0
  have Xd0 := Lib.hid xd0
  clear xd0
  simp only [Act.put, List.setIfInBounds_toArray, List.set_cons_zero, List.set_cons_succ]
  refine held_oneX 12 (Go.Op.store 49 (Go.Operand.tmp 3) (Go.Operand.tmp 13)) (none) (World.setCell (World.setCell w8 ⟨gc0, 0, none⟩ (.bool q_b)) ⟨gc0, 1, none⟩ (.slice q_a q_n q_c)) (by kernel_rfl) (by kernel_rfl) (by kernel_rfl) (by kernel_rfl) ?_ (HS.out.store2 (.inr Ec0.out)) ?_
  · obtain ⟨cc00, cc01, fc00, fc01⟩ := Xc0.out.c2
    first | (go_simp; done) | (go_simp; simp_all; done) | (go_simp; rfl)
  obtain ⟨W9, hW⟩ : ∃ W9, W9 = (World.setCell (World.setCell w8 ⟨gc0, 0, none⟩ (.bool q_b)) ⟨gc0, 1, none⟩ (.slice q_a q_n q_c)) := ⟨_, rfl⟩
  rw [← hW]
  obtain ⟨xc0, hk, hf, hbb, hz⟩ := stored2s hW Xc0.out (by first | exact NoInt.bool _ | exact NoInt.slice _ _ _) (by first | exact NoInt.bool _ | exact NoInt.slice _ _ _)
  have Hq := Lib.hid (CL.keep Hq.out hk)
  have Xa0 := Lib.hid (hf _ _ _ Xa0.out Na0c0.out)
  have Xb0 := Lib.hid (hf _ _ _ Xb0.out Nb0c0.out)
  have Xc0 := Lib.hid xc0
  have Xd0 := Lib.hid (hf _ _ _ Xd0.out Nc0d0.out.symm)
  have HB := Lib.hid (hbb _ HB.out Gc0.out)
  have HS := Lib.hid (show SE (W1.drew) [] W9 from by rw [hW]; exact HS.out.store2 (.inr Ec0.out))
  clear hW hk hf hbb xc0
  clear hz
  refine held_oneX 13 (Go.Op.store 49 (Go.Operand.tmp 4) (Go.Operand.tmp 14)) (none) (World.setCell (World.setCell W9 ⟨gd0, 0, none⟩ (.bool r_b)) ⟨gd0, 1, none⟩ (.slice r_a r_n r_c)) (by kernel_rfl) (by kernel_rfl) (by kernel_rfl) (by kernel_rfl) ?_ (HS.out.store2 (.inr Ed0.out)) ?_
  · obtain ⟨cd00, cd01, fd00, fd01⟩ := Xd0.out.c2
    first | (go_simp; done) | (go_simp; simp_all; done) | (go_simp; rfl)
  obtain ⟨W10, hW⟩ : ∃ W10, W10 = (World.setCell (World.setCell W9 ⟨gd0, 0, none⟩ (.bool r_b)) ⟨gd0, 1, none⟩ (.slice r_a r_n r_c)) := ⟨_, rfl⟩
  rw [← hW]
  obtain ⟨xd0, hk, hf, hbb, hz⟩ := stored2s hW Xd0.out (by first | exact NoInt.bool _ | exact NoInt.slice _ _ _) (by first | exact NoInt.bool _ | exact NoInt.slice _ _ _)
  have Hq := Lib.hid (CL.keep Hq.out hk)
  have Xa0 := Lib.hid (hf _ _ _ Xa0.out Na0d0.out)
  have Xb0 := Lib.hid (hf _ _ _ Xb0.out Nb0d0.out)
  have Xc0 := Lib.hid (hf _ _ _ Xc0.out Nc0d0.out)
  have Xd0 := Lib.hid xd0
  have HB := Lib.hid (hbb _ HB.out Gd0.out)
  have HS := Lib.hid (show SE (W1.drew) [] W10 from by rw [hW]; exact HS.out.store2 (.inr Ed0.out))
  clear hW hk hf hbb xd0
  clear hz
  refine held_pureX 14 (some 5) (Go.Op.assign (Go.Operand.tmp 15)) (none) (.int .i64 0) (by kernel_rfl) (by kernel_rfl) (by kernel_rfl) (fun _ _ _ h => h) (fun w' => by first | (go_simp; done) | (go_simp; simp_all; done) | (go_simp; rfl)) HS.out ?_
  simp only [Act.put, List.setIfInBounds_toArray, List.set_cons_zero, List.set_cons_succ]
  refine wpAnyH_done (by kernel_rfl) ?_ _
  clear HG HS Hok Ec0 Ed0
  obtain ⟨ca00, ca01, ca02, fa00, fa01, fa02⟩ := Xa0.out.c3
  have la0 := Xa0.out.lt
  obtain ⟨cb00, cb01, fb00, fb01⟩ := Xb0.out.c2
  have lb0 := Xb0.out.lt
  obtain ⟨cc00, cc01, fc00, fc01⟩ := Xc0.out.c2
  have lc0 := Xc0.out.lt
  obtain ⟨cd00, cd01, fd00, fd01⟩ := Xd0.out.c2
  have ld0 := Xd0.out.lt
  go_wp2
  clear ca00 ca01 ca02 fa00 fa01 fa02 la0 cb00 cb01 fb00 fb01 lb0 cc00 cc01 fc00 fc01 lc0 cd00 cd01 fd00 fd01 ld0
  obtain ⟨W11, hW⟩ : ∃ W11, W11 = (World.setCell (World.setCell W10 ⟨w.heap.size + 1, 0, none⟩ (.bool q_b)) ⟨w.heap.size + 1, 1, none⟩ (.slice q_a q_n q_c)) := ⟨_, rfl⟩
  rw [← hW]
  obtain ⟨xb0, hk, hf, hbb, hz⟩ := stored2s hW Xb0.out (by first | exact NoInt.bool _ | exact NoInt.slice _ _ _) (by first | exact NoInt.bool _ | exact NoInt.slice _ _ _)
  have Hq := Lib.hid (CL.keep Hq.out hk)
  have Xa0 := Lib.hid (hf _ _ _ Xa0.out (by omega))
  have Xb0 := Lib.hid xb0
  have Xc0 := Lib.hid (hf _ _ _ Xc0.out Nb0c0.out.symm)
  have Xd0 := Lib.hid (hf _ _ _ Xd0.out Nb0d0.out.symm)
  have HB := Lib.hid (hbb _ HB.out Gb0.out)
  clear hW hk hf hbb xb0
  clear hz
  exact ret_int1 rfl rfl rfl Xb0.out (CL.mono (CL.cast (floor_den _) Hq.out) (by omega)) HB.out


theorem zfloor_ar {q : Rat} {L : Nat} {v : Value} {w : World} (h : AR q L w v) (hL : L ≤ 100000) : Calls Try.prog 91 #[v] w (Ret w (CL q.floor (L + 3))) := by
  obtain ⟨b, s, t, rfl⟩ := h.agg
  exact zfloor_p h hL

end Go.Proofs.Ytfffehmkohcgcaa
namespace Go.Proofs.Ytfffehmkohcgcaa
open Go.RowKit Nt
set_option linter.unusedVariables false

theorem add_int (t : Rat) (f : Int) : (t + (f : Rat)).num = t.num + f * t.den ∧ (t + (f : Rat)).den = t.den := by
  have hc : (t.num + f * t.den).natAbs.Coprime t.den := by
    have h1 : t.num.gcd (t.den : Int) = 1 := t.reduced
    have h2 : (t.num + f * t.den).gcd (t.den : Int) = 1 := by rw [Int.gcd_add_mul_right_left]; exact h1
    exact h2
  have h : t + (f : Rat) = ⟨t.num + f * t.den, t.den, t.den_nz, hc⟩ := by
    rw [Rat.mk_eq_mkRat]
    have h1 : (f : Rat) = mkRat f 1 := by rw [mkRat_one]
    rw [h1]
    conv => lhs; rw [← Rat.mkRat_self t]
    rw [Rat.mkRat_add_mkRat _ _ t.den_nz (by decide)]
    simp
  rw [h]
  exact ⟨rfl, rfl⟩
theorem sub_int (t : Rat) (f : Int) : (t - (f : Rat)).num = t.num - f * t.den ∧ (t - (f : Rat)).den = t.den := by
  have h := add_int t (-f)
  rw [Rat.intCast_neg, ← Rat.sub_eq_add_neg] at h
  refine ⟨by rw [h.1, Int.neg_mul]; omega, h.2⟩
theorem num_pos' {t : Rat} (h : 0 < t) : 0 < t.num := by
  rw [Rat.lt_iff] at h
  simpa using h
theorem one_div_parts {t : Rat} (h : 0 < t) : (1 / t).num = t.den ∧ (1 / t).den = t.num.natAbs ∧ 0 < 1 / t := by
  have hp := num_pos' h
  have e : 1 / t = t⁻¹ := by rw [Rat.div_def, Rat.one_mul]
  rw [e]
  refine ⟨by rw [Rat.num_inv, Int.sign_eq_one_of_pos hp]; omega, by rw [Rat.den_inv, if_neg (by omega)], Rat.inv_pos.2 h⟩
theorem floor_bd (t : Rat) : (t.floor : Rat) ≤ t ∧ t < (t.floor : Rat) + 1 := by
  refine ⟨Rat.floor_le t, ?_⟩
  have := @Rat.lt_floor t
  grind
theorem floor_nn {t : Rat} (h : 0 < t) : 0 ≤ t.floor := by
  rw [Rat.le_floor_iff]
  exact Rat.le_of_lt h
theorem lt_le' {a b c : Rat} (h : a < b) (h' : b ≤ c) : a < c := by grind
theorem le_num {a b : Rat} (h : a ≤ b) : a.num * b.den ≤ b.num * a.den := (Rat.le_iff a b).1 h
theorem lt_num {a b : Rat} (h : a < b) : a.num * b.den < b.num * a.den := (Rat.lt_iff a b).1 h

/-- The simplest number from lo to hi, both positive; n rounds at most. -/
def spl : Nat → Rat → Rat → Rat
  | 0, lo, _ => lo
  | n + 1, lo, hi => if (lo.floor : Rat) = lo then (lo.floor : Rat) else if (lo.floor : Rat) + 1 ≤ hi then (lo.floor : Rat) + 1 else
      (lo.floor : Rat) + 1 / spl n (1 / (hi - (lo.floor : Rat))) (1 / (lo - (lo.floor : Rat)))

/-- The state of the descent when neither the floor nor the next integer serves. -/
structure Down (lo hi : Rat) : Prop where
  f0 : 0 ≤ lo.floor
  a : 0 < hi - (lo.floor : Rat)
  b : 0 < lo - (lo.floor : Rat)
  le : lo - (lo.floor : Rat) ≤ hi - (lo.floor : Rat)
  a1 : (hi - (lo.floor : Rat)).num < hi.den
  b1 : (lo - (lo.floor : Rat)).num < lo.den
  ad : (hi - (lo.floor : Rat)).den = hi.den
  bd : (lo - (lo.floor : Rat)).den = lo.den
theorem Down.mk' {lo hi : Rat} (h0 : 0 < lo) (h : lo ≤ hi) (h1 : (lo.floor : Rat) ≠ lo) (h2 : ¬ (lo.floor : Rat) + 1 ≤ hi) : Down lo hi := by
  have hb := floor_bd lo
  have hlt : (lo.floor : Rat) < lo := by
    rcases Rat.le_iff_lt_or_eq.1 hb.1 with h3 | h3
    · exact h3
    · exact absurd h3 h1
  have key : ∀ t : Rat, 0 < t - (lo.floor : Rat) → t - (lo.floor : Rat) < 1 → (t - (lo.floor : Rat)).num < t.den := by
    intro t _ ht
    have := lt_num ht
    rw [← (sub_int t lo.floor).2]
    simpa using this
  have ha : 0 < hi - (lo.floor : Rat) := by grind
  have hb' : 0 < lo - (lo.floor : Rat) := by grind
  exact ⟨floor_nn h0, ha, hb', by grind, key hi ha (by grind), key lo hb' (by grind), (sub_int _ _).2, (sub_int _ _).2⟩
theorem one_div_le {a b : Rat} (h : 0 < a) (h' : a ≤ b) : 1 / b ≤ 1 / a := by
  have hb : 0 < b := by grind
  have h1 := one_div_parts h
  have h2 := one_div_parts hb
  have p1 := num_pos' h
  have p2 := num_pos' hb
  rw [Rat.le_iff, h1.1, h1.2.1, h2.1, h2.2.1]
  have := le_num h'
  rw [show ((a.num.natAbs : Nat) : Int) = a.num by omega, show ((b.num.natAbs : Nat) : Int) = b.num by omega]
  rw [Int.mul_comm (b.den : Int), Int.mul_comm (a.den : Int)]
  exact this
theorem one_div_one_div (t : Rat) : 1 / (1 / t) = t := by
  rw [Rat.div_def, Rat.div_def, Rat.one_mul, Rat.one_mul, Rat.inv_inv]
theorem Down.sum {lo hi : Rat} (d : Down lo hi) : (1 / (hi - (lo.floor : Rat))).den + (1 / (lo - (lo.floor : Rat))).den < lo.den + hi.den := by
  rw [(one_div_parts d.a).2.1, (one_div_parts d.b).2.1]
  have := d.a1; have := d.b1; have := num_pos' d.a; have := num_pos' d.b
  omega
theorem Down.inv {lo hi : Rat} (d : Down lo hi) : 0 < 1 / (hi - (lo.floor : Rat)) ∧ 1 / (hi - (lo.floor : Rat)) ≤ 1 / (lo - (lo.floor : Rat)) :=
  ⟨(one_div_parts d.a).2.2, one_div_le d.b d.le⟩

/-- A number between lo and hi, by the inverse of its fraction. -/
theorem back {y : Rat} (f : Int) (h : 0 < y) : ((f : Rat) + 1 / y).den = y.num.natAbs ∧ ((f : Rat) + 1 / y).num = y.den + f * y.num := by
  have h1 := one_div_parts h
  have h2 := add_int (1 / y) f
  have hp := num_pos' h
  rw [Rat.add_comm, h2.1, h2.2, h1.1, h1.2.1]
  exact ⟨rfl, by rw [show ((y.num.natAbs : Nat) : Int) = y.num by omega]⟩

theorem spl_spec : ∀ (n : Nat) (lo hi : Rat), 0 < lo → lo ≤ hi → lo.den + hi.den ≤ n →
    lo ≤ spl n lo hi ∧ spl n lo hi ≤ hi ∧ ∀ x, lo ≤ x → x ≤ hi → (spl n lo hi).den ≤ x.den ∧ (spl n lo hi).num ≤ x.num := by
  intro n
  induction n with
  | zero => intro lo hi _ _ h; have := lo.den_pos; omega
  | succ n ih =>
    intro lo hi h0 h hn
    have hb := floor_bd lo
    have hf := floor_nn h0
    rw [spl]
    split
    · rename_i h1
      rw [h1]
      refine ⟨Rat.le_refl, h, fun x hx _ => ?_⟩
      have e1 : lo.den = 1 := by rw [← h1]; rfl
      have e2 := le_num hx
      have e3 := x.den_pos
      have e4 := num_pos' h0
      rw [e1] at e2 ⊢
      refine ⟨e3, ?_⟩
      have : lo.num * 1 ≤ lo.num * (x.den : Int) := Int.mul_le_mul_of_nonneg_left (by omega) (by omega)
      omega
    · rename_i h1
      split
      · rename_i h2
        refine ⟨by grind, h2, fun x hx _ => ?_⟩
        have e : (lo.floor : Rat) + 1 = ((lo.floor + 1 : Int) : Rat) := by rw [Rat.intCast_add]; rfl
        have hlt : (lo.floor : Rat) < x := by
          rcases Rat.le_iff_lt_or_eq.1 hb.1 with h3 | h3
          · exact lt_le' h3 hx
          · exact absurd h3 h1
        have e2 := lt_num hlt
        have e3 := x.den_pos
        rw [e]
        simp only [Rat.num_intCast, Rat.den_intCast] at e2 ⊢
        refine ⟨e3, ?_⟩
        have : lo.floor * 1 ≤ lo.floor * (x.den : Int) := Int.mul_le_mul_of_nonneg_left (by omega) hf
        omega
      · rename_i h2
        have d := Down.mk' h0 h h1 h2
        have hs := d.sum
        have hr := d.inv
        obtain ⟨i1, i2, i3⟩ := ih _ _ hr.1 hr.2 (by omega)
        have sp : 0 < spl n (1 / (hi - (lo.floor : Rat))) (1 / (lo - (lo.floor : Rat))) := lt_le' hr.1 i1
        generalize hsp : spl n (1 / (hi - (lo.floor : Rat))) (1 / (lo - (lo.floor : Rat))) = s at *
        have k1 := one_div_le hr.1 i1
        have k2 := one_div_le sp i2
        rw [one_div_one_div] at k1 k2
        refine ⟨by grind, by grind, fun x hx hx' => ?_⟩
        have hxp : 0 < x - (lo.floor : Rat) := by have := d.b; grind
        have y := i3 (1 / (x - (lo.floor : Rat))) (one_div_le hxp (by grind)) (one_div_le d.b (by grind))
        have yp := (one_div_parts hxp).2.2
        have bs := back lo.floor sp
        have bx := back lo.floor yp
        rw [one_div_one_div, show (lo.floor : Rat) + (x - (lo.floor : Rat)) = x by grind] at bx
        have p1 := num_pos' sp
        have p2 := num_pos' yp
        rw [bs.1, bs.2, bx.1, bx.2]
        refine ⟨by omega, ?_⟩
        have := Int.mul_le_mul_of_nonneg_left y.2 hf
        omega

theorem spl_pos {n : Nat} {lo hi : Rat} (h0 : 0 < lo) (h : lo ≤ hi) (hn : lo.den + hi.den ≤ n) : 0 < spl n lo hi := lt_le' h0 (spl_spec n lo hi h0 h hn).1
theorem spl_sm {n L : Nat} {lo hi : Rat} (h0 : 0 < lo) (h : lo ≤ hi) (hn : lo.den + hi.den ≤ n) (hs : Sm L lo) : Sm L (spl n lo hi) := by
  have h1 := (spl_spec n lo hi h0 h hn).2.2 lo Rat.le_refl h
  have h2 := num_pos' h0
  have h3 := num_pos' (spl_pos h0 h hn)
  exact ⟨Nat.le_trans (sz_mono (by omega)) hs.1, Nat.le_trans (sz_mono h1.1) hs.2⟩
theorem Down.sm {L : Nat} {lo hi : Rat} (d : Down lo hi) (h : Sm L lo) (h' : Sm L hi) : Sm L (1 / (hi - (lo.floor : Rat))) ∧ Sm L (1 / (lo - (lo.floor : Rat))) := by
  have h1 := one_div_parts d.a
  have h2 := one_div_parts d.b
  have a1 := d.a1; have b1 := d.b1; have p1 := num_pos' d.a; have p2 := num_pos' d.b
  unfold Sm at *
  rw [h1.1, h1.2.1, h2.1, h2.2.1, d.ad, d.bd]
  simp only [Int.natAbs_natCast]
  exact ⟨⟨h'.2, Nat.le_trans (sz_mono (by omega)) h'.2⟩, ⟨h.2, Nat.le_trans (sz_mono (by omega)) h.2⟩⟩
theorem spl_down {n : Nat} {lo hi : Rat} (h1 : (lo.floor : Rat) ≠ lo) (h2 : ¬ (lo.floor : Rat) + 1 ≤ hi) : spl (n + 1) lo hi = (lo.floor : Rat) + 1 / spl n (1 / (hi - (lo.floor : Rat))) (1 / (lo - (lo.floor : Rat))) := by
  rw [spl, if_neg h1, if_neg h2]
end Go.Proofs.Ytfffehmkohcgcaa
namespace Go.Proofs.Ytfffehmkohcgcaa
open Go.RowKit Nt
set_option linter.unusedVariables false

theorem rof_one {w : World} : Calls Try.prog 34 #[.int .i64 1] w (Ret w (CR 1 2)) := of_rat (x := 1) (by decide) (by decide)
theorem zof_one {w : World} : Calls Try.prog 51 #[.int .i64 1] w (Ret w (CR 1 2)) := zof (x := 1) (by decide) (by decide)
theorem cmpQ_self (a : Rat) : cmpQ a a = 0 := by unfold cmpQ; rw [Rat.sub_self]; rfl
theorem cmpQ_zero {a b : Rat} : cmpQ a b = 0 ↔ a = b := by
  refine ⟨fun h => Rat.le_antisymm (cmpQ_le.1 (by omega)) (cmpQ_ge.1 (by omega)), fun h => h ▸ cmpQ_self a⟩
theorem AR.smL {q : Rat} {L : Nat} {w : World} {v : Value} (h : AR q L w v) (hL : 1 ≤ L) : Sm L q := h.sm.mono (by omega)

end Go.Proofs.Ytfffehmkohcgcaa
namespace Go.Proofs.Ytfffehmkohcgcaa
open Go.RowKit Nt
set_option linter.unusedVariables false

theorem sign_le {q : Rat} : q.num.sign ≤ 0 ↔ q ≤ 0 := by
  have h := @cmpQ_le q 0
  unfold cmpQ at h
  rwa [show q - 0 = q by grind] at h
theorem sign_ge {q : Rat} : 0 ≤ q.num.sign ↔ 0 ≤ q := by
  have h := @cmpQ_ge q 0
  unfold cmpQ at h
  rwa [show q - 0 = q by grind] at h
/-- The simplest number from lo to hi. -/
def smp (lo hi : Rat) : Rat := if lo ≤ 0 ∧ 0 ≤ hi then 0 else if hi < 0 then -(spl ((-hi).den + (-lo).den) (-hi) (-lo)) else spl (lo.den + hi.den) lo hi

end Go.Proofs.Ytfffehmkohcgcaa
namespace Go.Proofs.Ytfffehmkohcgcaa
open Go.RowKit Nt
set_option linter.unusedVariables false

end Go.Proofs.Ytfffehmkohcgcaa
namespace Go.Proofs.Ytfffehmkohcgcaa
open Go.RowKit Go.ChangeShapes Go.WideShapes Nt

theorem row_of_read {H : Type} {enc : TypeId × Value → H} {w : World} {base : Nat} {held : Bool} {fuel : Nat} {c : Value} {y : DataW H × List MemPlace}
    (h : DataW.trod enc Try.prog w base (fun _ => true) held fuel 23 [c] = some y) : ∃ a n k, c = .slice a n k ∧ Row w (.slice a n k) n := by
  rcases open_ints Try.underlying23 Try.underlying99 (by kernel_rfl) h with ⟨hcs, _⟩ | ⟨x, l, c', zs, hcs, _, hl, hm, hz, _, hcell, hwz⟩
  · injection hcs with h1 _
    subst h1
    exact ⟨_, _, _, rfl, fun hn => is_of_row hn (Or.inl ⟨rfl, rfl, rfl, rfl⟩)⟩
  · injection hcs with h1 _
    subst h1
    exact ⟨_, _, _, rfl, fun hn => is_of_row hn (Or.inr ⟨x, rfl, hl, hm, by simpa using hz, hcell, hwz⟩)⟩

set_option maxRecDepth 100000 in
theorem open_Int {H : Type} {enc : TypeId × Value → H} {w : World} {base : Nat} {held : Bool} {r : Reach} {b0 : Nat} {v : Value} {d : DataW H} {p : List MemPlace}
    (hv : Value.okWide Try.prog w r b0 49 v) (h : DataW.Trod enc Try.prog w base (fun _ => true) held 49 v d p) :
    ∃ b a n c, v = .agg #[.bool b, .slice a n c] ∧ Row w (.slice a n c) n := by
  obtain ⟨v0, v1, y0, y1, m, rfl, -, -, h0, h1⟩ := Joins.open_agg2 Try.underlying49 (by kernel_rfl) (by kernel_rfl) hv h
  obtain ⟨b, e0, -⟩ := DataW.trod_bool (t := 4) Try.underlying4 h0
  obtain ⟨a, n, c, rfl, hr⟩ := row_of_read h1
  injection e0 with e0 _
  subst e0
  exact ⟨b, a, n, c, rfl, hr⟩
set_option maxRecDepth 100000 in
theorem open_Rat {H : Type} {enc : TypeId × Value → H} {w : World} {base : Nat} {held : Bool} {r : Reach} {b0 : Nat} {v : Value} {d : DataW H} {p : List MemPlace}
    (hv : Value.okWide Try.prog w r b0 25 v) (h : DataW.Trod enc Try.prog w base (fun _ => true) held 25 v d p) :
    ∃ b a n c d m e, v = .agg #[.bool b, .slice a n c, .slice d m e] ∧ Row w (.slice a n c) n ∧ Row w (.slice d m e) m := by
  obtain ⟨v0, v1, v2, y0, y1, y2, m, rfl, -, -, h0, h1, h2⟩ := Joins.open_agg3 Try.underlying25 (by kernel_rfl) (by kernel_rfl) hv h
  obtain ⟨b, e0, -⟩ := DataW.trod_bool (t := 4) Try.underlying4 h0
  obtain ⟨a, n, c, rfl, hr⟩ := row_of_read h1
  obtain ⟨a', n', c', rfl, hr'⟩ := row_of_read h2
  injection e0 with e0 _
  subst e0
  exact ⟨b, a, n, c, a', n', c', rfl, hr, hr'⟩
theorem wf_i64 {n : Int} (h : (Lit.int .i64 n).wf = true) : -9223372036854775808 ≤ n ∧ n < 9223372036854775808 := by
  simp [Lit.wf, IntKind.min, IntKind.max, IntKind.signed, IntKind.bits] at h
  omega
theorem wf_u16 {n : Int} (h : (Lit.int .u16 n).wf = true) : 0 ≤ n ∧ n < 65536 := by
  simp [Lit.wf, IntKind.min, IntKind.max, IntKind.signed, IntKind.bits] at h
  omega
theorem Row.aiR {w : World} {b : Bool} {a : Option Addr} {n c : Nat} (h : Row w (.slice a n c) n) (L : Nat) (hn : n ≤ L) (hL : L ≤ 1099511627776) : ∃ z, AI z L w (.agg #[.bool b, .slice a n c]) := by
  obtain ⟨X, hX⟩ := h.is L hn hL
  exact ⟨_, AI.mk hX⟩
theorem Row.ar {w : World} {b : Bool} {a d : Option Addr} {n c m e : Nat} (h : Row w (.slice a n c) n) (h' : Row w (.slice d m e) m) (L : Nat) (hn : n ≤ L) (hm : m ≤ L) (hL : L ≤ 1099511627776) :
    ∃ q, AR q L w (.agg #[.bool b, .slice a n c, .slice d m e]) := by
  obtain ⟨X, hX⟩ := h.is L hn hL
  obtain ⟨Y, hY⟩ := h'.is L hm hL
  exact ⟨_, AR.mk hX hY⟩
end Go.Proofs.Ytfffehmkohcgcaa
