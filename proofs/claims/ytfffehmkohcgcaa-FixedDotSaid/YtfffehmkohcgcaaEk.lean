/- Texts FixI FixJ FixK, in this order. -/
import Derived.Test.YtfffehmkohcgcaaEj
namespace Go.Proofs.Ytfffehmkohcgcaa
open Go.RowKit Nt
set_option linter.unusedVariables false
section
variable {P : Program} {md : Region.Mode} {ops : Array Oper} {Q : Exit → Act → World → Prop} {L : Array Bool} {a : Act} {w : World}
/-- A reading and a call of a Go function may come up, and no other. -/
theorem held_twoX {S : World → Prop} {m : Nat} (i : Nat) (d : Option Tmp) (op : Op) (g : Option (Nat × Bool)) (v : Value) (i' f : Nat) (d' : Option Tmp) (x : Array Operand) (tys : Array TypeId) (g' : Option (Nat × Bool)) (args : Array Value)
    (hi : parts ops i = some (d, op, g)) (hp : plainOp op = true) (htwo : Region.ready md ops L = [i, i']) (hw : Region.wanted (bare d op g) (yielded ops a.tmps) = true)
    (hrun : (execOp a.eval { dst := d, op := op, type := 0, pos := "", after := #[], guard := g }).run P w = .ok (.value v) w) (hS : S w)
    (hi' : parts ops i' = some (d', Op.call { callee := Callee.value (Operand.func f), args := x, argTypes := tys }, g'))
    (hw' : Region.wanted (bare d' (Op.call { callee := Callee.value (Operand.func f), args := x, argTypes := tys }) g') (yielded ops a.tmps) = true)
    {fn : Func} {c : Code} (hf : P.funcs[f]? = some fn) (hname : (fn.name == "runtime.NumGoroutine") = false) (hb : fn.body = some c) (hargs : x.map a.eval = args)
    (h : wpAnyH P md ops Q S m (L.setIfInBounds i true) (a.put d v) w)
    (hcall : Calls P f args w fun e w2 => ∃ v, e = .returned v ∧ S w2 ∧ wpAnyH P md ops Q S m (L.setIfInBounds i' true) (a.put d' v) w2) : wpAnyH P md ops Q S (m + 1) L a w := by
  obtain ⟨o, ho, rfl, rfl, rfl⟩ := parts_some hi
  obtain ⟨o', ho', rfl, h2, rfl⟩ := parts_some hi'
  refine ⟨fun h0 => (by rw [htwo] at h0; cases h0), fun j hj => ?_⟩
  rw [htwo] at hj
  rcases List.mem_cons.1 hj with rfl | hj
  · unfold Go.wpOp
    simp only [ho]
    rw [if_pos (by rw [← wanted_bare]; exact hw)]
    refine .inl ?_
    have hrun : (execOp a.eval (bare o.dst o.op o.guard)).run P w = .ok (.value v) w := hrun
    rw [← exec_bare hp] at hrun
    simp only [Oper.wp, hrun, Oper.upon]
    exact ⟨hS, h⟩
  · rw [List.mem_singleton.1 hj]
    unfold Go.wpOp
    simp only [ho']
    rw [← h2] at hw'
    rw [if_pos (by rw [← wanted_bare]; exact hw')]
    refine .inl ?_
    have e : (execOp a.eval o').run P w = .ok (.enter f args) w := by
      rw [parts_exec h2, hargs]
      simpa using run_enter hf hname hb args w
    have key : o'.upon P a (fun a1 w1 => S w1 ∧ wpAnyH P md ops Q S m (L.setIfInBounds i' true) a1 w1) Q (.ok (.enter f args) w) := by
      rw [Oper.upon_enter]
      refine hcall.mono ?_
      rintro e w2 ⟨v, rfl, h1, h2⟩
      exact ⟨h1, h2⟩
    simp only [Oper.wp, e]
    exact key
end
theorem sm_dots {z : Int} {n : Nat} {xs ys : List Int} (hx : ∀ z ∈ xs, -9223372036854775808 ≤ z ∧ z < 9223372036854775808) (hy : ∀ z ∈ ys, -9223372036854775808 ≤ z ∧ z < 9223372036854775808) (h1 : -9223372036854775808 ≤ z) (h2 : z < 9223372036854775808) (hn : n ≤ 1099511627776) : Sm 6 ((z + dots xs ys n : Int) : Rat) := by
  refine sm_int (sz_le ?_) (by decide)
  have h := dots_bd hx hy n
  have h3 : (4294967296 : Nat) ^ 6 = 6277101735386680763835789423207666416102355444464034512896 := by decide
  rw [h3]
  omega
theorem dots_step (xs ys : List Int) (z : Int) (j : Nat) {x y : Int} (hx : x = xs.getD j 0) (hy : y = ys.getD j 0) : ((z + dots xs ys j : Int) : Rat) + (x : Rat) * (y : Rat) = ((z + dots xs ys (j + 1) : Int) : Rat) := by
  subst hx hy
  rw [← Rat.intCast_mul, ← Rat.intCast_add]
  congr 1
  show z + dots xs ys j + _ = z + (dots xs ys j + _)
  omega

set_option maxRecDepth 100000 in
set_option maxHeartbeats 4000000 in
theorem zdot_t {pu pv : Option Addr} {n cu cv : Nat} {xs ys : List Int} {z a e : Int} {w : World} (hu : Si w (.slice pu n cu) xs) (hv : Si w (.slice pv n cv) ys) (hz1 : -9223372036854775808 ≤ z) (hz2 : z < 9223372036854775808) (hf : RV ((z + dots xs ys n : Int) : Rat) = (a, e)) :
    Calls Try.prog 21 #[.slice pu n cu, .slice pv n cv, .int .i64 z] w (Ret w (Val (.tuple #[.int .i64 a, .int .i64 e]))) := by
  have Hf := Lib.hid hf
  clear hf
  obtain ⟨_, _, _, he, hxl, hxm, hxb, hxc⟩ := hu
  injection he with e1 e2 e3
  subst e1 e2 e3
  obtain ⟨_, _, _, he, hyl, hym, hyb, hyc⟩ := hv
  injection he with e1 e2 e3
  subst e1 e2 e3
  have Hz1 := Lib.hid hz1
  have Hz2 := Lib.hid hz2
  have Hxb := Lib.hid hxb
  have Hyb := Lib.hid hyb
  have Hxc := Lib.hid hxc
  have Hyc := Lib.hid hyc
  clear hz1 hz2 hxb hyb hxc hyc
  go_enter Try.func21, Try.ntmps21
  have HB := Lib.hid (Below.refl w.heap.size w)
  go_wp2_with fail
  refine Calls.mono (zwhole51 Hz1.out Hz2.out) ?_
  rintro e w1 ⟨v1, rfl, ho, hb⟩
  obtain ⟨o_b, o_a, o_n, o_c, o_d, o_m, o_e, rfl⟩ := ho.litb
  have HB := Lib.hid (below_call HB.out hb)
  have Ho := Lib.hid ho
  clear hb ho
  go_wp2
  obtain ⟨W2, hW⟩ : ∃ W2, W2 = (World.alloc w1 (.cells #[.bool o_b, .slice o_a o_n o_c, .slice o_d o_m o_e] 25)) := ⟨_, rfl⟩
  rw [← hW]
  obtain ⟨xa0, hk, hb⟩ := boxes_1 _ _ _ hW
  clear hW
  have Ho := Lib.hid (CR.keep Ho.out hk)
  have Ga0 := Lib.hid (show w.heap.size ≤ w1.heap.size from Nat.le_trans HB.out.size (by omega))
  have Xa0 := Lib.hid xa0
  have HB := Lib.hid (below_call HB.out hb)
  clear hk hb xa0
  obtain ⟨g, hg⟩ : ∃ g : Nat, g = w1.heap.size := ⟨_, rfl⟩
  rw [← hg] at Xa0
  have Gg := Lib.hid (show w.heap.size ≤ g by rw [hg]; exact Ga0.out)
  simp only [← hg]
  clear hg
  go_loopw [9] (fun i wr => ∃ j : Nat, ∃ p_b p_a p_n p_c p_d p_m p_e, j ≤ n ∧ i = .int .i64 ((j : Nat) : Int) ∧ Box wr g 25 #[.bool p_b, .slice p_a p_n p_c, .slice p_d p_m p_e] ∧ CR ((z + dots xs ys j : Int) : Rat) 6 wr (.agg #[.bool p_b, .slice p_a p_n p_c, .slice p_d p_m p_e]) ∧ Below w.heap.size w wr) (fun i _ => n - (intOf i).toNat)
  case atStart => exact ⟨0, _, _, _, _, _, _, _, Nat.zero_le _, rfl, Xa0.out, CR.mono (CR.cast (by show (z : Rat) = ((z + 0 : Int) : Rat); rw [Int.add_zero]) Ho.out) (by decide), HB.out⟩
  case round =>
    clear HB Xa0 Ho
    obtain ⟨j, p_b, p_a, p_n, p_c, p_d, p_m, p_e, hj, rfl, xx, hp, hb⟩ := hrel
    have Xa0 := Lib.hid xx
    have Hp := Lib.hid hp
    have HB := Lib.hid hb
    clear xx hp hb
    by_cases hjn : j < n
    · obtain ⟨bu, ou, rfl, hbu, hcu⟩ := Hxc.out (by omega)
      obtain ⟨bv, ov, rfl, hbv, hcv⟩ := Hyc.out (by omega)
      obtain ⟨x, hx⟩ : ∃ x : Int, x = xs.getD j 0 := ⟨_, rfl⟩
      obtain ⟨y, hy⟩ : ∃ y : Int, y = ys.getD j 0 := ⟨_, rfl⟩
      have Lu := Lib.hid hbu
      have Lv := Lib.hid hbv
      have Cu := Lib.hid (show w.cell? ⟨bu, ou + j, none⟩ = some (.int .i64 x) by rw [hx]; exact hcu j hjn)
      have Cv := Lib.hid (show w.cell? ⟨bv, ov + j, none⟩ = some (.int .i64 y) by rw [hy]; exact hcv j hjn)
      have Hx := Lib.hid (show -9223372036854775808 ≤ x ∧ x < 9223372036854775808 by rw [hx]; exact getD_in Hxb.out j)
      have Hy := Lib.hid (show -9223372036854775808 ≤ y ∧ y < 9223372036854775808 by rw [hy]; exact getD_in Hyb.out j)
      have HE := Lib.hid (dots_step xs ys z j hx hy)
      have HM := Lib.hid (sm_dots (n := j + 1) Hxb.out Hyb.out Hz1.out Hz2.out (by omega))
      clear hx hy hbu hbv hcu hcv
      have hd : decide (((j : Nat) : Int) < ((n : Nat) : Int)) = true := decide_eq_true (by omega)
      obtain ⟨ca00, ca01, ca02, fa00, fa01, fa02⟩ := Xa0.out.c3
      have la0 := Xa0.out.lt
      go_wp2_with fail
      clear ca00 ca01 ca02 fa00 fa01 fa02 la0
      have Hp := Lib.hid (CR.keep Hp.out (Keep.drew wr))
      have Xa0 := Lib.hid (Box.drew Xa0.out)
      have HB := Lib.hid (Below.drew HB.out)
      refine wp_region_float [g] [] (by kernel_rfl) (by kernel_rfl) 40 (by kernel_rfl) Flok.nil ?_
      intro ok
      have Hok := Lib.hid ok
      clear ok
      have HG := Lib.hid (Below.refl (wr.drew).heap.size (wr.drew))
      refine good_pureX 1 (some 24) (Go.Op.move (Go.Operand.tmp 0)) (none) (.slice (some ⟨bu, ou, none⟩) n cu) (by kernel_rfl) (by kernel_rfl) (by kernel_rfl) (fun _ _ _ h => h) (fun w' hw' => ?_) ?_
      · first | (go_simp; done) | (go_simp; simp_all; done) | (go_simp; rfl)
      simp only [Act.put, List.setIfInBounds_toArray, List.set_cons_zero, List.set_cons_succ]
      refine good_pureX 2 (some 25) (Go.Op.move (Go.Operand.tmp 9)) (none) (.int .i64 ((j : Nat) : Int)) (by kernel_rfl) (by kernel_rfl) (by kernel_rfl) (fun _ _ _ h => h) (fun w' hw' => ?_) ?_
      · first | (go_simp; done) | (go_simp; simp_all; done) | (go_simp; rfl)
      simp only [Act.put, List.setIfInBounds_toArray, List.set_cons_zero, List.set_cons_succ]
      refine good_pureX 3 (some 26) (Go.Op.indexAddr 39 (Go.Operand.tmp 24) (Go.Operand.tmp 25)) (none) (.pointer (some ⟨bu, ou + j, none⟩)) (by kernel_rfl) (by kernel_rfl) (by kernel_rfl) (fun _ _ _ h => h) (fun w' hw' => ?_) ?_
      · first | (go_simp; done) | (go_simp; simp_all; done) | (go_simp; rfl)
      simp only [Act.put, List.setIfInBounds_toArray, List.set_cons_zero, List.set_cons_succ]
      refine good_pureX 4 (some 27) (Go.Op.load 2 (Go.Operand.tmp 26)) (none) (.int .i64 x) (by kernel_rfl) (by kernel_rfl) (by kernel_rfl) (fun _ _ _ h => h) (fun w' hw' => ?_) ?_
      · have c1 := SE.cellOf hw' (Nat.lt_of_lt_of_le Lu.out HB.out.size) (notin1 (Nat.ne_of_lt (Nat.lt_of_lt_of_le Lu.out Gg.out))) ((HB.out.cell (p := ⟨bu, ou + j, none⟩) Lu.out).trans Cu.out)
        first | (go_simp; done) | (go_simp; simp_all; done) | (go_simp; rfl)
      simp only [Act.put, List.setIfInBounds_toArray, List.set_cons_zero, List.set_cons_succ]
      refine good_pureX 6 (some 29) (Go.Op.move (Go.Operand.tmp 1)) (none) (.slice (some ⟨bv, ov, none⟩) n cv) (by kernel_rfl) (by kernel_rfl) (by kernel_rfl) (fun _ _ _ h => h) (fun w' hw' => ?_) ?_
      · first | (go_simp; done) | (go_simp; simp_all; done) | (go_simp; rfl)
      simp only [Act.put, List.setIfInBounds_toArray, List.set_cons_zero, List.set_cons_succ]
      refine good_pureX 7 (some 30) (Go.Op.move (Go.Operand.tmp 9)) (none) (.int .i64 ((j : Nat) : Int)) (by kernel_rfl) (by kernel_rfl) (by kernel_rfl) (fun _ _ _ h => h) (fun w' hw' => ?_) ?_
      · first | (go_simp; done) | (go_simp; simp_all; done) | (go_simp; rfl)
      simp only [Act.put, List.setIfInBounds_toArray, List.set_cons_zero, List.set_cons_succ]
      refine good_pureX 8 (some 31) (Go.Op.indexAddr 39 (Go.Operand.tmp 29) (Go.Operand.tmp 30)) (none) (.pointer (some ⟨bv, ov + j, none⟩)) (by kernel_rfl) (by kernel_rfl) (by kernel_rfl) (fun _ _ _ h => h) (fun w' hw' => ?_) ?_
      · first | (go_simp; done) | (go_simp; simp_all; done) | (go_simp; rfl)
      simp only [Act.put, List.setIfInBounds_toArray, List.set_cons_zero, List.set_cons_succ]
      refine good_pureX 9 (some 32) (Go.Op.load 2 (Go.Operand.tmp 31)) (none) (.int .i64 y) (by kernel_rfl) (by kernel_rfl) (by kernel_rfl) (fun _ _ _ h => h) (fun w' hw' => ?_) ?_
      · have c1 := SE.cellOf hw' (Nat.lt_of_lt_of_le Lv.out HB.out.size) (notin1 (Nat.ne_of_lt (Nat.lt_of_lt_of_le Lv.out Gg.out))) ((HB.out.cell (p := ⟨bv, ov + j, none⟩) Lv.out).trans Cv.out)
        first | (go_simp; done) | (go_simp; simp_all; done) | (go_simp; rfl)
      simp only [Act.put, List.setIfInBounds_toArray, List.set_cons_zero, List.set_cons_succ]
      refine good_end0 6 (by kernel_rfl) (fun _ w51 hb => ?_)
      have HG := Lib.hid (below_call HG.out hb)
      clear hb
      have Hp := Lib.hid (CR.keep Hp.out (Keep.call HG.out))
      have Xa0 := Lib.hid (Box.pcall HG.out Xa0.out)
      have HB := Lib.hid (below_call HB.out HG.out)
      have HS := Lib.hid (SE.of (E := [g]) HG.out)
      refine held_twoX 0 (some 23) (Go.Op.load 25 (Go.Operand.tmp 8)) (none) (.agg #[.bool p_b, .slice p_a p_n p_c, .slice p_d p_m p_e]) 5 46 (some 28) #[Go.Operand.tmp 27] #[2] (none) #[.int .i64 x] (by kernel_rfl) (by kernel_rfl) (by kernel_rfl) (by kernel_rfl) ?_ HS.out (by kernel_rfl) (by kernel_rfl) rfl rfl rfl (by kernel_rfl) ?_ ?_
      · obtain ⟨ca00, ca01, ca02, fa00, fa01, fa02⟩ := Xa0.out.c3
        first | (go_simp; done) | (go_simp; simp_all; done) | (go_simp; rfl)
      · simp only [Act.put, List.setIfInBounds_toArray, List.set_cons_zero, List.set_cons_succ]
        refine held_callX 5 46 (some 28) #[Go.Operand.tmp 27] #[2] (none) #[.int .i64 x] (by kernel_rfl) (by kernel_rfl) (by kernel_rfl) rfl rfl rfl (by kernel_rfl) ?_
        refine Calls.mono (zwhole51 Hx.out.1 Hx.out.2) ?_
        rintro e w53 ⟨v53, rfl, ho1, hb⟩
        obtain ⟨o1_b, o1_a, o1_n, o1_c, o1_d, o1_m, o1_e, rfl⟩ := ho1.litb
        have Hp := Lib.hid (CR.keep Hp.out (Keep.call hb))
        have Xa0 := Lib.hid (Box.pcall hb Xa0.out)
        have HB := Lib.hid (below_call HB.out hb)
        have HS := Lib.hid (HS.out.grow hb)
        have Ho1 := Lib.hid ho1
        clear hb ho1
        refine ⟨_, rfl, HS.out, ?_⟩
        simp only [Act.put, List.setIfInBounds_toArray, List.set_cons_zero, List.set_cons_succ]
        refine held_callX 10 46 (some 33) #[Go.Operand.tmp 32] #[2] (none) #[.int .i64 y] (by kernel_rfl) (by kernel_rfl) (by kernel_rfl) rfl rfl rfl (by kernel_rfl) ?_
        refine Calls.mono (zwhole51 Hy.out.1 Hy.out.2) ?_
        rintro e w55 ⟨v55, rfl, ho2, hb⟩
        obtain ⟨o2_b, o2_a, o2_n, o2_c, o2_d, o2_m, o2_e, rfl⟩ := ho2.litb
        have Hp := Lib.hid (CR.keep Hp.out (Keep.call hb))
        have Ho1 := Lib.hid (CR.keep Ho1.out (Keep.call hb))
        have Xa0 := Lib.hid (Box.pcall hb Xa0.out)
        have HB := Lib.hid (below_call HB.out hb)
        have HS := Lib.hid (HS.out.grow hb)
        have Ho2 := Lib.hid ho2
        clear hb ho2
        refine ⟨_, rfl, HS.out, ?_⟩
        simp only [Act.put, List.setIfInBounds_toArray, List.set_cons_zero, List.set_cons_succ]
        refine held_callX 11 38 (some 34) #[Go.Operand.tmp 28, Go.Operand.tmp 33] #[25, 25] (none) #[.agg #[.bool o1_b, .slice o1_a o1_n o1_c, .slice o1_d o1_m o1_e], .agg #[.bool o2_b, .slice o2_a o2_n o2_c, .slice o2_d o2_m o2_e]] (by kernel_rfl) (by kernel_rfl) (by kernel_rfl) rfl rfl rfl (by kernel_rfl) ?_
        (first | (have hcall := zmul_ar Ho1.out.ar Ho2.out.ar (by decide) (by decide); refine Calls.mono hcall ?_; clear hcall) | refine Calls.mono (zmul_ar Ho1.out.ar Ho2.out.ar (by decide) (by decide)) ?_)
        rintro e w57 ⟨v57, rfl, hm1, hb⟩
        obtain ⟨m1_b, m1_a, m1_n, m1_c, m1_d, m1_m, m1_e, rfl⟩ := hm1.litb
        have Hp := Lib.hid (CR.keep Hp.out (Keep.call hb))
        have Ho1 := Lib.hid (CR.keep Ho1.out (Keep.call hb))
        have Ho2 := Lib.hid (CR.keep Ho2.out (Keep.call hb))
        have Xa0 := Lib.hid (Box.pcall hb Xa0.out)
        have HB := Lib.hid (below_call HB.out hb)
        have HS := Lib.hid (HS.out.grow hb)
        have Hm1 := Lib.hid hm1
        clear hb hm1
        refine ⟨_, rfl, HS.out, ?_⟩
        simp only [Act.put, List.setIfInBounds_toArray, List.set_cons_zero, List.set_cons_succ]
        refine held_callX 12 49 (some 35) #[Go.Operand.tmp 23, Go.Operand.tmp 34] #[25, 25] (none) #[.agg #[.bool p_b, .slice p_a p_n p_c, .slice p_d p_m p_e], .agg #[.bool m1_b, .slice m1_a m1_n m1_c, .slice m1_d m1_m m1_e]] (by kernel_rfl) (by kernel_rfl) (by kernel_rfl) rfl rfl rfl (by kernel_rfl) ?_
        (first | (have hcall := zadd_ar Hp.out.ar Hm1.out.ar (by decide) (by decide); refine Calls.mono hcall ?_; clear hcall) | refine Calls.mono (zadd_ar Hp.out.ar Hm1.out.ar (by decide) (by decide)) ?_)
        rintro e w59 ⟨v59, rfl, hs1, hb⟩
        obtain ⟨s1_b, s1_a, s1_n, s1_c, s1_d, s1_m, s1_e, rfl⟩ := hs1.litb
        have Hp := Lib.hid (CR.keep Hp.out (Keep.call hb))
        have Ho1 := Lib.hid (CR.keep Ho1.out (Keep.call hb))
        have Ho2 := Lib.hid (CR.keep Ho2.out (Keep.call hb))
        have Hm1 := Lib.hid (CR.keep Hm1.out (Keep.call hb))
        have Xa0 := Lib.hid (Box.pcall hb Xa0.out)
        have HB := Lib.hid (below_call HB.out hb)
        have HS := Lib.hid (HS.out.grow hb)
        have Hs1 := Lib.hid hs1
        clear hb hs1
        refine ⟨_, rfl, HS.out, ?_⟩
        simp only [Act.put, List.setIfInBounds_toArray, List.set_cons_zero, List.set_cons_succ]
        refine held_oneX 13 (Go.Op.store 25 (Go.Operand.tmp 8) (Go.Operand.tmp 35)) (none) (World.setCell (World.setCell (World.setCell w59 ⟨g, 0, none⟩ (.bool s1_b)) ⟨g, 1, none⟩ (.slice s1_a s1_n s1_c)) ⟨g, 2, none⟩ (.slice s1_d s1_m s1_e)) (by kernel_rfl) (by kernel_rfl) (by kernel_rfl) (by kernel_rfl) ?_ (HS.out.store3 in1) ?_
        · obtain ⟨ca00, ca01, ca02, fa00, fa01, fa02⟩ := Xa0.out.c3
          first | (go_simp; done) | (go_simp; simp_all; done) | (go_simp; rfl)
        obtain ⟨W60, hW⟩ : ∃ W60, W60 = (World.setCell (World.setCell (World.setCell w59 ⟨g, 0, none⟩ (.bool s1_b)) ⟨g, 1, none⟩ (.slice s1_a s1_n s1_c)) ⟨g, 2, none⟩ (.slice s1_d s1_m s1_e)) := ⟨_, rfl⟩
        rw [← hW]
        obtain ⟨xa0, hk, hf, hbb, hz⟩ := stored3s hW Xa0.out (by first | exact NoInt.bool _ | exact NoInt.slice _ _ _) (by first | exact NoInt.bool _ | exact NoInt.slice _ _ _) (by first | exact NoInt.bool _ | exact NoInt.slice _ _ _)
        have Hp := Lib.hid (CR.keep Hp.out hk)
        have Ho1 := Lib.hid (CR.keep Ho1.out hk)
        have Ho2 := Lib.hid (CR.keep Ho2.out hk)
        have Hm1 := Lib.hid (CR.keep Hm1.out hk)
        have Hs1 := Lib.hid (CR.keep Hs1.out hk)
        have Xa0 := Lib.hid xa0
        have HB := Lib.hid (hbb _ HB.out Gg.out)
        have HS := Lib.hid (show SE (wr.drew) [g] W60 from by rw [hW]; exact HS.out.store3 in1)
        clear hW hk hf hbb xa0
        clear hz
        refine wpAnyH_done (by kernel_rfl) ?_ _
        clear HG HS Hok 
        obtain ⟨ca00, ca01, ca02, fa00, fa01, fa02⟩ := Xa0.out.c3
        have la0 := Xa0.out.lt
        go_wp2
        clear ca00 ca01 ca02 fa00 fa01 fa02 la0
        go_roundw
        case rel => exact ⟨j + 1, _, _, _, _, _, _, _, by omega, by go_num, Xa0.out, CR.small (CR.cast HE.out Hs1.out) HM.out, HB.out⟩
        case measure => simp [intOf] <;> omega
      · refine Calls.mono (zwhole51 Hx.out.1 Hx.out.2) ?_
        rintro e w53 ⟨v53, rfl, ho1, hb⟩
        obtain ⟨o1_b, o1_a, o1_n, o1_c, o1_d, o1_m, o1_e, rfl⟩ := ho1.litb
        have Hp := Lib.hid (CR.keep Hp.out (Keep.call hb))
        have Xa0 := Lib.hid (Box.pcall hb Xa0.out)
        have HB := Lib.hid (below_call HB.out hb)
        have HS := Lib.hid (HS.out.grow hb)
        have Ho1 := Lib.hid ho1
        clear hb ho1
        refine ⟨_, rfl, HS.out, ?_⟩
        simp only [Act.put, List.setIfInBounds_toArray, List.set_cons_zero, List.set_cons_succ]
        refine held_twoX 0 (some 23) (Go.Op.load 25 (Go.Operand.tmp 8)) (none) (.agg #[.bool p_b, .slice p_a p_n p_c, .slice p_d p_m p_e]) 10 46 (some 33) #[Go.Operand.tmp 32] #[2] (none) #[.int .i64 y] (by kernel_rfl) (by kernel_rfl) (by kernel_rfl) (by kernel_rfl) ?_ HS.out (by kernel_rfl) (by kernel_rfl) rfl rfl rfl (by kernel_rfl) ?_ ?_
        · obtain ⟨ca00, ca01, ca02, fa00, fa01, fa02⟩ := Xa0.out.c3
          first | (go_simp; done) | (go_simp; simp_all; done) | (go_simp; rfl)
        · simp only [Act.put, List.setIfInBounds_toArray, List.set_cons_zero, List.set_cons_succ]
          refine held_callX 10 46 (some 33) #[Go.Operand.tmp 32] #[2] (none) #[.int .i64 y] (by kernel_rfl) (by kernel_rfl) (by kernel_rfl) rfl rfl rfl (by kernel_rfl) ?_
          refine Calls.mono (zwhole51 Hy.out.1 Hy.out.2) ?_
          rintro e w55 ⟨v55, rfl, ho2, hb⟩
          obtain ⟨o2_b, o2_a, o2_n, o2_c, o2_d, o2_m, o2_e, rfl⟩ := ho2.litb
          have Hp := Lib.hid (CR.keep Hp.out (Keep.call hb))
          have Ho1 := Lib.hid (CR.keep Ho1.out (Keep.call hb))
          have Xa0 := Lib.hid (Box.pcall hb Xa0.out)
          have HB := Lib.hid (below_call HB.out hb)
          have HS := Lib.hid (HS.out.grow hb)
          have Ho2 := Lib.hid ho2
          clear hb ho2
          refine ⟨_, rfl, HS.out, ?_⟩
          simp only [Act.put, List.setIfInBounds_toArray, List.set_cons_zero, List.set_cons_succ]
          refine held_callX 11 38 (some 34) #[Go.Operand.tmp 28, Go.Operand.tmp 33] #[25, 25] (none) #[.agg #[.bool o1_b, .slice o1_a o1_n o1_c, .slice o1_d o1_m o1_e], .agg #[.bool o2_b, .slice o2_a o2_n o2_c, .slice o2_d o2_m o2_e]] (by kernel_rfl) (by kernel_rfl) (by kernel_rfl) rfl rfl rfl (by kernel_rfl) ?_
          (first | (have hcall := zmul_ar Ho1.out.ar Ho2.out.ar (by decide) (by decide); refine Calls.mono hcall ?_; clear hcall) | refine Calls.mono (zmul_ar Ho1.out.ar Ho2.out.ar (by decide) (by decide)) ?_)
          rintro e w57 ⟨v57, rfl, hm1, hb⟩
          obtain ⟨m1_b, m1_a, m1_n, m1_c, m1_d, m1_m, m1_e, rfl⟩ := hm1.litb
          have Hp := Lib.hid (CR.keep Hp.out (Keep.call hb))
          have Ho1 := Lib.hid (CR.keep Ho1.out (Keep.call hb))
          have Ho2 := Lib.hid (CR.keep Ho2.out (Keep.call hb))
          have Xa0 := Lib.hid (Box.pcall hb Xa0.out)
          have HB := Lib.hid (below_call HB.out hb)
          have HS := Lib.hid (HS.out.grow hb)
          have Hm1 := Lib.hid hm1
          clear hb hm1
          refine ⟨_, rfl, HS.out, ?_⟩
          simp only [Act.put, List.setIfInBounds_toArray, List.set_cons_zero, List.set_cons_succ]
          refine held_callX 12 49 (some 35) #[Go.Operand.tmp 23, Go.Operand.tmp 34] #[25, 25] (none) #[.agg #[.bool p_b, .slice p_a p_n p_c, .slice p_d p_m p_e], .agg #[.bool m1_b, .slice m1_a m1_n m1_c, .slice m1_d m1_m m1_e]] (by kernel_rfl) (by kernel_rfl) (by kernel_rfl) rfl rfl rfl (by kernel_rfl) ?_
          (first | (have hcall := zadd_ar Hp.out.ar Hm1.out.ar (by decide) (by decide); refine Calls.mono hcall ?_; clear hcall) | refine Calls.mono (zadd_ar Hp.out.ar Hm1.out.ar (by decide) (by decide)) ?_)
          rintro e w59 ⟨v59, rfl, hs1, hb⟩
          obtain ⟨s1_b, s1_a, s1_n, s1_c, s1_d, s1_m, s1_e, rfl⟩ := hs1.litb
          have Hp := Lib.hid (CR.keep Hp.out (Keep.call hb))
          have Ho1 := Lib.hid (CR.keep Ho1.out (Keep.call hb))
          have Ho2 := Lib.hid (CR.keep Ho2.out (Keep.call hb))
          have Hm1 := Lib.hid (CR.keep Hm1.out (Keep.call hb))
          have Xa0 := Lib.hid (Box.pcall hb Xa0.out)
          have HB := Lib.hid (below_call HB.out hb)
          have HS := Lib.hid (HS.out.grow hb)
          have Hs1 := Lib.hid hs1
          clear hb hs1
          refine ⟨_, rfl, HS.out, ?_⟩
          simp only [Act.put, List.setIfInBounds_toArray, List.set_cons_zero, List.set_cons_succ]
          refine held_oneX 13 (Go.Op.store 25 (Go.Operand.tmp 8) (Go.Operand.tmp 35)) (none) (World.setCell (World.setCell (World.setCell w59 ⟨g, 0, none⟩ (.bool s1_b)) ⟨g, 1, none⟩ (.slice s1_a s1_n s1_c)) ⟨g, 2, none⟩ (.slice s1_d s1_m s1_e)) (by kernel_rfl) (by kernel_rfl) (by kernel_rfl) (by kernel_rfl) ?_ (HS.out.store3 in1) ?_
          · obtain ⟨ca00, ca01, ca02, fa00, fa01, fa02⟩ := Xa0.out.c3
            first | (go_simp; done) | (go_simp; simp_all; done) | (go_simp; rfl)
          obtain ⟨W60, hW⟩ : ∃ W60, W60 = (World.setCell (World.setCell (World.setCell w59 ⟨g, 0, none⟩ (.bool s1_b)) ⟨g, 1, none⟩ (.slice s1_a s1_n s1_c)) ⟨g, 2, none⟩ (.slice s1_d s1_m s1_e)) := ⟨_, rfl⟩
          rw [← hW]
          obtain ⟨xa0, hk, hf, hbb, hz⟩ := stored3s hW Xa0.out (by first | exact NoInt.bool _ | exact NoInt.slice _ _ _) (by first | exact NoInt.bool _ | exact NoInt.slice _ _ _) (by first | exact NoInt.bool _ | exact NoInt.slice _ _ _)
          have Hp := Lib.hid (CR.keep Hp.out hk)
          have Ho1 := Lib.hid (CR.keep Ho1.out hk)
          have Ho2 := Lib.hid (CR.keep Ho2.out hk)
          have Hm1 := Lib.hid (CR.keep Hm1.out hk)
          have Hs1 := Lib.hid (CR.keep Hs1.out hk)
          have Xa0 := Lib.hid xa0
          have HB := Lib.hid (hbb _ HB.out Gg.out)
          have HS := Lib.hid (show SE (wr.drew) [g] W60 from by rw [hW]; exact HS.out.store3 in1)
          clear hW hk hf hbb xa0
          clear hz
          refine wpAnyH_done (by kernel_rfl) ?_ _
          clear HG HS Hok 
          obtain ⟨ca00, ca01, ca02, fa00, fa01, fa02⟩ := Xa0.out.c3
          have la0 := Xa0.out.lt
          go_wp2
          clear ca00 ca01 ca02 fa00 fa01 fa02 la0
          go_roundw
          case rel => exact ⟨j + 1, _, _, _, _, _, _, _, by omega, by go_num, Xa0.out, CR.small (CR.cast HE.out Hs1.out) HM.out, HB.out⟩
          case measure => simp [intOf] <;> omega
        · refine Calls.mono (zwhole51 Hy.out.1 Hy.out.2) ?_
          rintro e w55 ⟨v55, rfl, ho2, hb⟩
          obtain ⟨o2_b, o2_a, o2_n, o2_c, o2_d, o2_m, o2_e, rfl⟩ := ho2.litb
          have Hp := Lib.hid (CR.keep Hp.out (Keep.call hb))
          have Ho1 := Lib.hid (CR.keep Ho1.out (Keep.call hb))
          have Xa0 := Lib.hid (Box.pcall hb Xa0.out)
          have HB := Lib.hid (below_call HB.out hb)
          have HS := Lib.hid (HS.out.grow hb)
          have Ho2 := Lib.hid ho2
          clear hb ho2
          refine ⟨_, rfl, HS.out, ?_⟩
          simp only [Act.put, List.setIfInBounds_toArray, List.set_cons_zero, List.set_cons_succ]
          refine held_twoX 0 (some 23) (Go.Op.load 25 (Go.Operand.tmp 8)) (none) (.agg #[.bool p_b, .slice p_a p_n p_c, .slice p_d p_m p_e]) 11 38 (some 34) #[Go.Operand.tmp 28, Go.Operand.tmp 33] #[25, 25] (none) #[.agg #[.bool o1_b, .slice o1_a o1_n o1_c, .slice o1_d o1_m o1_e], .agg #[.bool o2_b, .slice o2_a o2_n o2_c, .slice o2_d o2_m o2_e]] (by kernel_rfl) (by kernel_rfl) (by kernel_rfl) (by kernel_rfl) ?_ HS.out (by kernel_rfl) (by kernel_rfl) rfl rfl rfl (by kernel_rfl) ?_ ?_
          · obtain ⟨ca00, ca01, ca02, fa00, fa01, fa02⟩ := Xa0.out.c3
            first | (go_simp; done) | (go_simp; simp_all; done) | (go_simp; rfl)
          · simp only [Act.put, List.setIfInBounds_toArray, List.set_cons_zero, List.set_cons_succ]
            refine held_callX 11 38 (some 34) #[Go.Operand.tmp 28, Go.Operand.tmp 33] #[25, 25] (none) #[.agg #[.bool o1_b, .slice o1_a o1_n o1_c, .slice o1_d o1_m o1_e], .agg #[.bool o2_b, .slice o2_a o2_n o2_c, .slice o2_d o2_m o2_e]] (by kernel_rfl) (by kernel_rfl) (by kernel_rfl) rfl rfl rfl (by kernel_rfl) ?_
            (first | (have hcall := zmul_ar Ho1.out.ar Ho2.out.ar (by decide) (by decide); refine Calls.mono hcall ?_; clear hcall) | refine Calls.mono (zmul_ar Ho1.out.ar Ho2.out.ar (by decide) (by decide)) ?_)
            rintro e w57 ⟨v57, rfl, hm1, hb⟩
            obtain ⟨m1_b, m1_a, m1_n, m1_c, m1_d, m1_m, m1_e, rfl⟩ := hm1.litb
            have Hp := Lib.hid (CR.keep Hp.out (Keep.call hb))
            have Ho1 := Lib.hid (CR.keep Ho1.out (Keep.call hb))
            have Ho2 := Lib.hid (CR.keep Ho2.out (Keep.call hb))
            have Xa0 := Lib.hid (Box.pcall hb Xa0.out)
            have HB := Lib.hid (below_call HB.out hb)
            have HS := Lib.hid (HS.out.grow hb)
            have Hm1 := Lib.hid hm1
            clear hb hm1
            refine ⟨_, rfl, HS.out, ?_⟩
            simp only [Act.put, List.setIfInBounds_toArray, List.set_cons_zero, List.set_cons_succ]
            refine held_callX 12 49 (some 35) #[Go.Operand.tmp 23, Go.Operand.tmp 34] #[25, 25] (none) #[.agg #[.bool p_b, .slice p_a p_n p_c, .slice p_d p_m p_e], .agg #[.bool m1_b, .slice m1_a m1_n m1_c, .slice m1_d m1_m m1_e]] (by kernel_rfl) (by kernel_rfl) (by kernel_rfl) rfl rfl rfl (by kernel_rfl) ?_
            (first | (have hcall := zadd_ar Hp.out.ar Hm1.out.ar (by decide) (by decide); refine Calls.mono hcall ?_; clear hcall) | refine Calls.mono (zadd_ar Hp.out.ar Hm1.out.ar (by decide) (by decide)) ?_)
            rintro e w59 ⟨v59, rfl, hs1, hb⟩
            obtain ⟨s1_b, s1_a, s1_n, s1_c, s1_d, s1_m, s1_e, rfl⟩ := hs1.litb
            have Hp := Lib.hid (CR.keep Hp.out (Keep.call hb))
            have Ho1 := Lib.hid (CR.keep Ho1.out (Keep.call hb))
            have Ho2 := Lib.hid (CR.keep Ho2.out (Keep.call hb))
            have Hm1 := Lib.hid (CR.keep Hm1.out (Keep.call hb))
            have Xa0 := Lib.hid (Box.pcall hb Xa0.out)
            have HB := Lib.hid (below_call HB.out hb)
            have HS := Lib.hid (HS.out.grow hb)
            have Hs1 := Lib.hid hs1
            clear hb hs1
            refine ⟨_, rfl, HS.out, ?_⟩
            simp only [Act.put, List.setIfInBounds_toArray, List.set_cons_zero, List.set_cons_succ]
            refine held_oneX 13 (Go.Op.store 25 (Go.Operand.tmp 8) (Go.Operand.tmp 35)) (none) (World.setCell (World.setCell (World.setCell w59 ⟨g, 0, none⟩ (.bool s1_b)) ⟨g, 1, none⟩ (.slice s1_a s1_n s1_c)) ⟨g, 2, none⟩ (.slice s1_d s1_m s1_e)) (by kernel_rfl) (by kernel_rfl) (by kernel_rfl) (by kernel_rfl) ?_ (HS.out.store3 in1) ?_
            · obtain ⟨ca00, ca01, ca02, fa00, fa01, fa02⟩ := Xa0.out.c3
              first | (go_simp; done) | (go_simp; simp_all; done) | (go_simp; rfl)
            obtain ⟨W60, hW⟩ : ∃ W60, W60 = (World.setCell (World.setCell (World.setCell w59 ⟨g, 0, none⟩ (.bool s1_b)) ⟨g, 1, none⟩ (.slice s1_a s1_n s1_c)) ⟨g, 2, none⟩ (.slice s1_d s1_m s1_e)) := ⟨_, rfl⟩
            rw [← hW]
            obtain ⟨xa0, hk, hf, hbb, hz⟩ := stored3s hW Xa0.out (by first | exact NoInt.bool _ | exact NoInt.slice _ _ _) (by first | exact NoInt.bool _ | exact NoInt.slice _ _ _) (by first | exact NoInt.bool _ | exact NoInt.slice _ _ _)
            have Hp := Lib.hid (CR.keep Hp.out hk)
            have Ho1 := Lib.hid (CR.keep Ho1.out hk)
            have Ho2 := Lib.hid (CR.keep Ho2.out hk)
            have Hm1 := Lib.hid (CR.keep Hm1.out hk)
            have Hs1 := Lib.hid (CR.keep Hs1.out hk)
            have Xa0 := Lib.hid xa0
            have HB := Lib.hid (hbb _ HB.out Gg.out)
            have HS := Lib.hid (show SE (wr.drew) [g] W60 from by rw [hW]; exact HS.out.store3 in1)
            clear hW hk hf hbb xa0
            clear hz
            refine wpAnyH_done (by kernel_rfl) ?_ _
            clear HG HS Hok 
            obtain ⟨ca00, ca01, ca02, fa00, fa01, fa02⟩ := Xa0.out.c3
            have la0 := Xa0.out.lt
            go_wp2
            clear ca00 ca01 ca02 fa00 fa01 fa02 la0
            go_roundw
            case rel => exact ⟨j + 1, _, _, _, _, _, _, _, by omega, by go_num, Xa0.out, CR.small (CR.cast HE.out Hs1.out) HM.out, HB.out⟩
            case measure => simp [intOf] <;> omega
          · (first | (have hcall := zmul_ar Ho1.out.ar Ho2.out.ar (by decide) (by decide); refine Calls.mono hcall ?_; clear hcall) | refine Calls.mono (zmul_ar Ho1.out.ar Ho2.out.ar (by decide) (by decide)) ?_)
            rintro e w57 ⟨v57, rfl, hm1, hb⟩
            obtain ⟨m1_b, m1_a, m1_n, m1_c, m1_d, m1_m, m1_e, rfl⟩ := hm1.litb
            have Hp := Lib.hid (CR.keep Hp.out (Keep.call hb))
            have Ho1 := Lib.hid (CR.keep Ho1.out (Keep.call hb))
            have Ho2 := Lib.hid (CR.keep Ho2.out (Keep.call hb))
            have Xa0 := Lib.hid (Box.pcall hb Xa0.out)
            have HB := Lib.hid (below_call HB.out hb)
            have HS := Lib.hid (HS.out.grow hb)
            have Hm1 := Lib.hid hm1
            clear hb hm1
            refine ⟨_, rfl, HS.out, ?_⟩
            simp only [Act.put, List.setIfInBounds_toArray, List.set_cons_zero, List.set_cons_succ]
            refine held_oneV 0 (some 23) (Go.Op.load 25 (Go.Operand.tmp 8)) (none) (.agg #[.bool p_b, .slice p_a p_n p_c, .slice p_d p_m p_e]) (by kernel_rfl) (by kernel_rfl) (by kernel_rfl) (by kernel_rfl) ?_ HS.out ?_
            · obtain ⟨ca00, ca01, ca02, fa00, fa01, fa02⟩ := Xa0.out.c3
              first | (go_simp; done) | (go_simp; simp_all; done) | (go_simp; rfl)
            simp only [Act.put, List.setIfInBounds_toArray, List.set_cons_zero, List.set_cons_succ]
            refine held_callX 12 49 (some 35) #[Go.Operand.tmp 23, Go.Operand.tmp 34] #[25, 25] (none) #[.agg #[.bool p_b, .slice p_a p_n p_c, .slice p_d p_m p_e], .agg #[.bool m1_b, .slice m1_a m1_n m1_c, .slice m1_d m1_m m1_e]] (by kernel_rfl) (by kernel_rfl) (by kernel_rfl) rfl rfl rfl (by kernel_rfl) ?_
            (first | (have hcall := zadd_ar Hp.out.ar Hm1.out.ar (by decide) (by decide); refine Calls.mono hcall ?_; clear hcall) | refine Calls.mono (zadd_ar Hp.out.ar Hm1.out.ar (by decide) (by decide)) ?_)
            rintro e w59 ⟨v59, rfl, hs1, hb⟩
            obtain ⟨s1_b, s1_a, s1_n, s1_c, s1_d, s1_m, s1_e, rfl⟩ := hs1.litb
            have Hp := Lib.hid (CR.keep Hp.out (Keep.call hb))
            have Ho1 := Lib.hid (CR.keep Ho1.out (Keep.call hb))
            have Ho2 := Lib.hid (CR.keep Ho2.out (Keep.call hb))
            have Hm1 := Lib.hid (CR.keep Hm1.out (Keep.call hb))
            have Xa0 := Lib.hid (Box.pcall hb Xa0.out)
            have HB := Lib.hid (below_call HB.out hb)
            have HS := Lib.hid (HS.out.grow hb)
            have Hs1 := Lib.hid hs1
            clear hb hs1
            refine ⟨_, rfl, HS.out, ?_⟩
            simp only [Act.put, List.setIfInBounds_toArray, List.set_cons_zero, List.set_cons_succ]
            refine held_oneX 13 (Go.Op.store 25 (Go.Operand.tmp 8) (Go.Operand.tmp 35)) (none) (World.setCell (World.setCell (World.setCell w59 ⟨g, 0, none⟩ (.bool s1_b)) ⟨g, 1, none⟩ (.slice s1_a s1_n s1_c)) ⟨g, 2, none⟩ (.slice s1_d s1_m s1_e)) (by kernel_rfl) (by kernel_rfl) (by kernel_rfl) (by kernel_rfl) ?_ (HS.out.store3 in1) ?_
            · obtain ⟨ca00, ca01, ca02, fa00, fa01, fa02⟩ := Xa0.out.c3
              first | (go_simp; done) | (go_simp; simp_all; done) | (go_simp; rfl)
            obtain ⟨W60, hW⟩ : ∃ W60, W60 = (World.setCell (World.setCell (World.setCell w59 ⟨g, 0, none⟩ (.bool s1_b)) ⟨g, 1, none⟩ (.slice s1_a s1_n s1_c)) ⟨g, 2, none⟩ (.slice s1_d s1_m s1_e)) := ⟨_, rfl⟩
            rw [← hW]
            obtain ⟨xa0, hk, hf, hbb, hz⟩ := stored3s hW Xa0.out (by first | exact NoInt.bool _ | exact NoInt.slice _ _ _) (by first | exact NoInt.bool _ | exact NoInt.slice _ _ _) (by first | exact NoInt.bool _ | exact NoInt.slice _ _ _)
            have Hp := Lib.hid (CR.keep Hp.out hk)
            have Ho1 := Lib.hid (CR.keep Ho1.out hk)
            have Ho2 := Lib.hid (CR.keep Ho2.out hk)
            have Hm1 := Lib.hid (CR.keep Hm1.out hk)
            have Hs1 := Lib.hid (CR.keep Hs1.out hk)
            have Xa0 := Lib.hid xa0
            have HB := Lib.hid (hbb _ HB.out Gg.out)
            have HS := Lib.hid (show SE (wr.drew) [g] W60 from by rw [hW]; exact HS.out.store3 in1)
            clear hW hk hf hbb xa0
            clear hz
            refine wpAnyH_done (by kernel_rfl) ?_ _
            clear HG HS Hok 
            obtain ⟨ca00, ca01, ca02, fa00, fa01, fa02⟩ := Xa0.out.c3
            have la0 := Xa0.out.lt
            go_wp2
            clear ca00 ca01 ca02 fa00 fa01 fa02 la0
            go_roundw
            case rel => exact ⟨j + 1, _, _, _, _, _, _, _, by omega, by go_num, Xa0.out, CR.small (CR.cast HE.out Hs1.out) HM.out, HB.out⟩
            case measure => simp [intOf] <;> omega
    · obtain rfl : j = n := by omega
      have hd : decide (((j : Nat) : Int) < ((j : Nat) : Int)) = false := decide_eq_false (by omega)
      obtain ⟨ca00, ca01, ca02, fa00, fa01, fa02⟩ := Xa0.out.c3
      have la0 := Xa0.out.lt
      go_wp2_with fail
      clear ca00 ca01 ca02 fa00 fa01 fa02 la0
      (first | (have hcall := zresult_ar Hf.out Hp.out.ar (by decide); refine Calls.mono hcall ?_; clear hcall) | refine Calls.mono (zresult_ar Hf.out Hp.out.ar (by decide)) ?_)
      rintro e w51 ⟨v51, rfl, rfl, hb⟩
      have Xa0 := Lib.hid (Box.pcall hb Xa0.out)
      have HB := Lib.hid (below_call HB.out hb)
      clear hb
      obtain ⟨ca00, ca01, ca02, fa00, fa01, fa02⟩ := Xa0.out.c3
      have la0 := Xa0.out.lt
      go_wp2
      clear ca00 ca01 ca02 fa00 fa01 fa02 la0
      exact ret_tt rfl rfl rfl rfl rfl HB.out

end Go.Proofs.Ytfffehmkohcgcaa
namespace Go.Proofs.Ytfffehmkohcgcaa
open Go.RowKit Nt
set_option linter.unusedVariables false
/-- A block of the call's own that holds the numbers xs. -/
def Own (w : World) (g : Nat) (T : TypeId) (xs : List Int) : Prop := ∃ cs : Array Value, Box w g T cs ∧ ∀ i, i < xs.length → cs[i]? = some (.int .i64 (xs.getD i 0))
theorem Own.lt {w : World} {g : Nat} {T : TypeId} {xs : List Int} (h : Own w g T xs) : g < w.heap.size := let ⟨_, h, _⟩ := h; h.lt
theorem Own.pcall {w w' : World} {g : Nat} {T : TypeId} {xs : List Int} (hb : Below w.heap.size w w') (h : Own w g T xs) : Own w' g T xs := let ⟨cs, h, k⟩ := h; ⟨cs, Box.pcall hb h, k⟩
theorem Own.drew {w : World} {g : Nat} {T : TypeId} {xs : List Int} (h : Own w g T xs) : Own w.drew g T xs := let ⟨cs, h, k⟩ := h; ⟨cs, Box.drew h, k⟩
theorem Own.c2 {w : World} {g : Nat} {T : TypeId} {x y : Int} {r : List Int} (h : Own w g T (x :: y :: r)) : w.cell? ⟨g, 0, none⟩ = some (.int .i64 x) ∧ w.cell? ⟨g, 1, none⟩ = some (.int .i64 y) ∧ w.frozen? ⟨g, 0, none⟩ = false ∧ w.frozen? ⟨g, 1, none⟩ = false := by
  obtain ⟨cs, h, k⟩ := h
  exact ⟨h.cell 0 (k 0 (by simp)), h.cell 1 (k 1 (by simp)), h.free 0, h.free 1⟩
theorem Own.si {w : World} {g : Nat} {T : TypeId} {xs : List Int} {n k : Nat} (h : Own w g T xs) (hn : xs.length = n) (hm : n ≤ 1099511627776) (hb : ∀ z ∈ xs, -9223372036854775808 ≤ z ∧ z < 9223372036854775808) : Si w (.slice (some ⟨g, 0, none⟩) n k) xs := by
  obtain ⟨cs, h1, h2⟩ := h
  exact ⟨_, _, _, rfl, hn, hm, hb, fun _ => ⟨g, 0, rfl, h1.lt, fun i hi => by rw [Nat.zero_add]; exact h1.cell i (h2 i (by omega))⟩⟩
theorem own_set {cs : Array Value} {xs xs' : List Int} {i : Nat} {v : Int} (h : ∀ i, i < xs.length → cs[i]? = some (.int .i64 (xs.getD i 0))) (hl : xs'.length = xs.length) (hi : i < xs.length) (hv : xs'.getD i 0 = v) (ho : ∀ j, j ≠ i → xs'.getD j 0 = xs.getD j 0) :
    ∀ j, j < xs'.length → (cs.setIfInBounds i (.int .i64 v))[j]? = some (.int .i64 (xs'.getD j 0)) := by
  intro j hj
  have hs : i < cs.size := (Array.getElem?_eq_some_iff.1 (h i hi)).1
  by_cases e : i = j
  · subst e; rw [Array.getElem?_setIfInBounds_self_of_lt hs, hv]
  · rw [Array.getElem?_setIfInBounds_ne e, ho j (fun k => e k.symm)]; exact h j (by omega)
theorem sto3_0 {W W' : World} {g : Nat} {T : TypeId} {x y x' : Int} {r : List Int} (hW : W' = W.setCell ⟨g, 0, none⟩ (.int .i64 x')) (X : Own W g T (x :: y :: r)) :
    Own W' g T (x' :: y :: r) ∧ True ∧ (∀ g' t' cs, Own W g' t' cs → g' ≠ g → Own W' g' t' cs) ∧ (∀ w0 : World, Below w0.heap.size w0 W → w0.heap.size ≤ g → Below w0.heap.size w0 W') ∧ W'.heap.size = W.heap.size := by
  obtain ⟨cs, h1, h2⟩ := X
  subst hW
  refine ⟨⟨_, h1.set (i := 0), own_set h2 rfl (by simp) rfl fun j hj => ?_⟩, trivial, fun _ _ _ ⟨cs, h, k⟩ hne => ⟨cs, h.other hne, k⟩, fun _ h hg => h.setCell hg _, by simp⟩
  match j, hj with
  | j + 1, _ => rfl
theorem sto3_1 {W W' : World} {g : Nat} {T : TypeId} {x y y' : Int} {r : List Int} (hW : W' = W.setCell ⟨g, 1, none⟩ (.int .i64 y')) (X : Own W g T (x :: y :: r)) :
    Own W' g T (x :: y' :: r) ∧ True ∧ (∀ g' t' cs, Own W g' t' cs → g' ≠ g → Own W' g' t' cs) ∧ (∀ w0 : World, Below w0.heap.size w0 W → w0.heap.size ≤ g → Below w0.heap.size w0 W') ∧ W'.heap.size = W.heap.size := by
  obtain ⟨cs, h1, h2⟩ := X
  subst hW
  refine ⟨⟨_, h1.set (i := 1), own_set h2 rfl (by simp) rfl fun j hj => ?_⟩, trivial, fun _ _ _ ⟨cs, h, k⟩ hne => ⟨cs, h.other hne, k⟩, fun _ h hg => h.setCell hg _, by simp⟩
  match j, hj with
  | 0, _ => rfl
  | j + 2, _ => rfl
/-- 'append(e, x...)', e empty and without room, x not empty: a copy. -/
theorem wpList_copy_i64 {P : Program} (w : World) {ops : Array Oper} {rest : List Oper} {o : Oper} {a : Act} {Q : Exit → Act → World → Prop}
    (hg : o.guard = none) (s x : Operand) (t t' : TypeId) (ho : o.op = .call { callee := .builtin .append, args := #[s, x], argTypes := #[t, t'] })
    (e : TypeId) (h1 : P.underlying t = some (.slice e)) (h1' : P.underlying t' = some (.slice e)) (h2 : (P.info? e).map (fun i => (i.zero, i.size, i.bytes)) = some (some (.int .i64 0), 1, 8))
    (g : Nat) (hs : a.eval s = .slice (some ⟨g, 0, none⟩) 0 0) (ad : Option Addr) (n cap : Nat) (xs : List Int) (hx : a.eval x = .slice ad n cap) (hv : Si w (.slice ad n cap) xs) (h0 : 0 < n)
    (h : ∀ g' k w', Own w' g' e xs → w.heap.size ≤ g' → Below w.heap.size w w' → wpList P ops Q rest (a.put o.dst (.slice (some ⟨g', 0, none⟩) n k)) w') : wpList P ops Q (o :: rest) a w := by
  obtain ⟨i0, hi, hz0, hz1, hz2⟩ := info_parts h2
  obtain ⟨_, _, _, he, hn, hm, hl, hc⟩ := hv
  injection he with e1 e2 e3
  subst e1 e2 e3
  refine wpList_plain hg fun K hK' => ?_
  have key : ∃ g' k w', (Builtin.append_ #[t, t] o.type #[.slice (some ⟨g, 0, none⟩) 0 0, .slice ad n cap]).run P w = .ok (.slice (some ⟨g', 0, none⟩) n k) w' ∧ Own w' g' e xs ∧ w.heap.size ≤ g' ∧ Below w.heap.size w w' := by
    obtain ⟨b, off, rfl, hb, hcell⟩ := hc h0
    have hr := run_append_grow (P := P) w t o.type e i0 (.int .i64 0) h1 hi hz0 ⟨g, 0, none⟩ 0 0 [] (by simp) (by intro j u hj; simp at hj) ⟨b, off, none⟩ n cap (xs.map fun (x : Int) => Value.int .i64 x) (by rw [hz1]; simp [hn]) (by
        intro j u hj
        have hjn : j < n := by
          have := (List.getElem?_eq_some_iff.1 hj).1
          simp at this; omega
        rw [Addr.add_lit, hcell j hjn, ← hj]
        simp [List.getD, show j < xs.length by omega]) (by omega) (by omega) (growslice_fits (by omega) (by rw [hz2]; omega))
    rw [Nat.zero_add] at hr
    refine ⟨_, _, _, hr, ⟨_, Box.new w.drew _ _, fun i hi => ?_⟩, Nat.le_refl _, ((Below.refl _ _).drew).alloc (Nat.le_refl _) _⟩
    have hi' : i < xs.length := by omega
    simp [Array.getElem?_append, hi', List.getD]
  obtain ⟨g', k, w', hr, r1, r3, r2⟩ := key
  rw [← append_types w t t' e e o.type _ h1 h1'] at hr
  unfold Oper.wp execOp
  simp only [ho, resolve, invoke, builtin, Sem.run_bind, Sem.run_pure, Result.andThen_ok, List.map_toArray, List.map_cons, List.map_nil, hs, hx, hr]
  exact hK' _ _ (h g' k w' r1 r3 r2)
theorem dots_swap {x0 x1 y0 y1 : Int} {r s : List Int} (j : Nat) : dots (y1 :: y0 :: s) (x1 :: x0 :: r) (j + 2) = dots (x0 :: x1 :: r) (y0 :: y1 :: s) (j + 2) := by
  induction j with
  | zero =>
    show 0 + y1 * x1 + y0 * x0 = 0 + x0 * y0 + x1 * y1
    rw [Int.mul_comm y1, Int.mul_comm y0]; omega
  | succ j ih =>
    show dots _ _ (j + 2) + s.getD j 0 * r.getD j 0 = dots _ _ (j + 2) + r.getD j 0 * s.getD j 0
    rw [ih, Int.mul_comm]

set_option maxRecDepth 100000 in
set_option maxHeartbeats 4000000 in
theorem fdot_ne {pu pv : Option Addr} {n m cu cv : Nat} {z : Int}  {w : World} (hne : (((n : Nat) : Int) != ((m : Nat) : Int)) = true)  :
    Calls Try.prog 20 #[.slice pu n cu, .slice pv m cv, .int .i64 z] w (Ret w (Val (.tuple #[.int .i64 0, .int .i64 1]))) := by
  go_enter Try.func20, Try.ntmps20
  have HB := Lib.hid (Below.refl w.heap.size w)
  go_wp2
  exact ret_tt rfl rfl rfl rfl rfl HB.out


set_option maxRecDepth 100000 in
set_option maxHeartbeats 4000000 in
theorem zdot_ne {pu pv : Option Addr} {n m cu cv : Nat} {z : Int}  {w : World} (hne : (((n : Nat) : Int) != ((m : Nat) : Int)) = true)  :
    Calls Try.prog 21 #[.slice pu n cu, .slice pv m cv, .int .i64 z] w (Ret w (Val (.tuple #[.int .i64 0, .int .i64 1]))) := by
  go_enter Try.func21, Try.ntmps21
  have HB := Lib.hid (Below.refl w.heap.size w)
  go_wp2
  exact ret_tt rfl rfl rfl rfl rfl HB.out


set_option maxRecDepth 100000 in
set_option maxHeartbeats 4000000 in
theorem ldot_b1 {pu pv : Option Addr} {n m cu cv : Nat} {z : Int}  {w : World} (hb : decide (20 < ((n : Nat) : Int)) = true)  :
    Calls Try.prog 7 #[.slice pu n cu, .slice pv m cv, .int .i64 z] w (Ret w (Val (.bool true))) := by
  go_enter Try.func7, Try.ntmps7
  have HB := Lib.hid (Below.refl w.heap.size w)
  go_wp2_with fail
  refine Calls.mono (awake51) ?_
  rintro e w1 ⟨v1, rfl, rfl, hb⟩
  have HB := Lib.hid (below_call HB.out hb)
  clear hb
  go_wp2
  go_ret
  exact ⟨_, rfl, rfl, HB.out⟩


set_option maxRecDepth 100000 in
set_option maxHeartbeats 4000000 in
theorem ldot_b2 {pu pv : Option Addr} {n m cu cv : Nat} {z : Int}  {w : World} (hb : decide (20 < ((n : Nat) : Int)) = false) (hc : decide (20 < ((m : Nat) : Int)) = true)  :
    Calls Try.prog 7 #[.slice pu n cu, .slice pv m cv, .int .i64 z] w (Ret w (Val (.bool true))) := by
  go_enter Try.func7, Try.ntmps7
  have HB := Lib.hid (Below.refl w.heap.size w)
  go_wp2_with fail
  refine Calls.mono (awake51) ?_
  rintro e w1 ⟨v1, rfl, rfl, hb⟩
  have HB := Lib.hid (below_call HB.out hb)
  clear hb
  go_wp2
  go_ret
  exact ⟨_, rfl, rfl, HB.out⟩


set_option maxRecDepth 100000 in
set_option maxHeartbeats 4000000 in
theorem ldot_ne {pu pv : Option Addr} {n m cu cv : Nat} {z : Int}  {w : World} (hb : decide (20 < ((n : Nat) : Int)) = false) (hc : decide (20 < ((m : Nat) : Int)) = false) (hne : (((n : Nat) : Int) != ((m : Nat) : Int)) = true)  :
    Calls Try.prog 7 #[.slice pu n cu, .slice pv m cv, .int .i64 z] w (Ret w (Val (.bool true))) := by
  have Hne := Lib.hid hne
  clear hne
  have hne : (((n : Nat) : Int) != ((m : Nat) : Int)) = true := Hne.out
  go_enter Try.func7, Try.ntmps7
  have HB := Lib.hid (Below.refl w.heap.size w)
  go_wp2_with fail
  refine Calls.mono (awake51) ?_
  rintro e w1 ⟨v1, rfl, rfl, hb⟩
  have HB := Lib.hid (below_call HB.out hb)
  clear hb
  go_wp2_with fail
  refine Calls.mono (fdot_ne Hne.out) ?_
  rintro e w2 ⟨v2, rfl, rfl, hb⟩
  have HB := Lib.hid (below_call HB.out hb)
  clear hb
  go_wp2_with fail
  refine Calls.mono (zdot_ne Hne.out) ?_
  rintro e w3 ⟨v3, rfl, rfl, hb⟩
  have HB := Lib.hid (below_call HB.out hb)
  clear hb
  go_wp2
  go_ret
  exact ⟨_, rfl, rfl, HB.out⟩


set_option maxRecDepth 100000 in
set_option maxHeartbeats 4000000 in
theorem ldot_s {pu pv : Option Addr} {n cu cv : Nat} {z : Int}  {w : World} (hb : decide (20 < ((n : Nat) : Int)) = false) (hc : decide (((n : Nat) : Int) < 2) = true) {xs ys : List Int} (hsu : Si w (.slice pu n cu) xs) (hsv : Si w (.slice pv n cv) ys) (hz1 : -9223372036854775808 ≤ z) (hz2 : z < 9223372036854775808) {a e : Int} (hf : RV ((z + dots xs ys n : Int) : Rat) = (a, e))  :
    Calls Try.prog 7 #[.slice pu n cu, .slice pv n cv, .int .i64 z] w (Ret w (Val (.bool true))) := by
  have Hsu := Lib.hid hsu
  have Hsv := Lib.hid hsv
  have Hz1 := Lib.hid hz1
  have Hz2 := Lib.hid hz2
  have Hf := Lib.hid hf
  clear hsu hsv hz1 hz2 hf
  go_enter Try.func7, Try.ntmps7
  have HB := Lib.hid (Below.refl w.heap.size w)
  go_wp2_with fail
  refine Calls.mono (awake51) ?_
  rintro e w1 ⟨v1, rfl, rfl, hb⟩
  have HB := Lib.hid (below_call HB.out hb)
  clear hb
  go_wp2_with fail
  refine Calls.mono (fdot_any (Hsu.out.below HB.out) (Hsv.out.below HB.out) Hz1.out Hz2.out Hf.out) ?_
  rintro e w2 ⟨v2, rfl, rfl, hb⟩
  have HB := Lib.hid (below_call HB.out hb)
  clear hb
  go_wp2_with fail
  refine Calls.mono (zdot_t (Hsu.out.below HB.out) (Hsv.out.below HB.out) Hz1.out Hz2.out Hf.out) ?_
  rintro e w3 ⟨v3, rfl, rfl, hb⟩
  have HB := Lib.hid (below_call HB.out hb)
  clear hb
  go_wp2
  go_ret
  exact ⟨_, rfl, rfl, HB.out⟩


set_option maxRecDepth 100000 in
set_option maxHeartbeats 4000000 in
theorem ldot_m {bu bv ou ov n cu cv : Nat} {z : Int} {w : World} {x0 x1 y0 y1 : Int} {r s : List Int} (hb : decide (20 < ((n : Nat) : Int)) = false) (hc : decide (((n : Nat) : Int) < 2) = false) (hn : 2 ≤ n) (hn2 : n ≤ 20)
    (hsu : Si w (.slice (some ⟨bu, ou, none⟩) n cu) (x0 :: x1 :: r)) (hsv : Si w (.slice (some ⟨bv, ov, none⟩) n cv) (y0 :: y1 :: s)) (hz1 : -9223372036854775808 ≤ z) (hz2 : z < 9223372036854775808) {a e : Int} (hf : RV ((z + dots (x0 :: x1 :: r) (y0 :: y1 :: s) n : Int) : Rat) = (a, e)) :
    Calls Try.prog 7 #[.slice (some ⟨bu, ou, none⟩) n cu, .slice (some ⟨bv, ov, none⟩) n cv, .int .i64 z] w (Ret w (Val (.bool true))) := by
  have Hsu := Lib.hid hsu
  have Hsv := Lib.hid hsv
  have Hz1 := Lib.hid hz1
  have Hz2 := Lib.hid hz2
  have Hf := Lib.hid hf
  have Hf2 := Lib.hid (show RV ((z + dots (y1 :: y0 :: s) (x1 :: x0 :: r) n : Int) : Rat) = (a, e) by
    obtain ⟨j, rfl⟩ : ∃ j, n = j + 2 := ⟨n - 2, by omega⟩
    rw [dots_swap]; exact hf)
  have HN := Lib.hid (And.intro hn hn2)
  obtain ⟨_, _, _, he, hl1, _, hx, hcx⟩ := hsu
  injection he with e1 e2 e3
  subst e1 e2 e3
  obtain ⟨_, _, _, he, hl2, _, hy, hcy⟩ := hsv
  injection he with e1 e2 e3
  subst e1 e2 e3
  obtain ⟨_, _, e1, lu, cu'⟩ := hcx (by omega)
  injection e1 with e1
  injection e1 with e1 e2 e3
  subst e1 e2
  obtain ⟨_, _, e1, lv, cv'⟩ := hcy (by omega)
  injection e1 with e1
  injection e1 with e1 e2 e3
  subst e1 e2
  have Lu := Lib.hid lu
  have Lv := Lib.hid lv
  have Cu0 := Lib.hid (show w.cell? ⟨bu, ou, none⟩ = some (.int .i64 x0) from cu' 0 (by omega))
  have Cu1 := Lib.hid (show w.cell? ⟨bu, ou + 1, none⟩ = some (.int .i64 x1) from cu' 1 (by omega))
  have Cv0 := Lib.hid (show w.cell? ⟨bv, ov, none⟩ = some (.int .i64 y0) from cv' 0 (by omega))
  have Cv1 := Lib.hid (show w.cell? ⟨bv, ov + 1, none⟩ = some (.int .i64 y1) from cv' 1 (by omega))
  have HL1 := Lib.hid (show (x1 :: x0 :: r).length = n from hl1)
  have HL2 := Lib.hid (show (y1 :: y0 :: s).length = n from hl2)
  have HX2 := Lib.hid (show ∀ q ∈ x1 :: x0 :: r, -9223372036854775808 ≤ q ∧ q < 9223372036854775808 from fun q hq => hx q (by simp at hq ⊢; rcases hq with h | h | h <;> simp [h]))
  have HY2 := Lib.hid (show ∀ q ∈ y1 :: y0 :: s, -9223372036854775808 ≤ q ∧ q < 9223372036854775808 from fun q hq => hy q (by simp at hq ⊢; rcases hq with h | h | h <;> simp [h]))
  have d0 : 0 < n := by omega
  have d1 : 1 < n := by omega
  clear hz1 hz2 hf hl1 hl2 hx hy hcx hcy lu lv cu' cv' hn2
  go_enter Try.func7, Try.ntmps7
  have HB := Lib.hid (Below.refl w.heap.size w)
  go_wp2_with fail
  refine Calls.mono (awake51) ?_
  rintro e w1 ⟨v1, rfl, rfl, hb⟩
  have HB := Lib.hid (below_call HB.out hb)
  clear hb
  go_wp2_with fail
  refine Calls.mono (fdot_any (Hsu.out.below HB.out) (Hsv.out.below HB.out) Hz1.out Hz2.out Hf.out) ?_
  rintro e w2 ⟨v2, rfl, rfl, hb⟩
  have HB := Lib.hid (below_call HB.out hb)
  clear hb
  go_wp2_with fail
  refine Calls.mono (zdot_t (Hsu.out.below HB.out) (Hsv.out.below HB.out) Hz1.out Hz2.out Hf.out) ?_
  rintro e w3 ⟨v3, rfl, rfl, hb⟩
  have HB := Lib.hid (below_call HB.out hb)
  clear hb
  go_wp2_with (first
    | (at_builtin; have _t := tok1; clear _t tok1; refine wpList_copy_i64 _ rfl _ _ _ _ rfl 2 Try.underlying39 Try.underlying39 (by kernel_rfl) _ rfl _ _ _ _ rfl (Hsv.out.below (HB1.out.alloc HB1.out.size _)) d0 ?_; intro g2 k2 w52 h2 hg2 hb2)
    | (at_builtin; refine wpList_copy_i64 _ rfl _ _ _ _ rfl 2 Try.underlying39 Try.underlying39 (by kernel_rfl) _ rfl _ _ _ _ rfl (Hsu.out.below (HB.out.alloc HB.out.size _)) d0 ?_; intro g1 k1 w51 h1 hg1 hb1; have HB1 := Lib.hid (below_call (HB.out.alloc HB.out.size _) hb1); have tok1 : True := trivial))
  have Ga0 := Lib.hid (show w.heap.size ≤ g1 from Nat.le_trans HB.out.size (Nat.le_trans (by simp) hg1))
  have Gb0 := Lib.hid (show w.heap.size ≤ g2 from Nat.le_trans HB1.out.size (Nat.le_trans (by simp) hg2))
  have Na0b0 := Lib.hid (show g1 ≠ g2 from Nat.ne_of_lt (Nat.lt_of_lt_of_le h1.lt (Nat.le_trans (by simp) hg2)))
  have HB := Lib.hid (below_call (HB1.out.alloc HB1.out.size _) hb2)
  have Xa0 := Lib.hid (Own.pcall (below_call ((Below.refl _ _).alloc (Nat.le_refl _) _) hb2) h1)
  have Xb0 := Lib.hid h2
  clear h1 h2 hg1 hg2 hb1 hb2 HB1
  have Xa0 := Lib.hid (Own.drew Xa0.out)
  have Xb0 := Lib.hid (Own.drew Xb0.out)
  have HB := Lib.hid (Below.drew HB.out)
  refine wp_region_float [g1, g2] [] (by kernel_rfl) (by kernel_rfl) 98 (by kernel_rfl) Flok.nil ?_
  intro ok
  have Hok := Lib.hid ok
  clear ok
  have HG := Lib.hid (Below.refl (w52.drew).heap.size (w52.drew))
  refine good_pureX 0 (some 63) (Go.Op.move (Go.Operand.tmp 11)) (none) (.slice (some ⟨g1, 0, none⟩) n k1) (by kernel_rfl) (by kernel_rfl) (by kernel_rfl) (fun _ _ _ h => h) (fun w' hw' => ?_) ?_
  · first | (go_simp; done) | (go_simp; simp_all; done) | (go_simp; rfl) | (go_simp; simp [bne]; done) | (go_simp; intro _; exfalso; omega)
  simp only [Act.put, List.setIfInBounds_toArray, List.set_cons_zero, List.set_cons_succ]
  refine good_pureX 1 (some 64) (Go.Op.move (Go.Operand.tmp 11)) (none) (.slice (some ⟨g1, 0, none⟩) n k1) (by kernel_rfl) (by kernel_rfl) (by kernel_rfl) (fun _ _ _ h => h) (fun w' hw' => ?_) ?_
  · first | (go_simp; done) | (go_simp; simp_all; done) | (go_simp; rfl) | (go_simp; simp [bne]; done) | (go_simp; intro _; exfalso; omega)
  simp only [Act.put, List.setIfInBounds_toArray, List.set_cons_zero, List.set_cons_succ]
  refine good_pureX 2 (some 65) (Go.Op.move (Go.Operand.tmp 12)) (none) (.slice (some ⟨g2, 0, none⟩) n k2) (by kernel_rfl) (by kernel_rfl) (by kernel_rfl) (fun _ _ _ h => h) (fun w' hw' => ?_) ?_
  · first | (go_simp; done) | (go_simp; simp_all; done) | (go_simp; rfl) | (go_simp; simp [bne]; done) | (go_simp; intro _; exfalso; omega)
  simp only [Act.put, List.setIfInBounds_toArray, List.set_cons_zero, List.set_cons_succ]
  refine good_pureX 3 (some 66) (Go.Op.move (Go.Operand.tmp 12)) (none) (.slice (some ⟨g2, 0, none⟩) n k2) (by kernel_rfl) (by kernel_rfl) (by kernel_rfl) (fun _ _ _ h => h) (fun w' hw' => ?_) ?_
  · first | (go_simp; done) | (go_simp; simp_all; done) | (go_simp; rfl) | (go_simp; simp [bne]; done) | (go_simp; intro _; exfalso; omega)
  simp only [Act.put, List.setIfInBounds_toArray, List.set_cons_zero, List.set_cons_succ]
  refine good_pureX 4 (some 67) (Go.Op.move (Go.Operand.tmp 0)) (none) (.slice (some ⟨bu, ou, none⟩) n cu) (by kernel_rfl) (by kernel_rfl) (by kernel_rfl) (fun _ _ _ h => h) (fun w' hw' => ?_) ?_
  · first | (go_simp; done) | (go_simp; simp_all; done) | (go_simp; rfl) | (go_simp; simp [bne]; done) | (go_simp; intro _; exfalso; omega)
  simp only [Act.put, List.setIfInBounds_toArray, List.set_cons_zero, List.set_cons_succ]
  refine good_pureX 5 (some 68) (Go.Op.indexAddr 39 (Go.Operand.tmp 67) (Go.Operand.const (Go.Value.int Go.IntKind.i64 1))) (none) (.pointer (some ⟨bu, ou + 1, none⟩)) (by kernel_rfl) (by kernel_rfl) (by kernel_rfl) (fun _ _ _ h => h) (fun w' hw' => ?_) ?_
  · first | (go_simp; done) | (go_simp; simp_all; done) | (go_simp; rfl) | (go_simp; simp [bne]; done) | (go_simp; intro _; exfalso; omega)
  simp only [Act.put, List.setIfInBounds_toArray, List.set_cons_zero, List.set_cons_succ]
  refine good_pureX 6 (some 69) (Go.Op.load 2 (Go.Operand.tmp 68)) (none) (.int .i64 x1) (by kernel_rfl) (by kernel_rfl) (by kernel_rfl) (fun _ _ _ h => h) (fun w' hw' => ?_) ?_
  · have c1 := SE.cellOf hw' (Nat.lt_of_lt_of_le Lu.out HB.out.size) (notin2 (Nat.ne_of_lt (Nat.lt_of_lt_of_le Lu.out Ga0.out)) (Nat.ne_of_lt (Nat.lt_of_lt_of_le Lu.out Gb0.out))) ((HB.out.cell (p := ⟨bu, ou + 1, none⟩) Lu.out).trans Cu1.out)
    first | (go_simp; done) | (go_simp; simp_all; done) | (go_simp; rfl) | (go_simp; simp [bne]; done) | (go_simp; intro _; exfalso; omega)
  simp only [Act.put, List.setIfInBounds_toArray, List.set_cons_zero, List.set_cons_succ]
  refine good_pureX 7 (some 70) (Go.Op.move (Go.Operand.tmp 0)) (none) (.slice (some ⟨bu, ou, none⟩) n cu) (by kernel_rfl) (by kernel_rfl) (by kernel_rfl) (fun _ _ _ h => h) (fun w' hw' => ?_) ?_
  · first | (go_simp; done) | (go_simp; simp_all; done) | (go_simp; rfl) | (go_simp; simp [bne]; done) | (go_simp; intro _; exfalso; omega)
  simp only [Act.put, List.setIfInBounds_toArray, List.set_cons_zero, List.set_cons_succ]
  refine good_pureX 8 (some 71) (Go.Op.indexAddr 39 (Go.Operand.tmp 70) (Go.Operand.const (Go.Value.int Go.IntKind.i64 0))) (none) (.pointer (some ⟨bu, ou, none⟩)) (by kernel_rfl) (by kernel_rfl) (by kernel_rfl) (fun _ _ _ h => h) (fun w' hw' => ?_) ?_
  · first | (go_simp; done) | (go_simp; simp_all; done) | (go_simp; rfl) | (go_simp; simp [bne]; done) | (go_simp; intro _; exfalso; omega)
  simp only [Act.put, List.setIfInBounds_toArray, List.set_cons_zero, List.set_cons_succ]
  refine good_pureX 9 (some 72) (Go.Op.load 2 (Go.Operand.tmp 71)) (none) (.int .i64 x0) (by kernel_rfl) (by kernel_rfl) (by kernel_rfl) (fun _ _ _ h => h) (fun w' hw' => ?_) ?_
  · have c1 := SE.cellOf hw' (Nat.lt_of_lt_of_le Lu.out HB.out.size) (notin2 (Nat.ne_of_lt (Nat.lt_of_lt_of_le Lu.out Ga0.out)) (Nat.ne_of_lt (Nat.lt_of_lt_of_le Lu.out Gb0.out))) ((HB.out.cell (p := ⟨bu, ou, none⟩) Lu.out).trans Cu0.out)
    first | (go_simp; done) | (go_simp; simp_all; done) | (go_simp; rfl) | (go_simp; simp [bne]; done) | (go_simp; intro _; exfalso; omega)
  simp only [Act.put, List.setIfInBounds_toArray, List.set_cons_zero, List.set_cons_succ]
  refine good_pureX 10 (some 73) (Go.Op.move (Go.Operand.tmp 1)) (none) (.slice (some ⟨bv, ov, none⟩) n cv) (by kernel_rfl) (by kernel_rfl) (by kernel_rfl) (fun _ _ _ h => h) (fun w' hw' => ?_) ?_
  · first | (go_simp; done) | (go_simp; simp_all; done) | (go_simp; rfl) | (go_simp; simp [bne]; done) | (go_simp; intro _; exfalso; omega)
  simp only [Act.put, List.setIfInBounds_toArray, List.set_cons_zero, List.set_cons_succ]
  refine good_pureX 11 (some 74) (Go.Op.indexAddr 39 (Go.Operand.tmp 73) (Go.Operand.const (Go.Value.int Go.IntKind.i64 1))) (none) (.pointer (some ⟨bv, ov + 1, none⟩)) (by kernel_rfl) (by kernel_rfl) (by kernel_rfl) (fun _ _ _ h => h) (fun w' hw' => ?_) ?_
  · first | (go_simp; done) | (go_simp; simp_all; done) | (go_simp; rfl) | (go_simp; simp [bne]; done) | (go_simp; intro _; exfalso; omega)
  simp only [Act.put, List.setIfInBounds_toArray, List.set_cons_zero, List.set_cons_succ]
  refine good_pureX 12 (some 75) (Go.Op.load 2 (Go.Operand.tmp 74)) (none) (.int .i64 y1) (by kernel_rfl) (by kernel_rfl) (by kernel_rfl) (fun _ _ _ h => h) (fun w' hw' => ?_) ?_
  · have c1 := SE.cellOf hw' (Nat.lt_of_lt_of_le Lv.out HB.out.size) (notin2 (Nat.ne_of_lt (Nat.lt_of_lt_of_le Lv.out Ga0.out)) (Nat.ne_of_lt (Nat.lt_of_lt_of_le Lv.out Gb0.out))) ((HB.out.cell (p := ⟨bv, ov + 1, none⟩) Lv.out).trans Cv1.out)
    first | (go_simp; done) | (go_simp; simp_all; done) | (go_simp; rfl) | (go_simp; simp [bne]; done) | (go_simp; intro _; exfalso; omega)
  simp only [Act.put, List.setIfInBounds_toArray, List.set_cons_zero, List.set_cons_succ]
  refine good_pureX 13 (some 76) (Go.Op.move (Go.Operand.tmp 1)) (none) (.slice (some ⟨bv, ov, none⟩) n cv) (by kernel_rfl) (by kernel_rfl) (by kernel_rfl) (fun _ _ _ h => h) (fun w' hw' => ?_) ?_
  · first | (go_simp; done) | (go_simp; simp_all; done) | (go_simp; rfl) | (go_simp; simp [bne]; done) | (go_simp; intro _; exfalso; omega)
  simp only [Act.put, List.setIfInBounds_toArray, List.set_cons_zero, List.set_cons_succ]
  refine good_pureX 14 (some 77) (Go.Op.indexAddr 39 (Go.Operand.tmp 76) (Go.Operand.const (Go.Value.int Go.IntKind.i64 0))) (none) (.pointer (some ⟨bv, ov, none⟩)) (by kernel_rfl) (by kernel_rfl) (by kernel_rfl) (fun _ _ _ h => h) (fun w' hw' => ?_) ?_
  · first | (go_simp; done) | (go_simp; simp_all; done) | (go_simp; rfl) | (go_simp; simp [bne]; done) | (go_simp; intro _; exfalso; omega)
  simp only [Act.put, List.setIfInBounds_toArray, List.set_cons_zero, List.set_cons_succ]
  refine good_pureX 15 (some 78) (Go.Op.load 2 (Go.Operand.tmp 77)) (none) (.int .i64 y0) (by kernel_rfl) (by kernel_rfl) (by kernel_rfl) (fun _ _ _ h => h) (fun w' hw' => ?_) ?_
  · have c1 := SE.cellOf hw' (Nat.lt_of_lt_of_le Lv.out HB.out.size) (notin2 (Nat.ne_of_lt (Nat.lt_of_lt_of_le Lv.out Ga0.out)) (Nat.ne_of_lt (Nat.lt_of_lt_of_le Lv.out Gb0.out))) ((HB.out.cell (p := ⟨bv, ov, none⟩) Lv.out).trans Cv0.out)
    first | (go_simp; done) | (go_simp; simp_all; done) | (go_simp; rfl) | (go_simp; simp [bne]; done) | (go_simp; intro _; exfalso; omega)
  simp only [Act.put, List.setIfInBounds_toArray, List.set_cons_zero, List.set_cons_succ]
  refine good_pureX 16 (some 79) (Go.Op.indexAddr 39 (Go.Operand.tmp 63) (Go.Operand.const (Go.Value.int Go.IntKind.i64 0))) (none) (.pointer (some ⟨g1, 0, none⟩)) (by kernel_rfl) (by kernel_rfl) (by kernel_rfl) (fun _ _ _ h => h) (fun w' hw' => ?_) ?_
  · first | (go_simp; done) | (go_simp; simp_all; done) | (go_simp; rfl) | (go_simp; simp [bne]; done) | (go_simp; intro _; exfalso; omega)
  simp only [Act.put, List.setIfInBounds_toArray, List.set_cons_zero, List.set_cons_succ]
  refine good_end0 7 (by kernel_rfl) (fun _ w61 hb => ?_)
  have HG := Lib.hid (below_call HG.out hb)
  clear hb
  have Xa0 := Lib.hid (Own.pcall HG.out Xa0.out)
  have Xb0 := Lib.hid (Own.pcall HG.out Xb0.out)
  have HB := Lib.hid (below_call HB.out HG.out)
  have HS := Lib.hid (SE.of (E := [g1, g2]) HG.out)
  refine held_oneX 17 (Go.Op.store 2 (Go.Operand.tmp 79) (Go.Operand.tmp 69)) (none) (World.setCell w61 ⟨g1, 0, none⟩ (.int .i64 x1)) (by kernel_rfl) (by kernel_rfl) (by kernel_rfl) (by kernel_rfl) ?_ (HS.out.store in21) ?_
  · obtain ⟨ca00, ca01, fa00, fa01⟩ := Xa0.out.c2
    first | (go_simp; done) | (go_simp; simp_all; done) | (go_simp; rfl) | (go_simp; simp [bne]; done) | (go_simp; intro _; exfalso; omega)
  obtain ⟨W62, hW⟩ : ∃ W62, W62 = (World.setCell w61 ⟨g1, 0, none⟩ (.int .i64 x1)) := ⟨_, rfl⟩
  rw [← hW]
  obtain ⟨xa0, hk, hf, hbb, hz⟩ := sto3_0 hW Xa0.out 
  have Xa0 := Lib.hid xa0
  have Xb0 := Lib.hid (hf _ _ _ Xb0.out Na0b0.out.symm)
  have HB := Lib.hid (hbb _ HB.out Ga0.out)
  have HS := Lib.hid (show SE (w52.drew) [g1, g2] W62 from by rw [hW]; exact HS.out.store in21)
  clear hW hk hf hbb xa0
  clear hz
  refine held_pureX 18 (some 80) (Go.Op.indexAddr 39 (Go.Operand.tmp 64) (Go.Operand.const (Go.Value.int Go.IntKind.i64 1))) (none) (.pointer (some ⟨g1, 1, none⟩)) (by kernel_rfl) (by kernel_rfl) (by kernel_rfl) (fun _ _ _ h => h) (fun w' => by first | (go_simp; done) | (go_simp; simp_all; done) | (go_simp; rfl) | (go_simp; simp [bne]; done) | (go_simp; intro _; exfalso; omega)) HS.out ?_
  simp only [Act.put, List.setIfInBounds_toArray, List.set_cons_zero, List.set_cons_succ]
  refine held_oneX 19 (Go.Op.store 2 (Go.Operand.tmp 80) (Go.Operand.tmp 72)) (none) (World.setCell W62 ⟨g1, 1, none⟩ (.int .i64 x0)) (by kernel_rfl) (by kernel_rfl) (by kernel_rfl) (by kernel_rfl) ?_ (HS.out.store in21) ?_
  · obtain ⟨ca00, ca01, fa00, fa01⟩ := Xa0.out.c2
    first | (go_simp; done) | (go_simp; simp_all; done) | (go_simp; rfl) | (go_simp; simp [bne]; done) | (go_simp; intro _; exfalso; omega)
  obtain ⟨W63, hW⟩ : ∃ W63, W63 = (World.setCell W62 ⟨g1, 1, none⟩ (.int .i64 x0)) := ⟨_, rfl⟩
  rw [← hW]
  obtain ⟨xa0, hk, hf, hbb, hz⟩ := sto3_1 hW Xa0.out 
  have Xa0 := Lib.hid xa0
  have Xb0 := Lib.hid (hf _ _ _ Xb0.out Na0b0.out.symm)
  have HB := Lib.hid (hbb _ HB.out Ga0.out)
  have HS := Lib.hid (show SE (w52.drew) [g1, g2] W63 from by rw [hW]; exact HS.out.store in21)
  clear hW hk hf hbb xa0
  clear hz
  refine held_pureX 20 (some 81) (Go.Op.indexAddr 39 (Go.Operand.tmp 65) (Go.Operand.const (Go.Value.int Go.IntKind.i64 0))) (none) (.pointer (some ⟨g2, 0, none⟩)) (by kernel_rfl) (by kernel_rfl) (by kernel_rfl) (fun _ _ _ h => h) (fun w' => by first | (go_simp; done) | (go_simp; simp_all; done) | (go_simp; rfl) | (go_simp; simp [bne]; done) | (go_simp; intro _; exfalso; omega)) HS.out ?_
  simp only [Act.put, List.setIfInBounds_toArray, List.set_cons_zero, List.set_cons_succ]
  refine held_oneX 21 (Go.Op.store 2 (Go.Operand.tmp 81) (Go.Operand.tmp 75)) (none) (World.setCell W63 ⟨g2, 0, none⟩ (.int .i64 y1)) (by kernel_rfl) (by kernel_rfl) (by kernel_rfl) (by kernel_rfl) ?_ (HS.out.store in22) ?_
  · obtain ⟨cb00, cb01, fb00, fb01⟩ := Xb0.out.c2
    first | (go_simp; done) | (go_simp; simp_all; done) | (go_simp; rfl) | (go_simp; simp [bne]; done) | (go_simp; intro _; exfalso; omega)
  obtain ⟨W64, hW⟩ : ∃ W64, W64 = (World.setCell W63 ⟨g2, 0, none⟩ (.int .i64 y1)) := ⟨_, rfl⟩
  rw [← hW]
  obtain ⟨xb0, hk, hf, hbb, hz⟩ := sto3_0 hW Xb0.out 
  have Xa0 := Lib.hid (hf _ _ _ Xa0.out Na0b0.out)
  have Xb0 := Lib.hid xb0
  have HB := Lib.hid (hbb _ HB.out Gb0.out)
  have HS := Lib.hid (show SE (w52.drew) [g1, g2] W64 from by rw [hW]; exact HS.out.store in22)
  clear hW hk hf hbb xb0
  clear hz
  refine held_pureX 22 (some 82) (Go.Op.indexAddr 39 (Go.Operand.tmp 66) (Go.Operand.const (Go.Value.int Go.IntKind.i64 1))) (none) (.pointer (some ⟨g2, 1, none⟩)) (by kernel_rfl) (by kernel_rfl) (by kernel_rfl) (fun _ _ _ h => h) (fun w' => by first | (go_simp; done) | (go_simp; simp_all; done) | (go_simp; rfl) | (go_simp; simp [bne]; done) | (go_simp; intro _; exfalso; omega)) HS.out ?_
  simp only [Act.put, List.setIfInBounds_toArray, List.set_cons_zero, List.set_cons_succ]
  refine held_oneX 23 (Go.Op.store 2 (Go.Operand.tmp 82) (Go.Operand.tmp 78)) (none) (World.setCell W64 ⟨g2, 1, none⟩ (.int .i64 y0)) (by kernel_rfl) (by kernel_rfl) (by kernel_rfl) (by kernel_rfl) ?_ (HS.out.store in22) ?_
  · obtain ⟨cb00, cb01, fb00, fb01⟩ := Xb0.out.c2
    first | (go_simp; done) | (go_simp; simp_all; done) | (go_simp; rfl) | (go_simp; simp [bne]; done) | (go_simp; intro _; exfalso; omega)
  obtain ⟨W65, hW⟩ : ∃ W65, W65 = (World.setCell W64 ⟨g2, 1, none⟩ (.int .i64 y0)) := ⟨_, rfl⟩
  rw [← hW]
  obtain ⟨xb0, hk, hf, hbb, hz⟩ := sto3_1 hW Xb0.out 
  have Xa0 := Lib.hid (hf _ _ _ Xa0.out Na0b0.out)
  have Xb0 := Lib.hid xb0
  have HB := Lib.hid (hbb _ HB.out Gb0.out)
  have HS := Lib.hid (show SE (w52.drew) [g1, g2] W65 from by rw [hW]; exact HS.out.store in22)
  clear hW hk hf hbb xb0
  clear hz
  refine wpAnyH_done (by kernel_rfl) ?_ _
  clear HG HS Hok 
  obtain ⟨ca00, ca01, fa00, fa01⟩ := Xa0.out.c2
  have la0 := Xa0.out.lt
  obtain ⟨cb00, cb01, fb00, fb01⟩ := Xb0.out.c2
  have lb0 := Xb0.out.lt
  go_wp2_with fail
  clear ca00 ca01 fa00 fa01 la0 cb00 cb01 fb00 fb01 lb0
  refine Calls.mono (fdot_any (Own.si Xb0.out HL2.out (by have := HN.out; omega) HY2.out) (Own.si Xa0.out HL1.out (by have := HN.out; omega) HX2.out) Hz1.out Hz2.out Hf2.out) ?_
  rintro e w66 ⟨v66, rfl, rfl, hb⟩
  have Xa0 := Lib.hid (Own.pcall hb Xa0.out)
  have Xb0 := Lib.hid (Own.pcall hb Xb0.out)
  have HB := Lib.hid (below_call HB.out hb)
  clear hb
  obtain ⟨ca00, ca01, fa00, fa01⟩ := Xa0.out.c2
  have la0 := Xa0.out.lt
  obtain ⟨cb00, cb01, fb00, fb01⟩ := Xb0.out.c2
  have lb0 := Xb0.out.lt
  go_wp2
  clear ca00 ca01 fa00 fa01 la0 cb00 cb01 fb00 fb01 lb0
  go_ret
  exact ⟨_, rfl, rfl, HB.out⟩

end Go.Proofs.Ytfffehmkohcgcaa
namespace Go.Proofs.Ytfffehmkohcgcaa
open Go.RowKit Go.ChangeShapes Go.WideShapes Nt
set_option linter.unusedVariables false
def RowI (w : World) (v : Value) (n : Nat) : Prop := n ≤ 1099511627776 → ∃ xs, Si w v xs ∧ xs.length = n
theorem si_of_row {a : Option Addr} {n c : Nat} {zs : List Int} {w : World} (hn : n ≤ 1099511627776)
    (h : (a = none ∧ n = 0 ∧ c = 0 ∧ zs = []) ∨
      ∃ x, a = some x ∧ n ≤ c ∧ c ≤ maxLen ∧ zs.length = c ∧ (∀ i, i < zs.length → w.cell? (x.add i) = some (.int .i64 (zs.getD i 0))) ∧ ∀ n ∈ zs, (Lit.int .i64 n).wf = true) :
    ∃ xs, Si w (.slice a n c) xs ∧ xs.length = n := by
  rcases h with ⟨rfl, rfl, rfl, -⟩ | ⟨x, rfl, hnc, -, hl, hc, hw⟩
  · exact ⟨[], ⟨_, _, _, rfl, rfl, hn, by simp, fun h => absurd h (by decide)⟩, rfl⟩
  · have hlen : (zs.take n).length = n := by simp; omega
    refine ⟨zs.take n, ⟨_, _, _, rfl, hlen, hn, fun y hy => wf_i64 (hw y (List.mem_of_mem_take hy)), ?_⟩, hlen⟩
    intro h0
    have c0 := hc 0 (by omega)
    rw [show x.add 0 = x by rfl] at c0
    obtain ⟨bl, off, spot⟩ := x
    have hs : spot = none := by
      unfold World.cell? at c0
      split at c0
      · split at c0
        · cases c0
        · next h => simpa using h
      · cases c0
    subst hs
    refine ⟨bl, off, rfl, ?_, fun i hi => ?_⟩
    · unfold World.cell? at c0
      split at c0
      · next h => exact (Array.getElem?_eq_some_iff.1 h).1
      · cases c0
    · have := hc i (by omega)
      rw [Addr.add_lit] at this
      rw [this]
      have : (zs.take n).getD i 0 = zs.getD i 0 := by simp [List.getD, hi]
      rw [this]
set_option maxRecDepth 100000 in
theorem rowI_of_read {H : Type} {enc : TypeId × Value → H} {w : World} {base : Nat} {held : Bool} {fuel : Nat} {c : Value} {y : DataW H × List MemPlace}
    (h : DataW.trod enc Try.prog w base (fun _ => true) held fuel 39 [c] = some y) : ∃ a n k, c = .slice a n k ∧ RowI w (.slice a n k) n := by
  rcases open_ints Try.underlying39 Try.underlying2 (by kernel_rfl) h with ⟨hcs, _⟩ | ⟨x, l, c', zs, hcs, _, hl, hm, hz, _, hcell, hwz⟩
  · injection hcs with h1 _
    subst h1
    exact ⟨_, _, _, rfl, fun hn => si_of_row hn (Or.inl ⟨rfl, rfl, rfl, rfl⟩)⟩
  · injection hcs with h1 _
    subst h1
    exact ⟨_, _, _, rfl, fun hn => si_of_row hn (Or.inr ⟨x, rfl, hl, hm, by simpa using hz, hcell, hwz⟩)⟩
set_option maxRecDepth 100000 in
theorem open_I64s {H : Type} {enc : TypeId × Value → H} {w : World} {base : Nat} {held : Bool} {r : Reach} {b0 : Nat} {v : Value} {d : DataW H} {p : List MemPlace}
    (hv : Value.okWide Try.prog w r b0 39 v) (h : DataW.Trod enc Try.prog w base (fun _ => true) held 39 v d p) : ∃ a n c, v = .slice a n c ∧ RowI w (.slice a n c) n := by
  obtain ⟨a, n, c, rfl⟩ := okWide_slice Try.underlying39 hv
  obtain ⟨m, hm⟩ := h
  exact rowI_of_read (c := .slice a n c) hm
theorem FixedDot_all (a0 : Option Addr) (n0 c0 : Nat) (a1 : Option Addr) (n1 c1 : Nat) (z : Int) (w : World) (r0 : RowI w (.slice a0 n0 c0) n0) (r1 : RowI w (.slice a1 n1 c1) n1) (hz : (Lit.int .i64 z).wf = true) :
    Calls Try.prog 7 #[.slice a0 n0 c0, .slice a1 n1 c1, .int .i64 z] w (Ret w (Val (.bool true))) := by
  obtain ⟨z1, z2⟩ := wf_i64 hz
  by_cases h0 : 20 < n0
  · exact ldot_b1 (decide_eq_true (by omega))
  · have d0 : decide (20 < ((n0 : Nat) : Int)) = false := decide_eq_false (by omega)
    by_cases h1 : 20 < n1
    · exact ldot_b2 d0 (decide_eq_true (by omega))
    · have d1 : decide (20 < ((n1 : Nat) : Int)) = false := decide_eq_false (by omega)
      by_cases hne : n0 = n1
      · subst hne
        obtain ⟨xs, hx, lx⟩ := r0 (by omega)
        obtain ⟨ys, hy, ly⟩ := r1 (by omega)
        by_cases h2 : n0 < 2
        · exact ldot_s (a := (RV ((z + dots xs ys n0 : Int) : Rat)).1) (e := (RV ((z + dots xs ys n0 : Int) : Rat)).2) d0 (decide_eq_true (by omega)) hx hy z1 z2 rfl
        · have d2 : decide (((n0 : Nat) : Int) < 2) = false := decide_eq_false (by omega)
          match xs, lx with
          | x0 :: x1 :: r, lx =>
            match ys, ly with
            | y0 :: y1 :: s, ly =>
              have hx' := hx
              have hy' := hy
              obtain ⟨_, _, _, he, _, _, _, hcx⟩ := hx'
              injection he with e1 e2 e3
              subst e1 e2 e3
              obtain ⟨_, _, _, he, _, _, _, hcy⟩ := hy'
              injection he with e1 e2 e3
              subst e1 e2 e3
              obtain ⟨bu, ou, rfl, -⟩ := hcx (by omega)
              obtain ⟨bv, ov, rfl, -⟩ := hcy (by omega)
              exact ldot_m (a := (RV ((z + dots (x0 :: x1 :: r) (y0 :: y1 :: s) n0 : Int) : Rat)).1) (e := (RV ((z + dots (x0 :: x1 :: r) (y0 :: y1 :: s) n0 : Int) : Rat)).2) d0 d2 (by omega) (by omega) hx hy z1 z2 rfl
            | [], ly => exact absurd ly (by simp; omega)
            | [_], ly => exact absurd ly (by simp; omega)
          | [], lx => exact absurd lx (by simp; omega)
          | [_], lx => exact absurd lx (by simp; omega)
      · exact ldot_ne d0 d1 (bne_iff_ne.2 (by omega))

end Go.Proofs.Ytfffehmkohcgcaa
