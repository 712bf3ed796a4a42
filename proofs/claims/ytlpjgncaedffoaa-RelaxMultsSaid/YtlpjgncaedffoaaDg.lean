/- Texts RelE, in this order. -/
import Derived.Test.YtlpjgncaedffoaaDc
import Derived.Test.YtlpjgncaedffoaaDf
namespace Go.Proofs.Ytlpjgncaedffoaa
open Go.RowKit Nt
set_option linter.unusedVariables false
theorem Box.c4 {w : World} {g : Nat} {t : TypeId} {a b c d : Value} (h : Box w g t #[a, b, c, d]) :
    w.cell? ⟨g, 0, none⟩ = some a ∧ w.cell? ⟨g, 1, none⟩ = some b ∧ w.cell? ⟨g, 2, none⟩ = some c ∧ w.cell? ⟨g, 3, none⟩ = some d ∧ w.frozen? ⟨g, 0, none⟩ = false ∧ w.frozen? ⟨g, 1, none⟩ = false ∧ w.frozen? ⟨g, 2, none⟩ = false ∧ w.frozen? ⟨g, 3, none⟩ = false :=
  ⟨h.cell 0 rfl, h.cell 1 rfl, h.cell 2 rfl, h.cell 3 rfl, h.free 0, h.free 1, h.free 2, h.free 3⟩
theorem Box.c7 {w : World} {g : Nat} {t : TypeId} {a b c d e f i : Value} (h : Box w g t #[a, b, c, d, e, f, i]) :
    w.cell? ⟨g, 0, none⟩ = some a ∧ w.cell? ⟨g, 1, none⟩ = some b ∧ w.cell? ⟨g, 2, none⟩ = some c ∧ w.cell? ⟨g, 3, none⟩ = some d ∧ w.cell? ⟨g, 4, none⟩ = some e ∧ w.cell? ⟨g, 5, none⟩ = some f ∧ w.cell? ⟨g, 6, none⟩ = some i ∧
    w.frozen? ⟨g, 0, none⟩ = false ∧ w.frozen? ⟨g, 1, none⟩ = false ∧ w.frozen? ⟨g, 2, none⟩ = false ∧ w.frozen? ⟨g, 3, none⟩ = false ∧ w.frozen? ⟨g, 4, none⟩ = false ∧ w.frozen? ⟨g, 5, none⟩ = false ∧ w.frozen? ⟨g, 6, none⟩ = false :=
  ⟨h.cell 0 rfl, h.cell 1 rfl, h.cell 2 rfl, h.cell 3 rfl, h.cell 4 rfl, h.cell 5 rfl, h.cell 6 rfl, h.free 0, h.free 1, h.free 2, h.free 3, h.free 4, h.free 5, h.free 6⟩
theorem results_tt {fn : Func} {p q : Tmp} (h : fn.results = #[.tmp p, .tmp q]) (tmps : Array Value) (P : Program) (w : World) (x y : Value) (hp : tmps.getD p undef = x) (hq : tmps.getD q undef = y) : (results fn tmps).run P w = .ok (.tuple #[x, y]) w := by
  have hp' : tmps[p]?.getD undef = x := by simpa using hp
  have hq' : tmps[q]?.getD undef = y := by simpa using hq
  simp [results, h, hp', hq']
theorem ret_tt {fn : Func} {p q : Tmp} {a : Act} {w0 W : World} {R : World → Value → Prop} {x y : Value} (hres : fn.results = #[.tmp p, .tmp q]) (hp : a.tmps.getD p undef = x) (hq : a.tmps.getD q undef = y) (hd : a.defers = [])
    (hR : R W (.tuple #[x, y])) (HB : Below w0.heap.size w0 W) : bodyPost Try.prog fn (Ret w0 R) .ret a W :=
  bodyPost_ret (results_tt hres _ _ _ x y hp hq) hd ⟨_, rfl, hR, HB⟩
/-- One multiplier, in a block of its own. -/
def UPR (n0 : Nat) (k x y z : Int) (q : Rat) (L : Nat) (w : World) (v : Value) : Prop := ∃ g b s n c t m e, v = .tuple #[.slice (some ⟨g, 0, none⟩) 1 1, .int .i64 0] ∧ n0 ≤ g ∧
  Box w g 50 #[.int .i64 k, .int .i64 x, .int .i64 y, .int .i64 z, .bool b, .slice s n c, .slice t m e] ∧ CR q L w (.agg #[.bool b, .slice s n c, .slice t m e])

set_option maxRecDepth 100000 in
set_option maxHeartbeats 4000000 in
theorem rlup_y {x y z : Int} {L : Nat} {qa : Rat} {ba : Bool} {sa ta : Value} {qb : Rat} {bb : Bool} {sb tb : Value} {w : World} (hx : decide (x < 0) = false) (hy : decide (y < 1) = false) (hz : decide (z < 1) = false) (hu : unst qa qb = true) (hn0 : qb - qa ≠ 0) (ha : AR qa L w (.agg #[.bool ba, sa, ta])) (hb : AR qb L w (.agg #[.bool bb, sb, tb])) (hL : L ≤ 10000) :
    Calls Try.prog 32 #[.int .i64 x, .int .i64 y, .int .i64 z, .agg #[.bool ba, sa, ta], .agg #[.bool bb, sb, tb]] w (Ret w (UPR w.heap.size 13 x y z (((1 : Int) : Rat) / (qb - qa)) (L + L + 20))) := by
  have Ha := Lib.hid ha
  have Hb := Lib.hid hb
  have Hu := Lib.hid hu
  have Hn0 := Lib.hid hn0
  clear ha hb hu hn0
  go_enter Try.func32, Try.ntmps32
  have HB := Lib.hid (Below.refl w.heap.size w)
  go_wp2_with fail
  obtain ⟨W1, hW⟩ : ∃ W1, W1 = (World.alloc (World.alloc w (.cells #[.bool ba, sa, ta] 25)) (.cells #[.bool bb, sb, tb] 25)) := ⟨_, rfl⟩
  rw [← hW]
  obtain ⟨xa0, xb0, hk, hb⟩ := boxes_2 _ _ _ _ _ hW
  clear hW
  have Ha := Lib.hid (AR.keep Ha.out hk)
  have Hb := Lib.hid (AR.keep Hb.out hk)
  have Ga0 := Lib.hid (show w.heap.size ≤ w.heap.size from Nat.le_trans HB.out.size (by omega))
  have Gb0 := Lib.hid (show w.heap.size ≤ w.heap.size + 1 from Nat.le_trans HB.out.size (by omega))
  have Xa0 := Lib.hid xa0
  have Xb0 := Lib.hid xb0
  have HB := Lib.hid (below_call HB.out hb)
  clear hk hb xa0 xb0
  (first | (have hcall := rluns_ar Hu.out Ha.out Hb.out (by omega); refine Calls.mono hcall ?_; clear hcall) | refine Calls.mono (rluns_ar Hu.out Ha.out Hb.out (by omega)) ?_)
  rintro e w2 ⟨v2, rfl, rfl, hb⟩
  have Ha := Lib.hid (AR.keep Ha.out (Keep.call hb))
  have Hb := Lib.hid (AR.keep Hb.out (Keep.call hb))
  have Xa0 := Lib.hid (Box.pcall hb Xa0.out)
  have Xb0 := Lib.hid (Box.pcall hb Xb0.out)
  have HB := Lib.hid (below_call HB.out hb)
  clear hb
  obtain ⟨ca00, ca01, ca02, fa00, fa01, fa02⟩ := Xa0.out.c3
  have la0 := Xa0.out.lt
  obtain ⟨cb00, cb01, cb02, fb00, fb01, fb02⟩ := Xb0.out.c3
  have lb0 := Xb0.out.lt
  go_wp2_with fail
  clear ca00 ca01 ca02 fa00 fa01 fa02 la0 cb00 cb01 cb02 fb00 fb01 fb02 lb0
  have Ha := Lib.hid (AR.keep Ha.out (Keep.drew w2))
  have Hb := Lib.hid (AR.keep Hb.out (Keep.drew w2))
  have Xa0 := Lib.hid (Box.drew Xa0.out)
  have Xb0 := Lib.hid (Box.drew Xb0.out)
  have HB := Lib.hid (Below.drew HB.out)
  refine wp_region_float [] [] (by kernel_rfl) (by kernel_rfl) 48 (by kernel_rfl) Flok.nil ?_
  intro ok
  have Hok := Lib.hid ok
  clear ok
  have HG := Lib.hid (Below.refl (w2.drew).heap.size (w2.drew))
  refine good_pureX 0 (some 37) (Go.Op.move (Go.Operand.tmp 0)) (none) (.int .i64 x) (by kernel_rfl) (by kernel_rfl) (by kernel_rfl) (fun _ _ _ h => h) (fun w' hw' => ?_) ?_
  · first | (go_simp; done) | (go_simp; simp_all; done) | (go_simp; rfl)
  simp only [Act.put, List.setIfInBounds_toArray, List.set_cons_zero, List.set_cons_succ]
  refine good_pureX 1 (some 38) (Go.Op.move (Go.Operand.tmp 1)) (none) (.int .i64 y) (by kernel_rfl) (by kernel_rfl) (by kernel_rfl) (fun _ _ _ h => h) (fun w' hw' => ?_) ?_
  · first | (go_simp; done) | (go_simp; simp_all; done) | (go_simp; rfl)
  simp only [Act.put, List.setIfInBounds_toArray, List.set_cons_zero, List.set_cons_succ]
  refine good_pureX 2 (some 39) (Go.Op.move (Go.Operand.tmp 2)) (none) (.int .i64 z) (by kernel_rfl) (by kernel_rfl) (by kernel_rfl) (fun _ _ _ h => h) (fun w' hw' => ?_) ?_
  · first | (go_simp; done) | (go_simp; simp_all; done) | (go_simp; rfl)
  simp only [Act.put, List.setIfInBounds_toArray, List.set_cons_zero, List.set_cons_succ]
  refine good_pureX 3 (some 40) (Go.Op.build 48 #[(0, Go.Operand.const (Go.Value.int Go.IntKind.i64 13)), (1, Go.Operand.tmp 37), (2, Go.Operand.tmp 38), (3, Go.Operand.tmp 39)]) (none) (.agg #[.int .i64 13, .int .i64 x, .int .i64 y, .int .i64 z]) (by kernel_rfl) (by kernel_rfl) (by kernel_rfl) (fun _ _ _ h => h) (fun w' hw' => ?_) ?_
  · first | (go_simp; done) | (go_simp; simp_all; done) | (go_simp; rfl)
  simp only [Act.put, List.setIfInBounds_toArray, List.set_cons_zero, List.set_cons_succ]
  refine good_pureX 5 (some 42) (Go.Op.load 25 (Go.Operand.tmp 9)) (none) (.agg #[.bool bb, sb, tb]) (by kernel_rfl) (by kernel_rfl) (by kernel_rfl) (fun _ _ _ h => h) (fun w' hw' => ?_) ?_
  · obtain ⟨cb00, cb01, cb02, fb00, fb01, fb02⟩ := (Box.se hw' Xb0.out notin0).c3
    first | (go_simp; done) | (go_simp; simp_all; done) | (go_simp; rfl)
  simp only [Act.put, List.setIfInBounds_toArray, List.set_cons_zero, List.set_cons_succ]
  refine good_pureX 6 (some 43) (Go.Op.load 25 (Go.Operand.tmp 8)) (none) (.agg #[.bool ba, sa, ta]) (by kernel_rfl) (by kernel_rfl) (by kernel_rfl) (fun _ _ _ h => h) (fun w' hw' => ?_) ?_
  · obtain ⟨ca00, ca01, ca02, fa00, fa01, fa02⟩ := (Box.se hw' Xa0.out notin0).c3
    first | (go_simp; done) | (go_simp; simp_all; done) | (go_simp; rfl)
  simp only [Act.put, List.setIfInBounds_toArray, List.set_cons_zero, List.set_cons_succ]
  refine good_callX 4 46 (some 41) #[Go.Operand.const (Go.Value.int Go.IntKind.i64 1)] #[3] (none) #[.int .i64 1] (by kernel_rfl) Hok.out (by kernel_rfl) (by kernel_rfl) (by kernel_rfl) (by kernel_rfl) rfl rfl rfl (by kernel_rfl) (fun w3 hb => ?_)
  have HG := Lib.hid (below_call HG.out hb)
  clear hb
  refine Calls.mono (of_rat (x := 1) (by decide) (by decide)) ?_
  rintro e w4 ⟨v4, rfl, ho1, hb⟩
  obtain ⟨o1_b, o1_a, o1_n, o1_c, o1_d, o1_m, o1_e, rfl⟩ := ho1.litb
  refine ⟨_, rfl, ?_, hb⟩
  have HG := Lib.hid (below_call HG.out hb)
  have Ho1 := Lib.hid ho1
  clear hb ho1
  simp only [Act.put, List.setIfInBounds_toArray, List.set_cons_zero, List.set_cons_succ]
  refine good_callX 7 38 (some 44) #[Go.Operand.tmp 42, Go.Operand.tmp 43] #[25, 25] (none) #[.agg #[.bool bb, sb, tb], .agg #[.bool ba, sa, ta]] (by kernel_rfl) Hok.out (by kernel_rfl) (by kernel_rfl) (by kernel_rfl) (by kernel_rfl) rfl rfl rfl (by kernel_rfl) (fun w5 hb => ?_)
  have Ho1 := Lib.hid (CR.keep Ho1.out (Keep.call hb))
  have HG := Lib.hid (below_call HG.out hb)
  clear hb
  (first | (have hcall := rsub_ar (AR.keep Hb.out (Keep.call HG.out)) (AR.keep Ha.out (Keep.call HG.out)) (by omega) (by omega); refine Calls.mono hcall ?_; clear hcall) | refine Calls.mono (rsub_ar (AR.keep Hb.out (Keep.call HG.out)) (AR.keep Ha.out (Keep.call HG.out)) (by omega) (by omega)) ?_)
  rintro e w6 ⟨v6, rfl, hd1, hb⟩
  obtain ⟨d1_b, d1_a, d1_n, d1_c, d1_d, d1_m, d1_e, rfl⟩ := hd1.litb
  refine ⟨_, rfl, ?_, hb⟩
  have Ho1 := Lib.hid (CR.keep Ho1.out (Keep.call hb))
  have HG := Lib.hid (below_call HG.out hb)
  have Hd1 := Lib.hid hd1
  clear hb hd1
  simp only [Act.put, List.setIfInBounds_toArray, List.set_cons_zero, List.set_cons_succ]
  refine good_callX 8 37 (some 45) #[Go.Operand.tmp 41, Go.Operand.tmp 44] #[25, 25] (none) #[.agg #[.bool o1_b, .slice o1_a o1_n o1_c, .slice o1_d o1_m o1_e], .agg #[.bool d1_b, .slice d1_a d1_n d1_c, .slice d1_d d1_m d1_e]] (by kernel_rfl) Hok.out (by kernel_rfl) (by kernel_rfl) (by kernel_rfl) (by kernel_rfl) rfl rfl rfl (by kernel_rfl) (fun w7 hb => ?_)
  have Ho1 := Lib.hid (CR.keep Ho1.out (Keep.call hb))
  have Hd1 := Lib.hid (CR.keep Hd1.out (Keep.call hb))
  have HG := Lib.hid (below_call HG.out hb)
  clear hb
  (first | (have hcall := rlquo_ar Hn0.out Ho1.out.ar Hd1.out.ar (by omega) (by omega); refine Calls.mono hcall ?_; clear hcall) | refine Calls.mono (rlquo_ar Hn0.out Ho1.out.ar Hd1.out.ar (by omega) (by omega)) ?_)
  rintro e w8 ⟨v8, rfl, hq1, hb⟩
  obtain ⟨q1_b, q1_a, q1_n, q1_c, q1_d, q1_m, q1_e, rfl⟩ := hq1.litb
  refine ⟨_, rfl, ?_, hb⟩
  have HG := Lib.hid (below_call HG.out hb)
  have Hq1 := Lib.hid hq1
  clear hb hq1
  simp only [Act.put, List.setIfInBounds_toArray, List.set_cons_zero, List.set_cons_succ]
  refine good_pureX 9 (some 46) (Go.Op.build 50 #[(0, Go.Operand.tmp 40), (1, Go.Operand.tmp 45)]) (none) (.agg #[.int .i64 13, .int .i64 x, .int .i64 y, .int .i64 z, .bool q1_b, .slice q1_a q1_n q1_c, .slice q1_d q1_m q1_e]) (by kernel_rfl) (by kernel_rfl) (by kernel_rfl) (fun _ _ _ h => h) (fun w' hw' => ?_) ?_
  · first | (go_simp; done) | (go_simp; simp_all; done) | (go_simp; rfl)
  simp only [Act.put, List.setIfInBounds_toArray, List.set_cons_zero, List.set_cons_succ]
  refine good_growX 10 (some 47) (Go.Op.buildSlice 44 1 #[(0, Go.Operand.tmp 46)]) (none) (by kernel_rfl) Hok.out (by kernel_rfl) (by kernel_rfl) (by kernel_rfl) (by kernel_rfl) (fun w9 hb => ?_)
  have Hq1 := Lib.hid (CR.keep Hq1.out (Keep.call hb))
  have HG := Lib.hid (below_call HG.out hb)
  clear hb
  refine ⟨.slice (some ⟨w9.heap.size, 0, none⟩) 1 1, World.alloc w9 (.cells #[.int .i64 13, .int .i64 x, .int .i64 y, .int .i64 z, .bool q1_b, .slice q1_a q1_n q1_c, .slice q1_d q1_m q1_e] 50), ?_, (Below.refl _ _).alloc (Nat.le_refl _) _, ?_⟩
  · first | (go_simp; done) | (go_simp; simp_all; done) | (go_simp; rfl)
  have Na0c0 := Lib.hid (show w.heap.size ≠ w9.heap.size from Nat.ne_of_lt (Nat.lt_of_lt_of_le Xa0.out.lt HG.out.size))
  have Nb0c0 := Lib.hid (show w.heap.size + 1 ≠ w9.heap.size from Nat.ne_of_lt (Nat.lt_of_lt_of_le Xb0.out.lt HG.out.size))
  have Gc0 := Lib.hid (show w.heap.size ≤ w9.heap.size from Nat.le_trans HB.out.size HG.out.size)
  obtain ⟨W10, hW⟩ : ∃ W10, W10 = (World.alloc w9 (.cells #[.int .i64 13, .int .i64 x, .int .i64 y, .int .i64 z, .bool q1_b, .slice q1_a q1_n q1_c, .slice q1_d q1_m q1_e] 50)) := ⟨_, rfl⟩
  rw [← hW]
  obtain ⟨xc0, hk, hb⟩ := boxes_1 _ _ _ hW
  clear hW
  have Hq1 := Lib.hid (CR.keep Hq1.out hk)
  have HG := Lib.hid (below_call HG.out hb)
  have Xc0 := Lib.hid xc0
  clear hk hb xc0
  simp only [Act.put, List.setIfInBounds_toArray, List.set_cons_zero, List.set_cons_succ]
  refine good_pureX 11 (some 10) (Go.Op.assign (Go.Operand.tmp 47)) (none) (.slice (some ⟨w9.heap.size, 0, none⟩) 1 1) (by kernel_rfl) (by kernel_rfl) (by kernel_rfl) (fun _ _ _ h => h) (fun w' hw' => ?_) ?_
  · first | (go_simp; done) | (go_simp; simp_all; done) | (go_simp; rfl)
  simp only [Act.put, List.setIfInBounds_toArray, List.set_cons_zero, List.set_cons_succ]
  refine good_pureX 12 (some 11) (Go.Op.assign (Go.Operand.const (Go.Value.int Go.IntKind.i64 0))) (none) (.int .i64 0) (by kernel_rfl) (by kernel_rfl) (by kernel_rfl) (fun _ _ _ h => h) (fun w' hw' => ?_) ?_
  · first | (go_simp; done) | (go_simp; simp_all; done) | (go_simp; rfl)
  simp only [Act.put, List.setIfInBounds_toArray, List.set_cons_zero, List.set_cons_succ]
  refine good_end0 0 (by kernel_rfl) (fun _ w11 hb => ?_)
  have Hq1 := Lib.hid (CR.keep Hq1.out (Keep.call hb))
  have Xc0 := Lib.hid (Box.pcall hb Xc0.out)
  have HG := Lib.hid (below_call HG.out hb)
  clear hb
  have Xa0 := Lib.hid (Box.pcall HG.out Xa0.out)
  have Xb0 := Lib.hid (Box.pcall HG.out Xb0.out)
  have HB := Lib.hid (below_call HB.out HG.out)
  have HS := Lib.hid (SE.of (E := []) HG.out)
  refine wpAnyH_done (by kernel_rfl) ?_ _
  clear HG HS Hok 
  obtain ⟨ca00, ca01, ca02, fa00, fa01, fa02⟩ := Xa0.out.c3
  have la0 := Xa0.out.lt
  obtain ⟨cb00, cb01, cb02, fb00, fb01, fb02⟩ := Xb0.out.c3
  have lb0 := Xb0.out.lt
  go_wp2
  clear ca00 ca01 ca02 fa00 fa01 fa02 la0 cb00 cb01 cb02 fb00 fb01 fb02 lb0
  exact ret_tt rfl rfl rfl rfl ⟨_, _, _, _, _, _, _, _, rfl, Gc0.out, Xc0.out, CR.mono Hq1.out (by omega)⟩ HB.out


theorem rlup_ar {x y z : Int} {a b : Rat} {L : Nat} {u v : Value} {w : World} (hx : 0 ≤ x) (hy : 1 ≤ y) (hz : 1 ≤ z) (hu : unst a b = true) (h : AR a L w u) (h' : AR b L w v) (hL : L ≤ 10000) :
    Calls Try.prog 32 #[.int .i64 x, .int .i64 y, .int .i64 z, u, v] w (Ret w (UPR w.heap.size 13 x y z (((1 : Int) : Rat) / (b - a)) (L + L + 20))) := by
  obtain ⟨ba, sa, ta, rfl⟩ := h.agg
  obtain ⟨bb, sb, tb, rfl⟩ := h'.agg
  exact rlup_y (decide_eq_false (by omega)) (decide_eq_false (by omega)) (decide_eq_false (by omega)) hu (unst_ne hu) h h' hL

set_option maxRecDepth 100000 in
set_option maxHeartbeats 4000000 in
theorem zlup_y {x y z : Int} {L : Nat} {qa : Rat} {ba : Bool} {sa ta : Value} {qb : Rat} {bb : Bool} {sb tb : Value} {w : World} (hx : decide (x < 0) = false) (hy : decide (y < 1) = false) (hz : decide (z < 1) = false) (hu : unst qa qb = true) (hn0 : qb - qa ≠ 0) (ha : AR qa L w (.agg #[.bool ba, sa, ta])) (hb : AR qb L w (.agg #[.bool bb, sb, tb])) (hL : L ≤ 10000) :
    Calls Try.prog 33 #[.int .i64 x, .int .i64 y, .int .i64 z, .agg #[.bool ba, sa, ta], .agg #[.bool bb, sb, tb]] w (Ret w (UPR w.heap.size 13 x y z (((1 : Int) : Rat) / (qb - qa)) (L + L + 20))) := by
  have Ha := Lib.hid ha
  have Hb := Lib.hid hb
  have Hu := Lib.hid hu
  have Hn0 := Lib.hid hn0
  clear ha hb hu hn0
  go_enter Try.func33, Try.ntmps33
  have HB := Lib.hid (Below.refl w.heap.size w)
  go_wp2_with fail
  obtain ⟨W1, hW⟩ : ∃ W1, W1 = (World.alloc (World.alloc w (.cells #[.bool ba, sa, ta] 25)) (.cells #[.bool bb, sb, tb] 25)) := ⟨_, rfl⟩
  rw [← hW]
  obtain ⟨xa0, xb0, hk, hb⟩ := boxes_2 _ _ _ _ _ hW
  clear hW
  have Ha := Lib.hid (AR.keep Ha.out hk)
  have Hb := Lib.hid (AR.keep Hb.out hk)
  have Ga0 := Lib.hid (show w.heap.size ≤ w.heap.size from Nat.le_trans HB.out.size (by omega))
  have Gb0 := Lib.hid (show w.heap.size ≤ w.heap.size + 1 from Nat.le_trans HB.out.size (by omega))
  have Xa0 := Lib.hid xa0
  have Xb0 := Lib.hid xb0
  have HB := Lib.hid (below_call HB.out hb)
  clear hk hb xa0 xb0
  (first | (have hcall := zluns_ar Hu.out Ha.out Hb.out (by omega); refine Calls.mono hcall ?_; clear hcall) | refine Calls.mono (zluns_ar Hu.out Ha.out Hb.out (by omega)) ?_)
  rintro e w2 ⟨v2, rfl, rfl, hb⟩
  have Ha := Lib.hid (AR.keep Ha.out (Keep.call hb))
  have Hb := Lib.hid (AR.keep Hb.out (Keep.call hb))
  have Xa0 := Lib.hid (Box.pcall hb Xa0.out)
  have Xb0 := Lib.hid (Box.pcall hb Xb0.out)
  have HB := Lib.hid (below_call HB.out hb)
  clear hb
  obtain ⟨ca00, ca01, ca02, fa00, fa01, fa02⟩ := Xa0.out.c3
  have la0 := Xa0.out.lt
  obtain ⟨cb00, cb01, cb02, fb00, fb01, fb02⟩ := Xb0.out.c3
  have lb0 := Xb0.out.lt
  go_wp2_with fail
  clear ca00 ca01 ca02 fa00 fa01 fa02 la0 cb00 cb01 cb02 fb00 fb01 fb02 lb0
  obtain ⟨W3, hW⟩ : ∃ W3, W3 = (World.alloc w2 (.cells #[.int .i64 13, .int .i64 x, .int .i64 y, .int .i64 z] 48)) := ⟨_, rfl⟩
  rw [← hW]
  obtain ⟨xc0, hk, hb⟩ := boxes_1 _ _ _ hW
  clear hW
  have Ha := Lib.hid (AR.keep Ha.out hk)
  have Hb := Lib.hid (AR.keep Hb.out hk)
  have Na0c0 := Lib.hid (show w.heap.size ≠ w2.heap.size from Nat.ne_of_lt (Nat.lt_of_lt_of_le Xa0.out.lt (by omega)))
  have Nb0c0 := Lib.hid (show w.heap.size + 1 ≠ w2.heap.size from Nat.ne_of_lt (Nat.lt_of_lt_of_le Xb0.out.lt (by omega)))
  have Gc0 := Lib.hid (show w.heap.size ≤ w2.heap.size from Nat.le_trans HB.out.size (by omega))
  have Xa0 := Lib.hid (Box.pcall hb Xa0.out)
  have Xb0 := Lib.hid (Box.pcall hb Xb0.out)
  have Xc0 := Lib.hid xc0
  have HB := Lib.hid (below_call HB.out hb)
  clear hk hb xc0
  have Ha := Lib.hid (AR.keep Ha.out (Keep.drew W3))
  have Hb := Lib.hid (AR.keep Hb.out (Keep.drew W3))
  have Xa0 := Lib.hid (Box.drew Xa0.out)
  have Xb0 := Lib.hid (Box.drew Xb0.out)
  have Xc0 := Lib.hid (Box.drew Xc0.out)
  have HB := Lib.hid (Below.drew HB.out)
  refine wp_region_float [] [] (by kernel_rfl) (by kernel_rfl) 39 (by kernel_rfl) Flok.nil ?_
  intro ok
  have Hok := Lib.hid ok
  clear ok
  have HG := Lib.hid (Below.refl (W3.drew).heap.size (W3.drew))
  refine good_pureX 0 (some 31) (Go.Op.load 48 (Go.Operand.tmp 12)) (none) (.agg #[.int .i64 13, .int .i64 x, .int .i64 y, .int .i64 z]) (by kernel_rfl) (by kernel_rfl) (by kernel_rfl) (fun _ _ _ h => h) (fun w' hw' => ?_) ?_
  · obtain ⟨cc00, cc01, cc02, cc03, fc00, fc01, fc02, fc03⟩ := (Box.se hw' Xc0.out notin0).c4
    first | (go_simp; done) | (go_simp; simp_all; done) | (go_simp; rfl)
  simp only [Act.put, List.setIfInBounds_toArray, List.set_cons_zero, List.set_cons_succ]
  refine good_pureX 2 (some 33) (Go.Op.load 25 (Go.Operand.tmp 9)) (none) (.agg #[.bool bb, sb, tb]) (by kernel_rfl) (by kernel_rfl) (by kernel_rfl) (fun _ _ _ h => h) (fun w' hw' => ?_) ?_
  · obtain ⟨cb00, cb01, cb02, fb00, fb01, fb02⟩ := (Box.se hw' Xb0.out notin0).c3
    first | (go_simp; done) | (go_simp; simp_all; done) | (go_simp; rfl)
  simp only [Act.put, List.setIfInBounds_toArray, List.set_cons_zero, List.set_cons_succ]
  refine good_pureX 3 (some 34) (Go.Op.load 25 (Go.Operand.tmp 8)) (none) (.agg #[.bool ba, sa, ta]) (by kernel_rfl) (by kernel_rfl) (by kernel_rfl) (fun _ _ _ h => h) (fun w' hw' => ?_) ?_
  · obtain ⟨ca00, ca01, ca02, fa00, fa01, fa02⟩ := (Box.se hw' Xa0.out notin0).c3
    first | (go_simp; done) | (go_simp; simp_all; done) | (go_simp; rfl)
  simp only [Act.put, List.setIfInBounds_toArray, List.set_cons_zero, List.set_cons_succ]
  refine good_callX 1 23 (some 32) #[Go.Operand.const (Go.Value.int Go.IntKind.i64 1)] #[3] (none) #[.int .i64 1] (by kernel_rfl) Hok.out (by kernel_rfl) (by kernel_rfl) (by kernel_rfl) (by kernel_rfl) rfl rfl rfl (by kernel_rfl) (fun w4 hb => ?_)
  have HG := Lib.hid (below_call HG.out hb)
  clear hb
  refine Calls.mono (zof (x := 1) (by decide) (by decide)) ?_
  rintro e w5 ⟨v5, rfl, ho1, hb⟩
  obtain ⟨o1_b, o1_a, o1_n, o1_c, o1_d, o1_m, o1_e, rfl⟩ := ho1.litb
  refine ⟨_, rfl, ?_, hb⟩
  have HG := Lib.hid (below_call HG.out hb)
  have Ho1 := Lib.hid ho1
  clear hb ho1
  simp only [Act.put, List.setIfInBounds_toArray, List.set_cons_zero, List.set_cons_succ]
  refine good_callX 4 30 (some 35) #[Go.Operand.tmp 33, Go.Operand.tmp 34] #[25, 25] (none) #[.agg #[.bool bb, sb, tb], .agg #[.bool ba, sa, ta]] (by kernel_rfl) Hok.out (by kernel_rfl) (by kernel_rfl) (by kernel_rfl) (by kernel_rfl) rfl rfl rfl (by kernel_rfl) (fun w6 hb => ?_)
  have Ho1 := Lib.hid (CR.keep Ho1.out (Keep.call hb))
  have HG := Lib.hid (below_call HG.out hb)
  clear hb
  (first | (have hcall := zsub_ar (AR.keep Hb.out (Keep.call HG.out)) (AR.keep Ha.out (Keep.call HG.out)) (by omega) (by omega); refine Calls.mono hcall ?_; clear hcall) | refine Calls.mono (zsub_ar (AR.keep Hb.out (Keep.call HG.out)) (AR.keep Ha.out (Keep.call HG.out)) (by omega) (by omega)) ?_)
  rintro e w7 ⟨v7, rfl, hd1, hb⟩
  obtain ⟨d1_b, d1_a, d1_n, d1_c, d1_d, d1_m, d1_e, rfl⟩ := hd1.litb
  refine ⟨_, rfl, ?_, hb⟩
  have Ho1 := Lib.hid (CR.keep Ho1.out (Keep.call hb))
  have HG := Lib.hid (below_call HG.out hb)
  have Hd1 := Lib.hid hd1
  clear hb hd1
  simp only [Act.put, List.setIfInBounds_toArray, List.set_cons_zero, List.set_cons_succ]
  refine good_callX 5 39 (some 36) #[Go.Operand.tmp 32, Go.Operand.tmp 35] #[25, 25] (none) #[.agg #[.bool o1_b, .slice o1_a o1_n o1_c, .slice o1_d o1_m o1_e], .agg #[.bool d1_b, .slice d1_a d1_n d1_c, .slice d1_d d1_m d1_e]] (by kernel_rfl) Hok.out (by kernel_rfl) (by kernel_rfl) (by kernel_rfl) (by kernel_rfl) rfl rfl rfl (by kernel_rfl) (fun w8 hb => ?_)
  have Ho1 := Lib.hid (CR.keep Ho1.out (Keep.call hb))
  have Hd1 := Lib.hid (CR.keep Hd1.out (Keep.call hb))
  have HG := Lib.hid (below_call HG.out hb)
  clear hb
  (first | (have hcall := zlquo_ar Hn0.out Ho1.out.ar Hd1.out.ar (by omega) (by omega); refine Calls.mono hcall ?_; clear hcall) | refine Calls.mono (zlquo_ar Hn0.out Ho1.out.ar Hd1.out.ar (by omega) (by omega)) ?_)
  rintro e w9 ⟨v9, rfl, hq1, hb⟩
  obtain ⟨q1_b, q1_a, q1_n, q1_c, q1_d, q1_m, q1_e, rfl⟩ := hq1.litb
  refine ⟨_, rfl, ?_, hb⟩
  have HG := Lib.hid (below_call HG.out hb)
  have Hq1 := Lib.hid hq1
  clear hb hq1
  simp only [Act.put, List.setIfInBounds_toArray, List.set_cons_zero, List.set_cons_succ]
  refine good_pureX 6 (some 37) (Go.Op.build 50 #[(0, Go.Operand.tmp 31), (1, Go.Operand.tmp 36)]) (none) (.agg #[.int .i64 13, .int .i64 x, .int .i64 y, .int .i64 z, .bool q1_b, .slice q1_a q1_n q1_c, .slice q1_d q1_m q1_e]) (by kernel_rfl) (by kernel_rfl) (by kernel_rfl) (fun _ _ _ h => h) (fun w' hw' => ?_) ?_
  · first | (go_simp; done) | (go_simp; simp_all; done) | (go_simp; rfl)
  simp only [Act.put, List.setIfInBounds_toArray, List.set_cons_zero, List.set_cons_succ]
  refine good_growX 7 (some 38) (Go.Op.buildSlice 44 1 #[(0, Go.Operand.tmp 37)]) (none) (by kernel_rfl) Hok.out (by kernel_rfl) (by kernel_rfl) (by kernel_rfl) (by kernel_rfl) (fun w10 hb => ?_)
  have Hq1 := Lib.hid (CR.keep Hq1.out (Keep.call hb))
  have HG := Lib.hid (below_call HG.out hb)
  clear hb
  refine ⟨.slice (some ⟨w10.heap.size, 0, none⟩) 1 1, World.alloc w10 (.cells #[.int .i64 13, .int .i64 x, .int .i64 y, .int .i64 z, .bool q1_b, .slice q1_a q1_n q1_c, .slice q1_d q1_m q1_e] 50), ?_, (Below.refl _ _).alloc (Nat.le_refl _) _, ?_⟩
  · first | (go_simp; done) | (go_simp; simp_all; done) | (go_simp; rfl)
  have Na0d0 := Lib.hid (show w.heap.size ≠ w10.heap.size from Nat.ne_of_lt (Nat.lt_of_lt_of_le Xa0.out.lt HG.out.size))
  have Nb0d0 := Lib.hid (show w.heap.size + 1 ≠ w10.heap.size from Nat.ne_of_lt (Nat.lt_of_lt_of_le Xb0.out.lt HG.out.size))
  have Nc0d0 := Lib.hid (show w2.heap.size ≠ w10.heap.size from Nat.ne_of_lt (Nat.lt_of_lt_of_le Xc0.out.lt HG.out.size))
  have Gd0 := Lib.hid (show w.heap.size ≤ w10.heap.size from Nat.le_trans HB.out.size HG.out.size)
  obtain ⟨W11, hW⟩ : ∃ W11, W11 = (World.alloc w10 (.cells #[.int .i64 13, .int .i64 x, .int .i64 y, .int .i64 z, .bool q1_b, .slice q1_a q1_n q1_c, .slice q1_d q1_m q1_e] 50)) := ⟨_, rfl⟩
  rw [← hW]
  obtain ⟨xd0, hk, hb⟩ := boxes_1 _ _ _ hW
  clear hW
  have Hq1 := Lib.hid (CR.keep Hq1.out hk)
  have HG := Lib.hid (below_call HG.out hb)
  have Xd0 := Lib.hid xd0
  clear hk hb xd0
  simp only [Act.put, List.setIfInBounds_toArray, List.set_cons_zero, List.set_cons_succ]
  refine good_pureX 8 (some 10) (Go.Op.assign (Go.Operand.tmp 38)) (none) (.slice (some ⟨w10.heap.size, 0, none⟩) 1 1) (by kernel_rfl) (by kernel_rfl) (by kernel_rfl) (fun _ _ _ h => h) (fun w' hw' => ?_) ?_
  · first | (go_simp; done) | (go_simp; simp_all; done) | (go_simp; rfl)
  simp only [Act.put, List.setIfInBounds_toArray, List.set_cons_zero, List.set_cons_succ]
  refine good_pureX 9 (some 11) (Go.Op.assign (Go.Operand.const (Go.Value.int Go.IntKind.i64 0))) (none) (.int .i64 0) (by kernel_rfl) (by kernel_rfl) (by kernel_rfl) (fun _ _ _ h => h) (fun w' hw' => ?_) ?_
  · first | (go_simp; done) | (go_simp; simp_all; done) | (go_simp; rfl)
  simp only [Act.put, List.setIfInBounds_toArray, List.set_cons_zero, List.set_cons_succ]
  refine good_end0 0 (by kernel_rfl) (fun _ w12 hb => ?_)
  have Hq1 := Lib.hid (CR.keep Hq1.out (Keep.call hb))
  have Xd0 := Lib.hid (Box.pcall hb Xd0.out)
  have HG := Lib.hid (below_call HG.out hb)
  clear hb
  have Xa0 := Lib.hid (Box.pcall HG.out Xa0.out)
  have Xb0 := Lib.hid (Box.pcall HG.out Xb0.out)
  have Xc0 := Lib.hid (Box.pcall HG.out Xc0.out)
  have HB := Lib.hid (below_call HB.out HG.out)
  have HS := Lib.hid (SE.of (E := []) HG.out)
  refine wpAnyH_done (by kernel_rfl) ?_ _
  clear HG HS Hok 
  obtain ⟨ca00, ca01, ca02, fa00, fa01, fa02⟩ := Xa0.out.c3
  have la0 := Xa0.out.lt
  obtain ⟨cb00, cb01, cb02, fb00, fb01, fb02⟩ := Xb0.out.c3
  have lb0 := Xb0.out.lt
  go_wp2
  clear ca00 ca01 ca02 fa00 fa01 fa02 la0 cb00 cb01 cb02 fb00 fb01 fb02 lb0
  exact ret_tt rfl rfl rfl rfl ⟨_, _, _, _, _, _, _, _, rfl, Gd0.out, Xd0.out, CR.mono Hq1.out (by omega)⟩ HB.out


theorem zlup_ar {x y z : Int} {a b : Rat} {L : Nat} {u v : Value} {w : World} (hx : 0 ≤ x) (hy : 1 ≤ y) (hz : 1 ≤ z) (hu : unst a b = true) (h : AR a L w u) (h' : AR b L w v) (hL : L ≤ 10000) :
    Calls Try.prog 33 #[.int .i64 x, .int .i64 y, .int .i64 z, u, v] w (Ret w (UPR w.heap.size 13 x y z (((1 : Int) : Rat) / (b - a)) (L + L + 20))) := by
  obtain ⟨ba, sa, ta, rfl⟩ := h.agg
  obtain ⟨bb, sb, tb, rfl⟩ := h'.agg
  exact zlup_y (decide_eq_false (by omega)) (decide_eq_false (by omega)) (decide_eq_false (by omega)) hu (unst_ne hu) h h' hL

set_option maxRecDepth 100000 in
set_option maxHeartbeats 4000000 in
theorem ltri_big {ba : Bool} {sa ta : Option Addr} {na ca ma ea : Nat} {bb : Bool} {sb tb : Option Addr} {nb cb mb eb : Nat} {bc : Bool} {sc tc : Option Addr} {nc cc mc ec : Nat} {bd : Bool} {sd td : Option Addr} {nd cd md ed : Nat}  {w : World} (hB8 : ([⟨ba, sa, na, ca, ta, ma, ea⟩, ⟨bb, sb, nb, cb, tb, mb, eb⟩, ⟨bc, sc, nc, cc, tc, mc, ec⟩, ⟨bd, sd, nd, cd, td, md, ed⟩] : List Rw).any Rw.big = true)  :
    Calls Try.prog 8 #[.agg #[.bool ba, .slice sa na ca, .slice ta ma ea], .agg #[.bool bb, .slice sb nb cb, .slice tb mb eb], .agg #[.bool bc, .slice sc nc cc, .slice tc mc ec], .agg #[.bool bd, .slice sd nd cd, .slice td md ed]] w (Ret w (Val (.bool true))) := by
  have HB8 := Lib.hid hB8
  clear hB8
  go_enter Try.func8, Try.ntmps8
  have HB := Lib.hid (Below.refl w.heap.size w)
  go_wp2_with fail
  obtain ⟨W1, hW⟩ : ∃ W1, W1 = (World.alloc (World.alloc (World.alloc (World.alloc w (.cells #[.bool ba, .slice sa na ca, .slice ta ma ea] 25)) (.cells #[.bool bb, .slice sb nb cb, .slice tb mb eb] 25)) (.cells #[.bool bc, .slice sc nc cc, .slice tc mc ec] 25)) (.cells #[.bool bd, .slice sd nd cd, .slice td md ed] 25)) := ⟨_, rfl⟩
  rw [← hW]
  obtain ⟨xa0, xb0, xc0, xd0, hk, hb⟩ := boxes_4 _ _ _ _ _ _ _ _ _ hW
  clear hW
  have Ga0 := Lib.hid (show w.heap.size ≤ w.heap.size from Nat.le_trans HB.out.size (by omega))
  have Gb0 := Lib.hid (show w.heap.size ≤ w.heap.size + 1 from Nat.le_trans HB.out.size (by omega))
  have Gc0 := Lib.hid (show w.heap.size ≤ w.heap.size + 1 + 1 from Nat.le_trans HB.out.size (by omega))
  have Gd0 := Lib.hid (show w.heap.size ≤ w.heap.size + 1 + 1 + 1 from Nat.le_trans HB.out.size (by omega))
  have Xa0 := Lib.hid xa0
  have Xb0 := Lib.hid xb0
  have Xc0 := Lib.hid xc0
  have Xd0 := Lib.hid xd0
  have HB := Lib.hid (below_call HB.out hb)
  clear hk hb xa0 xb0 xc0 xd0
  refine Calls.mono (awake25) ?_
  rintro e w2 ⟨v2, rfl, rfl, hb⟩
  have Xa0 := Lib.hid (Box.pcall hb Xa0.out)
  have Xb0 := Lib.hid (Box.pcall hb Xb0.out)
  have Xc0 := Lib.hid (Box.pcall hb Xc0.out)
  have Xd0 := Lib.hid (Box.pcall hb Xd0.out)
  have HB := Lib.hid (below_call HB.out hb)
  clear hb
  obtain ⟨ca00, ca01, ca02, fa00, fa01, fa02⟩ := Xa0.out.c3
  have la0 := Xa0.out.lt
  obtain ⟨cb00, cb01, cb02, fb00, fb01, fb02⟩ := Xb0.out.c3
  have lb0 := Xb0.out.lt
  obtain ⟨cc00, cc01, cc02, fc00, fc01, fc02⟩ := Xc0.out.c3
  have lc0 := Xc0.out.lt
  obtain ⟨cd00, cd01, cd02, fd00, fd01, fd02⟩ := Xd0.out.c3
  have ld0 := Xd0.out.lt
  go_wp2_with fail
  clear ca00 ca01 ca02 fa00 fa01 fa02 la0 cb00 cb01 cb02 fb00 fb01 fb02 lb0 cc00 cc01 cc02 fc00 fc01 fc02 lc0 cd00 cd01 cd02 fd00 fd01 fd02 ld0
  obtain ⟨W3, hW⟩ : ∃ W3, W3 = (World.alloc w2 (.cells #[.bool ba, .slice sa na ca, .slice ta ma ea, .bool bb, .slice sb nb cb, .slice tb mb eb, .bool bc, .slice sc nc cc, .slice tc mc ec, .bool bd, .slice sd nd cd, .slice td md ed] 25)) := ⟨_, rfl⟩
  rw [← hW]
  obtain ⟨xe0, hk, hb⟩ := boxes_1 _ _ _ hW
  clear hW
  have Na0e0 := Lib.hid (show w.heap.size ≠ w2.heap.size from Nat.ne_of_lt (Nat.lt_of_lt_of_le Xa0.out.lt (by omega)))
  have Nb0e0 := Lib.hid (show w.heap.size + 1 ≠ w2.heap.size from Nat.ne_of_lt (Nat.lt_of_lt_of_le Xb0.out.lt (by omega)))
  have Nc0e0 := Lib.hid (show w.heap.size + 1 + 1 ≠ w2.heap.size from Nat.ne_of_lt (Nat.lt_of_lt_of_le Xc0.out.lt (by omega)))
  have Nd0e0 := Lib.hid (show w.heap.size + 1 + 1 + 1 ≠ w2.heap.size from Nat.ne_of_lt (Nat.lt_of_lt_of_le Xd0.out.lt (by omega)))
  have Ge0 := Lib.hid (show w.heap.size ≤ w2.heap.size from Nat.le_trans HB.out.size (by omega))
  have Xa0 := Lib.hid (Box.pcall hb Xa0.out)
  have Xb0 := Lib.hid (Box.pcall hb Xb0.out)
  have Xc0 := Lib.hid (Box.pcall hb Xc0.out)
  have Xd0 := Lib.hid (Box.pcall hb Xd0.out)
  have Xe0 := Lib.hid xe0
  have HB := Lib.hid (below_call HB.out hb)
  clear hk hb xe0
  refine Calls.mono (large4 Xe0.out HB8.out) ?_
  rintro e w4 ⟨v4, rfl, rfl, hb⟩
  have Xa0 := Lib.hid (Box.pcall hb Xa0.out)
  have Xb0 := Lib.hid (Box.pcall hb Xb0.out)
  have Xc0 := Lib.hid (Box.pcall hb Xc0.out)
  have Xd0 := Lib.hid (Box.pcall hb Xd0.out)
  have Xe0 := Lib.hid (Box.pcall hb Xe0.out)
  have HB := Lib.hid (below_call HB.out hb)
  clear hb
  obtain ⟨ca00, ca01, ca02, fa00, fa01, fa02⟩ := Xa0.out.c3
  have la0 := Xa0.out.lt
  obtain ⟨cb00, cb01, cb02, fb00, fb01, fb02⟩ := Xb0.out.c3
  have lb0 := Xb0.out.lt
  obtain ⟨cc00, cc01, cc02, fc00, fc01, fc02⟩ := Xc0.out.c3
  have lc0 := Xc0.out.lt
  obtain ⟨cd00, cd01, cd02, fd00, fd01, fd02⟩ := Xd0.out.c3
  have ld0 := Xd0.out.lt
  go_wp2
  clear ca00 ca01 ca02 fa00 fa01 fa02 la0 cb00 cb01 cb02 fb00 fb01 fb02 lb0 cc00 cc01 cc02 fc00 fc01 fc02 lc0 cd00 cd01 cd02 fd00 fd01 fd02 ld0
  go_ret
  exact ⟨_, rfl, rfl, HB.out⟩


set_option maxRecDepth 100000 in
set_option maxHeartbeats 4000000 in
theorem ltri_n {qa : Rat} {ba : Bool} {sa ta : Option Addr} {na ca ma ea : Nat} {qb : Rat} {bb : Bool} {sb tb : Option Addr} {nb cb mb eb : Nat} {qc : Rat} {bc : Bool} {sc tc : Option Addr} {nc cc mc ec : Nat} {qd : Rat} {bd : Bool} {sd td : Option Addr} {nd cd md ed : Nat}  {w : World} (hu : unst qa qb = false) (hB8 : ([⟨ba, sa, na, ca, ta, ma, ea⟩, ⟨bb, sb, nb, cb, tb, mb, eb⟩, ⟨bc, sc, nc, cc, tc, mc, ec⟩, ⟨bd, sd, nd, cd, td, md, ed⟩] : List Rw).any Rw.big = false) (ha : AR qa 8 w (.agg #[.bool ba, .slice sa na ca, .slice ta ma ea])) (hb : AR qb 8 w (.agg #[.bool bb, .slice sb nb cb, .slice tb mb eb])) (hc : AR qc 8 w (.agg #[.bool bc, .slice sc nc cc, .slice tc mc ec])) (hd : AR qd 8 w (.agg #[.bool bd, .slice sd nd cd, .slice td md ed])) :
    Calls Try.prog 8 #[.agg #[.bool ba, .slice sa na ca, .slice ta ma ea], .agg #[.bool bb, .slice sb nb cb, .slice tb mb eb], .agg #[.bool bc, .slice sc nc cc, .slice tc mc ec], .agg #[.bool bd, .slice sd nd cd, .slice td md ed]] w (Ret w (Val (.bool true))) := by
  have Ha := Lib.hid ha
  have Hb := Lib.hid hb
  have Hc := Lib.hid hc
  have Hd := Lib.hid hd
  have HB8 := Lib.hid hB8
  have Hu := Lib.hid hu
  clear ha hb hc hd hB8 hu
  go_enter Try.func8, Try.ntmps8
  have HB := Lib.hid (Below.refl w.heap.size w)
  go_wp2_with fail
  obtain ⟨W1, hW⟩ : ∃ W1, W1 = (World.alloc (World.alloc (World.alloc (World.alloc w (.cells #[.bool ba, .slice sa na ca, .slice ta ma ea] 25)) (.cells #[.bool bb, .slice sb nb cb, .slice tb mb eb] 25)) (.cells #[.bool bc, .slice sc nc cc, .slice tc mc ec] 25)) (.cells #[.bool bd, .slice sd nd cd, .slice td md ed] 25)) := ⟨_, rfl⟩
  rw [← hW]
  obtain ⟨xa0, xb0, xc0, xd0, hk, hb⟩ := boxes_4 _ _ _ _ _ _ _ _ _ hW
  clear hW
  have Ha := Lib.hid (AR.keep Ha.out hk)
  have Hb := Lib.hid (AR.keep Hb.out hk)
  have Ga0 := Lib.hid (show w.heap.size ≤ w.heap.size from Nat.le_trans HB.out.size (by omega))
  have Gb0 := Lib.hid (show w.heap.size ≤ w.heap.size + 1 from Nat.le_trans HB.out.size (by omega))
  have Gc0 := Lib.hid (show w.heap.size ≤ w.heap.size + 1 + 1 from Nat.le_trans HB.out.size (by omega))
  have Gd0 := Lib.hid (show w.heap.size ≤ w.heap.size + 1 + 1 + 1 from Nat.le_trans HB.out.size (by omega))
  have Xa0 := Lib.hid xa0
  have Xb0 := Lib.hid xb0
  have Xc0 := Lib.hid xc0
  have Xd0 := Lib.hid xd0
  have HB := Lib.hid (below_call HB.out hb)
  clear hk hb xa0 xb0 xc0 xd0
  refine Calls.mono (awake25) ?_
  rintro e w2 ⟨v2, rfl, rfl, hb⟩
  have Ha := Lib.hid (AR.keep Ha.out (Keep.call hb))
  have Hb := Lib.hid (AR.keep Hb.out (Keep.call hb))
  have Xa0 := Lib.hid (Box.pcall hb Xa0.out)
  have Xb0 := Lib.hid (Box.pcall hb Xb0.out)
  have Xc0 := Lib.hid (Box.pcall hb Xc0.out)
  have Xd0 := Lib.hid (Box.pcall hb Xd0.out)
  have HB := Lib.hid (below_call HB.out hb)
  clear hb
  obtain ⟨ca00, ca01, ca02, fa00, fa01, fa02⟩ := Xa0.out.c3
  have la0 := Xa0.out.lt
  obtain ⟨cb00, cb01, cb02, fb00, fb01, fb02⟩ := Xb0.out.c3
  have lb0 := Xb0.out.lt
  obtain ⟨cc00, cc01, cc02, fc00, fc01, fc02⟩ := Xc0.out.c3
  have lc0 := Xc0.out.lt
  obtain ⟨cd00, cd01, cd02, fd00, fd01, fd02⟩ := Xd0.out.c3
  have ld0 := Xd0.out.lt
  go_wp2_with fail
  clear ca00 ca01 ca02 fa00 fa01 fa02 la0 cb00 cb01 cb02 fb00 fb01 fb02 lb0 cc00 cc01 cc02 fc00 fc01 fc02 lc0 cd00 cd01 cd02 fd00 fd01 fd02 ld0
  obtain ⟨W3, hW⟩ : ∃ W3, W3 = (World.alloc w2 (.cells #[.bool ba, .slice sa na ca, .slice ta ma ea, .bool bb, .slice sb nb cb, .slice tb mb eb, .bool bc, .slice sc nc cc, .slice tc mc ec, .bool bd, .slice sd nd cd, .slice td md ed] 25)) := ⟨_, rfl⟩
  rw [← hW]
  obtain ⟨xe0, hk, hb⟩ := boxes_1 _ _ _ hW
  clear hW
  have Ha := Lib.hid (AR.keep Ha.out hk)
  have Hb := Lib.hid (AR.keep Hb.out hk)
  have Na0e0 := Lib.hid (show w.heap.size ≠ w2.heap.size from Nat.ne_of_lt (Nat.lt_of_lt_of_le Xa0.out.lt (by omega)))
  have Nb0e0 := Lib.hid (show w.heap.size + 1 ≠ w2.heap.size from Nat.ne_of_lt (Nat.lt_of_lt_of_le Xb0.out.lt (by omega)))
  have Nc0e0 := Lib.hid (show w.heap.size + 1 + 1 ≠ w2.heap.size from Nat.ne_of_lt (Nat.lt_of_lt_of_le Xc0.out.lt (by omega)))
  have Nd0e0 := Lib.hid (show w.heap.size + 1 + 1 + 1 ≠ w2.heap.size from Nat.ne_of_lt (Nat.lt_of_lt_of_le Xd0.out.lt (by omega)))
  have Ge0 := Lib.hid (show w.heap.size ≤ w2.heap.size from Nat.le_trans HB.out.size (by omega))
  have Xa0 := Lib.hid (Box.pcall hb Xa0.out)
  have Xb0 := Lib.hid (Box.pcall hb Xb0.out)
  have Xc0 := Lib.hid (Box.pcall hb Xc0.out)
  have Xd0 := Lib.hid (Box.pcall hb Xd0.out)
  have Xe0 := Lib.hid xe0
  have HB := Lib.hid (below_call HB.out hb)
  clear hk hb xe0
  refine Calls.mono (large4 Xe0.out HB8.out) ?_
  rintro e w4 ⟨v4, rfl, rfl, hb⟩
  have Ha := Lib.hid (AR.keep Ha.out (Keep.call hb))
  have Hb := Lib.hid (AR.keep Hb.out (Keep.call hb))
  have Xa0 := Lib.hid (Box.pcall hb Xa0.out)
  have Xb0 := Lib.hid (Box.pcall hb Xb0.out)
  have Xc0 := Lib.hid (Box.pcall hb Xc0.out)
  have Xd0 := Lib.hid (Box.pcall hb Xd0.out)
  have Xe0 := Lib.hid (Box.pcall hb Xe0.out)
  have HB := Lib.hid (below_call HB.out hb)
  clear hb
  obtain ⟨ca00, ca01, ca02, fa00, fa01, fa02⟩ := Xa0.out.c3
  have la0 := Xa0.out.lt
  obtain ⟨cb00, cb01, cb02, fb00, fb01, fb02⟩ := Xb0.out.c3
  have lb0 := Xb0.out.lt
  obtain ⟨cc00, cc01, cc02, fc00, fc01, fc02⟩ := Xc0.out.c3
  have lc0 := Xc0.out.lt
  obtain ⟨cd00, cd01, cd02, fd00, fd01, fd02⟩ := Xd0.out.c3
  have ld0 := Xd0.out.lt
  go_wp2_with fail
  clear ca00 ca01 ca02 fa00 fa01 fa02 la0 cb00 cb01 cb02 fb00 fb01 fb02 lb0 cc00 cc01 cc02 fc00 fc01 fc02 lc0 cd00 cd01 cd02 fd00 fd01 fd02 ld0
  (first | (have hcall := zluns_ar Hu.out Ha.out Hb.out (by decide); refine Calls.mono hcall ?_; clear hcall) | refine Calls.mono (zluns_ar Hu.out Ha.out Hb.out (by decide)) ?_)
  rintro e w5 ⟨v5, rfl, rfl, hb⟩
  have Xa0 := Lib.hid (Box.pcall hb Xa0.out)
  have Xb0 := Lib.hid (Box.pcall hb Xb0.out)
  have Xc0 := Lib.hid (Box.pcall hb Xc0.out)
  have Xd0 := Lib.hid (Box.pcall hb Xd0.out)
  have Xe0 := Lib.hid (Box.pcall hb Xe0.out)
  have HB := Lib.hid (below_call HB.out hb)
  clear hb
  obtain ⟨ca00, ca01, ca02, fa00, fa01, fa02⟩ := Xa0.out.c3
  have la0 := Xa0.out.lt
  obtain ⟨cb00, cb01, cb02, fb00, fb01, fb02⟩ := Xb0.out.c3
  have lb0 := Xb0.out.lt
  obtain ⟨cc00, cc01, cc02, fc00, fc01, fc02⟩ := Xc0.out.c3
  have lc0 := Xc0.out.lt
  obtain ⟨cd00, cd01, cd02, fd00, fd01, fd02⟩ := Xd0.out.c3
  have ld0 := Xd0.out.lt
  go_wp2
  clear ca00 ca01 ca02 fa00 fa01 fa02 la0 cb00 cb01 cb02 fb00 fb01 fb02 lb0 cc00 cc01 cc02 fc00 fc01 fc02 lc0 cd00 cd01 cd02 fd00 fd01 fd02 ld0
  go_ret
  exact ⟨_, rfl, rfl, HB.out⟩


set_option maxRecDepth 100000 in
set_option maxHeartbeats 4000000 in
theorem ltri_y {qa : Rat} {ba : Bool} {sa ta : Option Addr} {na ca ma ea : Nat} {qb : Rat} {bb : Bool} {sb tb : Option Addr} {nb cb mb eb : Nat} {qc : Rat} {bc : Bool} {sc tc : Option Addr} {nc cc mc ec : Nat} {qd : Rat} {bd : Bool} {sd td : Option Addr} {nd cd md ed : Nat}  {w : World} (hu : unst qa qb = true) (j : Int) (hj : slopeQ qa qb = j) (hB8 : ([⟨ba, sa, na, ca, ta, ma, ea⟩, ⟨bb, sb, nb, cb, tb, mb, eb⟩, ⟨bc, sc, nc, cc, tc, mc, ec⟩, ⟨bd, sd, nd, cd, td, md, ed⟩] : List Rw).any Rw.big = false) (ha : AR qa 8 w (.agg #[.bool ba, .slice sa na ca, .slice ta ma ea])) (hb : AR qb 8 w (.agg #[.bool bb, .slice sb nb cb, .slice tb mb eb])) (hc : AR qc 8 w (.agg #[.bool bc, .slice sc nc cc, .slice tc mc ec])) (hd : AR qd 8 w (.agg #[.bool bd, .slice sd nd cd, .slice td md ed])) :
    Calls Try.prog 8 #[.agg #[.bool ba, .slice sa na ca, .slice ta ma ea], .agg #[.bool bb, .slice sb nb cb, .slice tb mb eb], .agg #[.bool bc, .slice sc nc cc, .slice tc mc ec], .agg #[.bool bd, .slice sd nd cd, .slice td md ed]] w (Ret w (Val (.bool true))) := by
  have Ha := Lib.hid ha
  have Hb := Lib.hid hb
  have Hc := Lib.hid hc
  have Hd := Lib.hid hd
  have HB8 := Lib.hid hB8
  have Hu := Lib.hid hu
  have Hj := Lib.hid hj
  clear ha hb hc hd hB8 hu hj
  go_enter Try.func8, Try.ntmps8
  have HB := Lib.hid (Below.refl w.heap.size w)
  go_wp2_with fail
  obtain ⟨W1, hW⟩ : ∃ W1, W1 = (World.alloc (World.alloc (World.alloc (World.alloc w (.cells #[.bool ba, .slice sa na ca, .slice ta ma ea] 25)) (.cells #[.bool bb, .slice sb nb cb, .slice tb mb eb] 25)) (.cells #[.bool bc, .slice sc nc cc, .slice tc mc ec] 25)) (.cells #[.bool bd, .slice sd nd cd, .slice td md ed] 25)) := ⟨_, rfl⟩
  rw [← hW]
  obtain ⟨xa0, xb0, xc0, xd0, hk, hb⟩ := boxes_4 _ _ _ _ _ _ _ _ _ hW
  clear hW
  have Ha := Lib.hid (AR.keep Ha.out hk)
  have Hb := Lib.hid (AR.keep Hb.out hk)
  have Hc := Lib.hid (AR.keep Hc.out hk)
  have Hd := Lib.hid (AR.keep Hd.out hk)
  have Ga0 := Lib.hid (show w.heap.size ≤ w.heap.size from Nat.le_trans HB.out.size (by omega))
  have Gb0 := Lib.hid (show w.heap.size ≤ w.heap.size + 1 from Nat.le_trans HB.out.size (by omega))
  have Gc0 := Lib.hid (show w.heap.size ≤ w.heap.size + 1 + 1 from Nat.le_trans HB.out.size (by omega))
  have Gd0 := Lib.hid (show w.heap.size ≤ w.heap.size + 1 + 1 + 1 from Nat.le_trans HB.out.size (by omega))
  have Xa0 := Lib.hid xa0
  have Xb0 := Lib.hid xb0
  have Xc0 := Lib.hid xc0
  have Xd0 := Lib.hid xd0
  have HB := Lib.hid (below_call HB.out hb)
  clear hk hb xa0 xb0 xc0 xd0
  refine Calls.mono (awake25) ?_
  rintro e w2 ⟨v2, rfl, rfl, hb⟩
  have Ha := Lib.hid (AR.keep Ha.out (Keep.call hb))
  have Hb := Lib.hid (AR.keep Hb.out (Keep.call hb))
  have Hc := Lib.hid (AR.keep Hc.out (Keep.call hb))
  have Hd := Lib.hid (AR.keep Hd.out (Keep.call hb))
  have Xa0 := Lib.hid (Box.pcall hb Xa0.out)
  have Xb0 := Lib.hid (Box.pcall hb Xb0.out)
  have Xc0 := Lib.hid (Box.pcall hb Xc0.out)
  have Xd0 := Lib.hid (Box.pcall hb Xd0.out)
  have HB := Lib.hid (below_call HB.out hb)
  clear hb
  obtain ⟨ca00, ca01, ca02, fa00, fa01, fa02⟩ := Xa0.out.c3
  have la0 := Xa0.out.lt
  obtain ⟨cb00, cb01, cb02, fb00, fb01, fb02⟩ := Xb0.out.c3
  have lb0 := Xb0.out.lt
  obtain ⟨cc00, cc01, cc02, fc00, fc01, fc02⟩ := Xc0.out.c3
  have lc0 := Xc0.out.lt
  obtain ⟨cd00, cd01, cd02, fd00, fd01, fd02⟩ := Xd0.out.c3
  have ld0 := Xd0.out.lt
  go_wp2_with fail
  clear ca00 ca01 ca02 fa00 fa01 fa02 la0 cb00 cb01 cb02 fb00 fb01 fb02 lb0 cc00 cc01 cc02 fc00 fc01 fc02 lc0 cd00 cd01 cd02 fd00 fd01 fd02 ld0
  obtain ⟨W3, hW⟩ : ∃ W3, W3 = (World.alloc w2 (.cells #[.bool ba, .slice sa na ca, .slice ta ma ea, .bool bb, .slice sb nb cb, .slice tb mb eb, .bool bc, .slice sc nc cc, .slice tc mc ec, .bool bd, .slice sd nd cd, .slice td md ed] 25)) := ⟨_, rfl⟩
  rw [← hW]
  obtain ⟨xe0, hk, hb⟩ := boxes_1 _ _ _ hW
  clear hW
  have Ha := Lib.hid (AR.keep Ha.out hk)
  have Hb := Lib.hid (AR.keep Hb.out hk)
  have Hc := Lib.hid (AR.keep Hc.out hk)
  have Hd := Lib.hid (AR.keep Hd.out hk)
  have Na0e0 := Lib.hid (show w.heap.size ≠ w2.heap.size from Nat.ne_of_lt (Nat.lt_of_lt_of_le Xa0.out.lt (by omega)))
  have Nb0e0 := Lib.hid (show w.heap.size + 1 ≠ w2.heap.size from Nat.ne_of_lt (Nat.lt_of_lt_of_le Xb0.out.lt (by omega)))
  have Nc0e0 := Lib.hid (show w.heap.size + 1 + 1 ≠ w2.heap.size from Nat.ne_of_lt (Nat.lt_of_lt_of_le Xc0.out.lt (by omega)))
  have Nd0e0 := Lib.hid (show w.heap.size + 1 + 1 + 1 ≠ w2.heap.size from Nat.ne_of_lt (Nat.lt_of_lt_of_le Xd0.out.lt (by omega)))
  have Ge0 := Lib.hid (show w.heap.size ≤ w2.heap.size from Nat.le_trans HB.out.size (by omega))
  have Xa0 := Lib.hid (Box.pcall hb Xa0.out)
  have Xb0 := Lib.hid (Box.pcall hb Xb0.out)
  have Xc0 := Lib.hid (Box.pcall hb Xc0.out)
  have Xd0 := Lib.hid (Box.pcall hb Xd0.out)
  have Xe0 := Lib.hid xe0
  have HB := Lib.hid (below_call HB.out hb)
  clear hk hb xe0
  refine Calls.mono (large4 Xe0.out HB8.out) ?_
  rintro e w4 ⟨v4, rfl, rfl, hb⟩
  have Ha := Lib.hid (AR.keep Ha.out (Keep.call hb))
  have Hb := Lib.hid (AR.keep Hb.out (Keep.call hb))
  have Hc := Lib.hid (AR.keep Hc.out (Keep.call hb))
  have Hd := Lib.hid (AR.keep Hd.out (Keep.call hb))
  have Xa0 := Lib.hid (Box.pcall hb Xa0.out)
  have Xb0 := Lib.hid (Box.pcall hb Xb0.out)
  have Xc0 := Lib.hid (Box.pcall hb Xc0.out)
  have Xd0 := Lib.hid (Box.pcall hb Xd0.out)
  have Xe0 := Lib.hid (Box.pcall hb Xe0.out)
  have HB := Lib.hid (below_call HB.out hb)
  clear hb
  obtain ⟨ca00, ca01, ca02, fa00, fa01, fa02⟩ := Xa0.out.c3
  have la0 := Xa0.out.lt
  obtain ⟨cb00, cb01, cb02, fb00, fb01, fb02⟩ := Xb0.out.c3
  have lb0 := Xb0.out.lt
  obtain ⟨cc00, cc01, cc02, fc00, fc01, fc02⟩ := Xc0.out.c3
  have lc0 := Xc0.out.lt
  obtain ⟨cd00, cd01, cd02, fd00, fd01, fd02⟩ := Xd0.out.c3
  have ld0 := Xd0.out.lt
  go_wp2_with fail
  clear ca00 ca01 ca02 fa00 fa01 fa02 la0 cb00 cb01 cb02 fb00 fb01 fb02 lb0 cc00 cc01 cc02 fc00 fc01 fc02 lc0 cd00 cd01 cd02 fd00 fd01 fd02 ld0
  (first | (have hcall := zluns_ar Hu.out Ha.out Hb.out (by decide); refine Calls.mono hcall ?_; clear hcall) | refine Calls.mono (zluns_ar Hu.out Ha.out Hb.out (by decide)) ?_)
  rintro e w5 ⟨v5, rfl, rfl, hb⟩
  have Ha := Lib.hid (AR.keep Ha.out (Keep.call hb))
  have Hb := Lib.hid (AR.keep Hb.out (Keep.call hb))
  have Hc := Lib.hid (AR.keep Hc.out (Keep.call hb))
  have Hd := Lib.hid (AR.keep Hd.out (Keep.call hb))
  have Xa0 := Lib.hid (Box.pcall hb Xa0.out)
  have Xb0 := Lib.hid (Box.pcall hb Xb0.out)
  have Xc0 := Lib.hid (Box.pcall hb Xc0.out)
  have Xd0 := Lib.hid (Box.pcall hb Xd0.out)
  have Xe0 := Lib.hid (Box.pcall hb Xe0.out)
  have HB := Lib.hid (below_call HB.out hb)
  clear hb
  obtain ⟨ca00, ca01, ca02, fa00, fa01, fa02⟩ := Xa0.out.c3
  have la0 := Xa0.out.lt
  obtain ⟨cb00, cb01, cb02, fb00, fb01, fb02⟩ := Xb0.out.c3
  have lb0 := Xb0.out.lt
  obtain ⟨cc00, cc01, cc02, fc00, fc01, fc02⟩ := Xc0.out.c3
  have lc0 := Xc0.out.lt
  obtain ⟨cd00, cd01, cd02, fd00, fd01, fd02⟩ := Xd0.out.c3
  have ld0 := Xd0.out.lt
  go_wp2_with fail
  clear ca00 ca01 ca02 fa00 fa01 fa02 la0 cb00 cb01 cb02 fb00 fb01 fb02 lb0 cc00 cc01 cc02 fc00 fc01 fc02 lc0 cd00 cd01 cd02 fd00 fd01 fd02 ld0
  (first | (have hcall := rlup_ar (x := 0) (y := 1) (z := 2) (by decide) (by decide) (by decide) Hu.out Ha.out Hb.out (by decide); refine Calls.mono hcall ?_; clear hcall) | refine Calls.mono (rlup_ar (x := 0) (y := 1) (z := 2) (by decide) (by decide) (by decide) Hu.out Ha.out Hb.out (by decide)) ?_)
  rintro e w6 ⟨t6, rfl, ⟨gf0, m1_b, m1_a, m1_n, m1_c, m1_d, m1_m, m1_e, rfl, ef0, xf0, hm1⟩, hb⟩
  have Na0f0 := Lib.hid (show w.heap.size ≠ gf0 from Nat.ne_of_lt (Nat.lt_of_lt_of_le Xa0.out.lt ef0))
  have Nb0f0 := Lib.hid (show w.heap.size + 1 ≠ gf0 from Nat.ne_of_lt (Nat.lt_of_lt_of_le Xb0.out.lt ef0))
  have Nc0f0 := Lib.hid (show w.heap.size + 1 + 1 ≠ gf0 from Nat.ne_of_lt (Nat.lt_of_lt_of_le Xc0.out.lt ef0))
  have Nd0f0 := Lib.hid (show w.heap.size + 1 + 1 + 1 ≠ gf0 from Nat.ne_of_lt (Nat.lt_of_lt_of_le Xd0.out.lt ef0))
  have Ne0f0 := Lib.hid (show w2.heap.size ≠ gf0 from Nat.ne_of_lt (Nat.lt_of_lt_of_le Xe0.out.lt ef0))
  have Gf0 := Lib.hid (show w.heap.size ≤ gf0 from Nat.le_trans HB.out.size ef0)
  clear ef0
  have Ha := Lib.hid (AR.keep Ha.out (Keep.call hb))
  have Hb := Lib.hid (AR.keep Hb.out (Keep.call hb))
  have Hc := Lib.hid (AR.keep Hc.out (Keep.call hb))
  have Hd := Lib.hid (AR.keep Hd.out (Keep.call hb))
  have Xa0 := Lib.hid (Box.pcall hb Xa0.out)
  have Xb0 := Lib.hid (Box.pcall hb Xb0.out)
  have Xc0 := Lib.hid (Box.pcall hb Xc0.out)
  have Xd0 := Lib.hid (Box.pcall hb Xd0.out)
  have Xe0 := Lib.hid (Box.pcall hb Xe0.out)
  have HB := Lib.hid (below_call HB.out hb)
  have Hm1 := Lib.hid hm1
  clear hb hm1
  have Xf0 := Lib.hid xf0
  clear xf0
  obtain ⟨ca00, ca01, ca02, fa00, fa01, fa02⟩ := Xa0.out.c3
  have la0 := Xa0.out.lt
  obtain ⟨cb00, cb01, cb02, fb00, fb01, fb02⟩ := Xb0.out.c3
  have lb0 := Xb0.out.lt
  obtain ⟨cc00, cc01, cc02, fc00, fc01, fc02⟩ := Xc0.out.c3
  have lc0 := Xc0.out.lt
  obtain ⟨cd00, cd01, cd02, fd00, fd01, fd02⟩ := Xd0.out.c3
  have ld0 := Xd0.out.lt
  go_wp2_with fail
  clear ca00 ca01 ca02 fa00 fa01 fa02 la0 cb00 cb01 cb02 fb00 fb01 fb02 lb0 cc00 cc01 cc02 fc00 fc01 fc02 lc0 cd00 cd01 cd02 fd00 fd01 fd02 ld0
  (first | (have hcall := rllin_k j Hj.out Hu.out Ha.out Hb.out (by decide); refine Calls.mono hcall ?_; clear hcall) | refine Calls.mono (rllin_k j Hj.out Hu.out Ha.out Hb.out (by decide)) ?_)
  rintro e w7 ⟨t7, rfl, ⟨v7, u7, rfl, hu1, hg1⟩, hb⟩
  obtain ⟨u1_b, u1_a, u1_n, u1_c, u1_d, u1_m, u1_e, rfl⟩ := hu1.litb
  obtain ⟨g1_b, g1_a, g1_n, g1_c, g1_d, g1_m, g1_e, rfl⟩ := hg1.litb
  have Ha := Lib.hid (AR.keep Ha.out (Keep.call hb))
  have Hb := Lib.hid (AR.keep Hb.out (Keep.call hb))
  have Hc := Lib.hid (AR.keep Hc.out (Keep.call hb))
  have Hd := Lib.hid (AR.keep Hd.out (Keep.call hb))
  have Hm1 := Lib.hid (CR.keep Hm1.out (Keep.call hb))
  have Xa0 := Lib.hid (Box.pcall hb Xa0.out)
  have Xb0 := Lib.hid (Box.pcall hb Xb0.out)
  have Xc0 := Lib.hid (Box.pcall hb Xc0.out)
  have Xd0 := Lib.hid (Box.pcall hb Xd0.out)
  have Xe0 := Lib.hid (Box.pcall hb Xe0.out)
  have Xf0 := Lib.hid (Box.pcall hb Xf0.out)
  have HB := Lib.hid (below_call HB.out hb)
  have Hu1 := Lib.hid hu1
  have Hg1 := Lib.hid hg1
  clear hb hu1 hg1
  obtain ⟨ca00, ca01, ca02, fa00, fa01, fa02⟩ := Xa0.out.c3
  have la0 := Xa0.out.lt
  obtain ⟨cb00, cb01, cb02, fb00, fb01, fb02⟩ := Xb0.out.c3
  have lb0 := Xb0.out.lt
  obtain ⟨cc00, cc01, cc02, fc00, fc01, fc02⟩ := Xc0.out.c3
  have lc0 := Xc0.out.lt
  obtain ⟨cd00, cd01, cd02, fd00, fd01, fd02⟩ := Xd0.out.c3
  have ld0 := Xd0.out.lt
  go_wp2_with fail
  clear ca00 ca01 ca02 fa00 fa01 fa02 la0 cb00 cb01 cb02 fb00 fb01 fb02 lb0 cc00 cc01 cc02 fc00 fc01 fc02 lc0 cd00 cd01 cd02 fd00 fd01 fd02 ld0
  obtain ⟨W8, hW⟩ : ∃ W8, W8 = (World.alloc (World.alloc w7 (.cells #[.bool u1_b, .slice u1_a u1_n u1_c, .slice u1_d u1_m u1_e] 25)) (.cells #[.bool g1_b, .slice g1_a g1_n g1_c, .slice g1_d g1_m g1_e] 25)) := ⟨_, rfl⟩
  rw [← hW]
  obtain ⟨xg0, xh0, hk, hb⟩ := boxes_2 _ _ _ _ _ hW
  clear hW
  have Ha := Lib.hid (AR.keep Ha.out hk)
  have Hb := Lib.hid (AR.keep Hb.out hk)
  have Hc := Lib.hid (AR.keep Hc.out hk)
  have Hd := Lib.hid (AR.keep Hd.out hk)
  have Hm1 := Lib.hid (CR.keep Hm1.out hk)
  have Hu1 := Lib.hid (CR.keep Hu1.out hk)
  have Hg1 := Lib.hid (CR.keep Hg1.out hk)
  have Na0g0 := Lib.hid (show w.heap.size ≠ w7.heap.size from Nat.ne_of_lt (Nat.lt_of_lt_of_le Xa0.out.lt (by omega)))
  have Nb0g0 := Lib.hid (show w.heap.size + 1 ≠ w7.heap.size from Nat.ne_of_lt (Nat.lt_of_lt_of_le Xb0.out.lt (by omega)))
  have Nc0g0 := Lib.hid (show w.heap.size + 1 + 1 ≠ w7.heap.size from Nat.ne_of_lt (Nat.lt_of_lt_of_le Xc0.out.lt (by omega)))
  have Nd0g0 := Lib.hid (show w.heap.size + 1 + 1 + 1 ≠ w7.heap.size from Nat.ne_of_lt (Nat.lt_of_lt_of_le Xd0.out.lt (by omega)))
  have Ne0g0 := Lib.hid (show w2.heap.size ≠ w7.heap.size from Nat.ne_of_lt (Nat.lt_of_lt_of_le Xe0.out.lt (by omega)))
  have Nf0g0 := Lib.hid (show gf0 ≠ w7.heap.size from Nat.ne_of_lt (Nat.lt_of_lt_of_le Xf0.out.lt (by omega)))
  have Gg0 := Lib.hid (show w.heap.size ≤ w7.heap.size from Nat.le_trans HB.out.size (by omega))
  have Na0h0 := Lib.hid (show w.heap.size ≠ w7.heap.size + 1 from Nat.ne_of_lt (Nat.lt_of_lt_of_le Xa0.out.lt (by omega)))
  have Nb0h0 := Lib.hid (show w.heap.size + 1 ≠ w7.heap.size + 1 from Nat.ne_of_lt (Nat.lt_of_lt_of_le Xb0.out.lt (by omega)))
  have Nc0h0 := Lib.hid (show w.heap.size + 1 + 1 ≠ w7.heap.size + 1 from Nat.ne_of_lt (Nat.lt_of_lt_of_le Xc0.out.lt (by omega)))
  have Nd0h0 := Lib.hid (show w.heap.size + 1 + 1 + 1 ≠ w7.heap.size + 1 from Nat.ne_of_lt (Nat.lt_of_lt_of_le Xd0.out.lt (by omega)))
  have Ne0h0 := Lib.hid (show w2.heap.size ≠ w7.heap.size + 1 from Nat.ne_of_lt (Nat.lt_of_lt_of_le Xe0.out.lt (by omega)))
  have Nf0h0 := Lib.hid (show gf0 ≠ w7.heap.size + 1 from Nat.ne_of_lt (Nat.lt_of_lt_of_le Xf0.out.lt (by omega)))
  have Gh0 := Lib.hid (show w.heap.size ≤ w7.heap.size + 1 from Nat.le_trans HB.out.size (by omega))
  have Xa0 := Lib.hid (Box.pcall hb Xa0.out)
  have Xb0 := Lib.hid (Box.pcall hb Xb0.out)
  have Xc0 := Lib.hid (Box.pcall hb Xc0.out)
  have Xd0 := Lib.hid (Box.pcall hb Xd0.out)
  have Xe0 := Lib.hid (Box.pcall hb Xe0.out)
  have Xf0 := Lib.hid (Box.pcall hb Xf0.out)
  have Xg0 := Lib.hid xg0
  have Xh0 := Lib.hid xh0
  have HB := Lib.hid (below_call HB.out hb)
  clear hk hb xg0 xh0
  have Ha := Lib.hid (AR.keep Ha.out (Keep.drew W8))
  have Hb := Lib.hid (AR.keep Hb.out (Keep.drew W8))
  have Hc := Lib.hid (AR.keep Hc.out (Keep.drew W8))
  have Hd := Lib.hid (AR.keep Hd.out (Keep.drew W8))
  have Hm1 := Lib.hid (CR.keep Hm1.out (Keep.drew W8))
  have Hu1 := Lib.hid (CR.keep Hu1.out (Keep.drew W8))
  have Hg1 := Lib.hid (CR.keep Hg1.out (Keep.drew W8))
  have Xa0 := Lib.hid (Box.drew Xa0.out)
  have Xb0 := Lib.hid (Box.drew Xb0.out)
  have Xc0 := Lib.hid (Box.drew Xc0.out)
  have Xd0 := Lib.hid (Box.drew Xd0.out)
  have Xe0 := Lib.hid (Box.drew Xe0.out)
  have Xf0 := Lib.hid (Box.drew Xf0.out)
  have Xg0 := Lib.hid (Box.drew Xg0.out)
  have Xh0 := Lib.hid (Box.drew Xh0.out)
  have HB := Lib.hid (Below.drew HB.out)
  refine wp_region_float [] [⟨11, 15, 25, #[.bool false, .slice none 0 0, .slice none 0 0]⟩] (by kernel_rfl) (by kernel_rfl) 82 (by kernel_rfl) (Flok.one (by kernel_rfl) (by kernel_rfl) (by kernel_rfl) (by intro w; go_simp)) ?_
  intro ok
  have Hok := Lib.hid ok
  clear ok
  have HG := Lib.hid (Below.refl (W8.drew).heap.size (W8.drew))
  refine good_pureX 0 (some 56) (Go.Op.load 25 (Go.Operand.tmp 5)) (none) (.agg #[.bool bb, .slice sb nb cb, .slice tb mb eb]) (by kernel_rfl) (by kernel_rfl) (by kernel_rfl) (fun _ _ _ h => h) (fun w' hw' => ?_) ?_
  · obtain ⟨cb00, cb01, cb02, fb00, fb01, fb02⟩ := (Box.se hw' Xb0.out notin0).c3
    first | (go_simp; done) | (go_simp; simp_all; done) | (go_simp; rfl)
  simp only [Act.put, List.setIfInBounds_toArray, List.set_cons_zero, List.set_cons_succ]
  refine good_pureX 1 (some 57) (Go.Op.load 25 (Go.Operand.tmp 6)) (none) (.agg #[.bool bc, .slice sc nc cc, .slice tc mc ec]) (by kernel_rfl) (by kernel_rfl) (by kernel_rfl) (fun _ _ _ h => h) (fun w' hw' => ?_) ?_
  · obtain ⟨cc00, cc01, cc02, fc00, fc01, fc02⟩ := (Box.se hw' Xc0.out notin0).c3
    first | (go_simp; done) | (go_simp; simp_all; done) | (go_simp; rfl)
  simp only [Act.put, List.setIfInBounds_toArray, List.set_cons_zero, List.set_cons_succ]
  refine good_pureX 2 (some 58) (Go.Op.load 25 (Go.Operand.tmp 4)) (none) (.agg #[.bool ba, .slice sa na ca, .slice ta ma ea]) (by kernel_rfl) (by kernel_rfl) (by kernel_rfl) (fun _ _ _ h => h) (fun w' hw' => ?_) ?_
  · obtain ⟨ca00, ca01, ca02, fa00, fa01, fa02⟩ := (Box.se hw' Xa0.out notin0).c3
    first | (go_simp; done) | (go_simp; simp_all; done) | (go_simp; rfl)
  simp only [Act.put, List.setIfInBounds_toArray, List.set_cons_zero, List.set_cons_succ]
  refine good_pureX 5 (some 61) (Go.Op.load 25 (Go.Operand.tmp 5)) (none) (.agg #[.bool bb, .slice sb nb cb, .slice tb mb eb]) (by kernel_rfl) (by kernel_rfl) (by kernel_rfl) (fun _ _ _ h => h) (fun w' hw' => ?_) ?_
  · obtain ⟨cb00, cb01, cb02, fb00, fb01, fb02⟩ := (Box.se hw' Xb0.out notin0).c3
    first | (go_simp; done) | (go_simp; simp_all; done) | (go_simp; rfl)
  simp only [Act.put, List.setIfInBounds_toArray, List.set_cons_zero, List.set_cons_succ]
  refine good_pureX 6 (some 62) (Go.Op.load 25 (Go.Operand.tmp 4)) (none) (.agg #[.bool ba, .slice sa na ca, .slice ta ma ea]) (by kernel_rfl) (by kernel_rfl) (by kernel_rfl) (fun _ _ _ h => h) (fun w' hw' => ?_) ?_
  · obtain ⟨ca00, ca01, ca02, fa00, fa01, fa02⟩ := (Box.se hw' Xa0.out notin0).c3
    first | (go_simp; done) | (go_simp; simp_all; done) | (go_simp; rfl)
  simp only [Act.put, List.setIfInBounds_toArray, List.set_cons_zero, List.set_cons_succ]
  refine good_pureX 8 (some 64) (Go.Op.load 25 (Go.Operand.tmp 7)) (none) (.agg #[.bool bd, .slice sd nd cd, .slice td md ed]) (by kernel_rfl) (by kernel_rfl) (by kernel_rfl) (fun _ _ _ h => h) (fun w' hw' => ?_) ?_
  · obtain ⟨cd00, cd01, cd02, fd00, fd01, fd02⟩ := (Box.se hw' Xd0.out notin0).c3
    first | (go_simp; done) | (go_simp; simp_all; done) | (go_simp; rfl)
  simp only [Act.put, List.setIfInBounds_toArray, List.set_cons_zero, List.set_cons_succ]
  refine good_callX 3 30 (some 59) #[Go.Operand.tmp 57, Go.Operand.tmp 58] #[25, 25] (none) #[.agg #[.bool bc, .slice sc nc cc, .slice tc mc ec], .agg #[.bool ba, .slice sa na ca, .slice ta ma ea]] (by kernel_rfl) Hok.out (by kernel_rfl) (by kernel_rfl) (by kernel_rfl) (by kernel_rfl) rfl rfl rfl (by kernel_rfl) (fun w9 hb => ?_)
  have HG := Lib.hid (below_call HG.out hb)
  clear hb
  (first | (have hcall := zsub_ar (AR.keep Hc.out (Keep.call HG.out)) (AR.keep Ha.out (Keep.call HG.out)) (by decide) (by decide); refine Calls.mono hcall ?_; clear hcall) | refine Calls.mono (zsub_ar (AR.keep Hc.out (Keep.call HG.out)) (AR.keep Ha.out (Keep.call HG.out)) (by decide) (by decide)) ?_)
  rintro e w10 ⟨v10, rfl, hv1, hb⟩
  obtain ⟨v1_b, v1_a, v1_n, v1_c, v1_d, v1_m, v1_e, rfl⟩ := hv1.litb
  refine ⟨_, rfl, ?_, hb⟩
  have HG := Lib.hid (below_call HG.out hb)
  have Hv1 := Lib.hid hv1
  clear hb hv1
  simp only [Act.put, List.setIfInBounds_toArray, List.set_cons_zero, List.set_cons_succ]
  refine good_callX 4 29 (some 60) #[Go.Operand.tmp 56, Go.Operand.tmp 59] #[25, 25] (none) #[.agg #[.bool bb, .slice sb nb cb, .slice tb mb eb], .agg #[.bool v1_b, .slice v1_a v1_n v1_c, .slice v1_d v1_m v1_e]] (by kernel_rfl) Hok.out (by kernel_rfl) (by kernel_rfl) (by kernel_rfl) (by kernel_rfl) rfl rfl rfl (by kernel_rfl) (fun w11 hb => ?_)
  have Hv1 := Lib.hid (CR.keep Hv1.out (Keep.call hb))
  have HG := Lib.hid (below_call HG.out hb)
  clear hb
  (first | (have hcall := zmul_ar (AR.keep Hb.out (Keep.call HG.out)) Hv1.out.ar (by decide) (by decide); refine Calls.mono hcall ?_; clear hcall) | refine Calls.mono (zmul_ar (AR.keep Hb.out (Keep.call HG.out)) Hv1.out.ar (by decide) (by decide)) ?_)
  rintro e w12 ⟨v12, rfl, hv2, hb⟩
  obtain ⟨v2_b, v2_a, v2_n, v2_c, v2_d, v2_m, v2_e, rfl⟩ := hv2.litb
  refine ⟨_, rfl, ?_, hb⟩
  have HG := Lib.hid (below_call HG.out hb)
  have Hv2 := Lib.hid hv2
  clear hb hv2
  simp only [Act.put, List.setIfInBounds_toArray, List.set_cons_zero, List.set_cons_succ]
  refine good_callX 7 30 (some 63) #[Go.Operand.tmp 61, Go.Operand.tmp 62] #[25, 25] (none) #[.agg #[.bool bb, .slice sb nb cb, .slice tb mb eb], .agg #[.bool ba, .slice sa na ca, .slice ta ma ea]] (by kernel_rfl) Hok.out (by kernel_rfl) (by kernel_rfl) (by kernel_rfl) (by kernel_rfl) rfl rfl rfl (by kernel_rfl) (fun w13 hb => ?_)
  have Hv2 := Lib.hid (CR.keep Hv2.out (Keep.call hb))
  have HG := Lib.hid (below_call HG.out hb)
  clear hb
  (first | (have hcall := zsub_ar (AR.keep Hb.out (Keep.call HG.out)) (AR.keep Ha.out (Keep.call HG.out)) (by decide) (by decide); refine Calls.mono hcall ?_; clear hcall) | refine Calls.mono (zsub_ar (AR.keep Hb.out (Keep.call HG.out)) (AR.keep Ha.out (Keep.call HG.out)) (by decide) (by decide)) ?_)
  rintro e w14 ⟨v14, rfl, hv3, hb⟩
  obtain ⟨v3_b, v3_a, v3_n, v3_c, v3_d, v3_m, v3_e, rfl⟩ := hv3.litb
  refine ⟨_, rfl, ?_, hb⟩
  have Hv2 := Lib.hid (CR.keep Hv2.out (Keep.call hb))
  have HG := Lib.hid (below_call HG.out hb)
  have Hv3 := Lib.hid hv3
  clear hb hv3
  simp only [Act.put, List.setIfInBounds_toArray, List.set_cons_zero, List.set_cons_succ]
  refine good_callX 9 29 (some 65) #[Go.Operand.tmp 63, Go.Operand.tmp 64] #[25, 25] (none) #[.agg #[.bool v3_b, .slice v3_a v3_n v3_c, .slice v3_d v3_m v3_e], .agg #[.bool bd, .slice sd nd cd, .slice td md ed]] (by kernel_rfl) Hok.out (by kernel_rfl) (by kernel_rfl) (by kernel_rfl) (by kernel_rfl) rfl rfl rfl (by kernel_rfl) (fun w15 hb => ?_)
  have Hv2 := Lib.hid (CR.keep Hv2.out (Keep.call hb))
  have Hv3 := Lib.hid (CR.keep Hv3.out (Keep.call hb))
  have HG := Lib.hid (below_call HG.out hb)
  clear hb
  (first | (have hcall := zmul_ar Hv3.out.ar (AR.keep Hd.out (Keep.call HG.out)) (by decide) (by decide); refine Calls.mono hcall ?_; clear hcall) | refine Calls.mono (zmul_ar Hv3.out.ar (AR.keep Hd.out (Keep.call HG.out)) (by decide) (by decide)) ?_)
  rintro e w16 ⟨v16, rfl, hv4, hb⟩
  obtain ⟨v4_b, v4_a, v4_n, v4_c, v4_d, v4_m, v4_e, rfl⟩ := hv4.litb
  refine ⟨_, rfl, ?_, hb⟩
  have Hv2 := Lib.hid (CR.keep Hv2.out (Keep.call hb))
  have HG := Lib.hid (below_call HG.out hb)
  have Hv4 := Lib.hid hv4
  clear hb hv4
  simp only [Act.put, List.setIfInBounds_toArray, List.set_cons_zero, List.set_cons_succ]
  refine good_callX 10 30 (some 66) #[Go.Operand.tmp 60, Go.Operand.tmp 65] #[25, 25] (none) #[.agg #[.bool v2_b, .slice v2_a v2_n v2_c, .slice v2_d v2_m v2_e], .agg #[.bool v4_b, .slice v4_a v4_n v4_c, .slice v4_d v4_m v4_e]] (by kernel_rfl) Hok.out (by kernel_rfl) (by kernel_rfl) (by kernel_rfl) (by kernel_rfl) rfl rfl rfl (by kernel_rfl) (fun w17 hb => ?_)
  have Hv2 := Lib.hid (CR.keep Hv2.out (Keep.call hb))
  have Hv4 := Lib.hid (CR.keep Hv4.out (Keep.call hb))
  have HG := Lib.hid (below_call HG.out hb)
  clear hb
  (first | (have hcall := zsub_ar Hv2.out.ar Hv4.out.ar (by decide) (by decide); refine Calls.mono hcall ?_; clear hcall) | refine Calls.mono (zsub_ar Hv2.out.ar Hv4.out.ar (by decide) (by decide)) ?_)
  rintro e w18 ⟨v18, rfl, hv5, hb⟩
  obtain ⟨v5_b, v5_a, v5_n, v5_c, v5_d, v5_m, v5_e, rfl⟩ := hv5.litb
  refine ⟨_, rfl, ?_, hb⟩
  have HG := Lib.hid (below_call HG.out hb)
  have Hv5 := Lib.hid hv5
  clear hb hv5
  simp only [Act.put, List.setIfInBounds_toArray, List.set_cons_zero, List.set_cons_succ]
  refine good_end1 1 Hok.out (by kernel_rfl) (by kernel_rfl) (by kernel_rfl) (fun _ gi0 w19 hb ei0 xi0 => ?_)
  have Hv5 := Lib.hid (CR.keep Hv5.out (Keep.call hb))
  have HG := Lib.hid (below_call HG.out hb)
  clear hb
  have Na0i0 := Lib.hid (show w.heap.size ≠ gi0 from Nat.ne_of_lt (Nat.lt_of_lt_of_le Xa0.out.lt ei0))
  have Nb0i0 := Lib.hid (show w.heap.size + 1 ≠ gi0 from Nat.ne_of_lt (Nat.lt_of_lt_of_le Xb0.out.lt ei0))
  have Nc0i0 := Lib.hid (show w.heap.size + 1 + 1 ≠ gi0 from Nat.ne_of_lt (Nat.lt_of_lt_of_le Xc0.out.lt ei0))
  have Nd0i0 := Lib.hid (show w.heap.size + 1 + 1 + 1 ≠ gi0 from Nat.ne_of_lt (Nat.lt_of_lt_of_le Xd0.out.lt ei0))
  have Ne0i0 := Lib.hid (show w2.heap.size ≠ gi0 from Nat.ne_of_lt (Nat.lt_of_lt_of_le Xe0.out.lt ei0))
  have Nf0i0 := Lib.hid (show gf0 ≠ gi0 from Nat.ne_of_lt (Nat.lt_of_lt_of_le Xf0.out.lt ei0))
  have Ng0i0 := Lib.hid (show w7.heap.size ≠ gi0 from Nat.ne_of_lt (Nat.lt_of_lt_of_le Xg0.out.lt ei0))
  have Nh0i0 := Lib.hid (show w7.heap.size + 1 ≠ gi0 from Nat.ne_of_lt (Nat.lt_of_lt_of_le Xh0.out.lt ei0))
  have Gi0 := Lib.hid (show w.heap.size ≤ gi0 from Nat.le_trans HB.out.size ei0)
  have Ei0 := Lib.hid ei0
  clear ei0
  have Hc := Lib.hid (AR.keep Hc.out (Keep.call HG.out))
  have Hd := Lib.hid (AR.keep Hd.out (Keep.call HG.out))
  have Hm1 := Lib.hid (CR.keep Hm1.out (Keep.call HG.out))
  have Hu1 := Lib.hid (CR.keep Hu1.out (Keep.call HG.out))
  have Hg1 := Lib.hid (CR.keep Hg1.out (Keep.call HG.out))
  have Xa0 := Lib.hid (Box.pcall HG.out Xa0.out)
  have Xb0 := Lib.hid (Box.pcall HG.out Xb0.out)
  have Xc0 := Lib.hid (Box.pcall HG.out Xc0.out)
  have Xd0 := Lib.hid (Box.pcall HG.out Xd0.out)
  have Xe0 := Lib.hid (Box.pcall HG.out Xe0.out)
  have Xf0 := Lib.hid (Box.pcall HG.out Xf0.out)
  have Xg0 := Lib.hid (Box.pcall HG.out Xg0.out)
  have Xh0 := Lib.hid (Box.pcall HG.out Xh0.out)
  have HB := Lib.hid (below_call HB.out HG.out)
  have HS := Lib.hid (SE.of (E := []) HG.out)
  have Xi0 := Lib.hid xi0
  clear xi0
  simp only [Act.put, List.setIfInBounds_toArray, List.set_cons_zero, List.set_cons_succ]
  refine held_oneX 12 (Go.Op.store 25 (Go.Operand.tmp 15) (Go.Operand.tmp 66)) (none) (World.setCell (World.setCell (World.setCell w19 ⟨gi0, 0, none⟩ (.bool v5_b)) ⟨gi0, 1, none⟩ (.slice v5_a v5_n v5_c)) ⟨gi0, 2, none⟩ (.slice v5_d v5_m v5_e)) (by kernel_rfl) (by kernel_rfl) (by kernel_rfl) (by kernel_rfl) ?_ (HS.out.store3 (.inr Ei0.out)) ?_
  · obtain ⟨ci00, ci01, ci02, fi00, fi01, fi02⟩ := Xi0.out.c3
    first | (go_simp; done) | (go_simp; simp_all; done) | (go_simp; rfl)
  obtain ⟨W20, hW⟩ : ∃ W20, W20 = (World.setCell (World.setCell (World.setCell w19 ⟨gi0, 0, none⟩ (.bool v5_b)) ⟨gi0, 1, none⟩ (.slice v5_a v5_n v5_c)) ⟨gi0, 2, none⟩ (.slice v5_d v5_m v5_e)) := ⟨_, rfl⟩
  rw [← hW]
  obtain ⟨xi0, hk, hf, hbb, hz⟩ := stored3s hW Xi0.out (by first | exact NoInt.bool _ | exact NoInt.slice _ _ _) (by first | exact NoInt.bool _ | exact NoInt.slice _ _ _) (by first | exact NoInt.bool _ | exact NoInt.slice _ _ _)
  have Hc := Lib.hid (AR.keep Hc.out hk)
  have Hd := Lib.hid (AR.keep Hd.out hk)
  have Hm1 := Lib.hid (CR.keep Hm1.out hk)
  have Hu1 := Lib.hid (CR.keep Hu1.out hk)
  have Hg1 := Lib.hid (CR.keep Hg1.out hk)
  have Hv5 := Lib.hid (CR.keep Hv5.out hk)
  have Xa0 := Lib.hid (hf _ _ _ Xa0.out Na0i0.out)
  have Xb0 := Lib.hid (hf _ _ _ Xb0.out Nb0i0.out)
  have Xc0 := Lib.hid (hf _ _ _ Xc0.out Nc0i0.out)
  have Xd0 := Lib.hid (hf _ _ _ Xd0.out Nd0i0.out)
  have Xe0 := Lib.hid (hf _ _ _ Xe0.out Ne0i0.out)
  have Xf0 := Lib.hid (hf _ _ _ Xf0.out Nf0i0.out)
  have Xg0 := Lib.hid (hf _ _ _ Xg0.out Ng0i0.out)
  have Xh0 := Lib.hid (hf _ _ _ Xh0.out Nh0i0.out)
  have Xi0 := Lib.hid xi0
  have HB := Lib.hid (hbb _ HB.out Gi0.out)
  have HS := Lib.hid (show SE (W8.drew) [] W20 from by rw [hW]; exact HS.out.store3 (.inr Ei0.out))
  clear hW hk hf hbb xi0
  clear hz
  refine wpAnyH_done (by kernel_rfl) ?_ _
  clear HG HS Hok Ei0
  obtain ⟨ca00, ca01, ca02, fa00, fa01, fa02⟩ := Xa0.out.c3
  have la0 := Xa0.out.lt
  obtain ⟨cb00, cb01, cb02, fb00, fb01, fb02⟩ := Xb0.out.c3
  have lb0 := Xb0.out.lt
  obtain ⟨cc00, cc01, cc02, fc00, fc01, fc02⟩ := Xc0.out.c3
  have lc0 := Xc0.out.lt
  obtain ⟨cd00, cd01, cd02, fd00, fd01, fd02⟩ := Xd0.out.c3
  have ld0 := Xd0.out.lt
  obtain ⟨cg00, cg01, cg02, fg00, fg01, fg02⟩ := Xg0.out.c3
  have lg0 := Xg0.out.lt
  obtain ⟨ch00, ch01, ch02, fh00, fh01, fh02⟩ := Xh0.out.c3
  have lh0 := Xh0.out.lt
  obtain ⟨ci00, ci01, ci02, fi00, fi01, fi02⟩ := Xi0.out.c3
  have li0 := Xi0.out.lt
  go_wp2_with fail
  clear ca00 ca01 ca02 fa00 fa01 fa02 la0 cb00 cb01 cb02 fb00 fb01 fb02 lb0 cc00 cc01 cc02 fc00 fc01 fc02 lc0 cd00 cd01 cd02 fd00 fd01 fd02 ld0 cg00 cg01 cg02 fg00 fg01 fg02 lg0 ch00 ch01 ch02 fh00 fh01 fh02 lh0 ci00 ci01 ci02 fi00 fi01 fi02 li0
  have Hc := Lib.hid (AR.keep Hc.out (Keep.drew W20))
  have Hd := Lib.hid (AR.keep Hd.out (Keep.drew W20))
  have Hm1 := Lib.hid (CR.keep Hm1.out (Keep.drew W20))
  have Hu1 := Lib.hid (CR.keep Hu1.out (Keep.drew W20))
  have Hg1 := Lib.hid (CR.keep Hg1.out (Keep.drew W20))
  have Hv5 := Lib.hid (CR.keep Hv5.out (Keep.drew W20))
  have Xa0 := Lib.hid (Box.drew Xa0.out)
  have Xb0 := Lib.hid (Box.drew Xb0.out)
  have Xc0 := Lib.hid (Box.drew Xc0.out)
  have Xd0 := Lib.hid (Box.drew Xd0.out)
  have Xe0 := Lib.hid (Box.drew Xe0.out)
  have Xf0 := Lib.hid (Box.drew Xf0.out)
  have Xg0 := Lib.hid (Box.drew Xg0.out)
  have Xh0 := Lib.hid (Box.drew Xh0.out)
  have Xi0 := Lib.hid (Box.drew Xi0.out)
  have HB := Lib.hid (Below.drew HB.out)
  refine wp_region_float [] [⟨7, 16, 25, #[.bool false, .slice none 0 0, .slice none 0 0]⟩] (by kernel_rfl) (by kernel_rfl) 82 (by kernel_rfl) (Flok.one (by kernel_rfl) (by kernel_rfl) (by kernel_rfl) (by intro w; go_simp)) ?_
  intro ok
  have Hok := Lib.hid ok
  clear ok
  have HG := Lib.hid (Below.refl (W20.drew).heap.size (W20.drew))
  refine good_pureX 0 (some 67) (Go.Op.load 25 (Go.Operand.tmp 12)) (none) (.agg #[.bool u1_b, .slice u1_a u1_n u1_c, .slice u1_d u1_m u1_e]) (by kernel_rfl) (by kernel_rfl) (by kernel_rfl) (fun _ _ _ h => h) (fun w' hw' => ?_) ?_
  · obtain ⟨cg00, cg01, cg02, fg00, fg01, fg02⟩ := (Box.se hw' Xg0.out notin0).c3
    first | (go_simp; done) | (go_simp; simp_all; done) | (go_simp; rfl)
  simp only [Act.put, List.setIfInBounds_toArray, List.set_cons_zero, List.set_cons_succ]
  refine good_pureX 1 (some 68) (Go.Op.load 25 (Go.Operand.tmp 6)) (none) (.agg #[.bool bc, .slice sc nc cc, .slice tc mc ec]) (by kernel_rfl) (by kernel_rfl) (by kernel_rfl) (fun _ _ _ h => h) (fun w' hw' => ?_) ?_
  · obtain ⟨cc00, cc01, cc02, fc00, fc01, fc02⟩ := (Box.se hw' Xc0.out notin0).c3
    first | (go_simp; done) | (go_simp; simp_all; done) | (go_simp; rfl)
  simp only [Act.put, List.setIfInBounds_toArray, List.set_cons_zero, List.set_cons_succ]
  refine good_pureX 3 (some 70) (Go.Op.load 25 (Go.Operand.tmp 13)) (none) (.agg #[.bool g1_b, .slice g1_a g1_n g1_c, .slice g1_d g1_m g1_e]) (by kernel_rfl) (by kernel_rfl) (by kernel_rfl) (fun _ _ _ h => h) (fun w' hw' => ?_) ?_
  · obtain ⟨ch00, ch01, ch02, fh00, fh01, fh02⟩ := (Box.se hw' Xh0.out notin0).c3
    first | (go_simp; done) | (go_simp; simp_all; done) | (go_simp; rfl)
  simp only [Act.put, List.setIfInBounds_toArray, List.set_cons_zero, List.set_cons_succ]
  refine good_pureX 5 (some 72) (Go.Op.load 25 (Go.Operand.tmp 7)) (none) (.agg #[.bool bd, .slice sd nd cd, .slice td md ed]) (by kernel_rfl) (by kernel_rfl) (by kernel_rfl) (fun _ _ _ h => h) (fun w' hw' => ?_) ?_
  · obtain ⟨cd00, cd01, cd02, fd00, fd01, fd02⟩ := (Box.se hw' Xd0.out notin0).c3
    first | (go_simp; done) | (go_simp; simp_all; done) | (go_simp; rfl)
  simp only [Act.put, List.setIfInBounds_toArray, List.set_cons_zero, List.set_cons_succ]
  refine good_callX 2 29 (some 69) #[Go.Operand.tmp 67, Go.Operand.tmp 68] #[25, 25] (none) #[.agg #[.bool u1_b, .slice u1_a u1_n u1_c, .slice u1_d u1_m u1_e], .agg #[.bool bc, .slice sc nc cc, .slice tc mc ec]] (by kernel_rfl) Hok.out (by kernel_rfl) (by kernel_rfl) (by kernel_rfl) (by kernel_rfl) rfl rfl rfl (by kernel_rfl) (fun w21 hb => ?_)
  have HG := Lib.hid (below_call HG.out hb)
  clear hb
  (first | (have hcall := zmul_ar (CR.keep Hu1.out (Keep.call HG.out)).ar (AR.keep Hc.out (Keep.call HG.out)) (by decide) (by decide); refine Calls.mono hcall ?_; clear hcall) | refine Calls.mono (zmul_ar (CR.keep Hu1.out (Keep.call HG.out)).ar (AR.keep Hc.out (Keep.call HG.out)) (by decide) (by decide)) ?_)
  rintro e w22 ⟨v22, rfl, hx1, hb⟩
  obtain ⟨x1_b, x1_a, x1_n, x1_c, x1_d, x1_m, x1_e, rfl⟩ := hx1.litb
  refine ⟨_, rfl, ?_, hb⟩
  have HG := Lib.hid (below_call HG.out hb)
  have Hx1 := Lib.hid hx1
  clear hb hx1
  simp only [Act.put, List.setIfInBounds_toArray, List.set_cons_zero, List.set_cons_succ]
  refine good_callX 4 28 (some 71) #[Go.Operand.tmp 69, Go.Operand.tmp 70] #[25, 25] (none) #[.agg #[.bool x1_b, .slice x1_a x1_n x1_c, .slice x1_d x1_m x1_e], .agg #[.bool g1_b, .slice g1_a g1_n g1_c, .slice g1_d g1_m g1_e]] (by kernel_rfl) Hok.out (by kernel_rfl) (by kernel_rfl) (by kernel_rfl) (by kernel_rfl) rfl rfl rfl (by kernel_rfl) (fun w23 hb => ?_)
  have Hx1 := Lib.hid (CR.keep Hx1.out (Keep.call hb))
  have HG := Lib.hid (below_call HG.out hb)
  clear hb
  (first | (have hcall := zadd_ar Hx1.out.ar (CR.keep Hg1.out (Keep.call HG.out)).ar (by decide) (by decide); refine Calls.mono hcall ?_; clear hcall) | refine Calls.mono (zadd_ar Hx1.out.ar (CR.keep Hg1.out (Keep.call HG.out)).ar (by decide) (by decide)) ?_)
  rintro e w24 ⟨v24, rfl, hx2, hb⟩
  obtain ⟨x2_b, x2_a, x2_n, x2_c, x2_d, x2_m, x2_e, rfl⟩ := hx2.litb
  refine ⟨_, rfl, ?_, hb⟩
  have HG := Lib.hid (below_call HG.out hb)
  have Hx2 := Lib.hid hx2
  clear hb hx2
  simp only [Act.put, List.setIfInBounds_toArray, List.set_cons_zero, List.set_cons_succ]
  refine good_callX 6 30 (some 73) #[Go.Operand.tmp 71, Go.Operand.tmp 72] #[25, 25] (none) #[.agg #[.bool x2_b, .slice x2_a x2_n x2_c, .slice x2_d x2_m x2_e], .agg #[.bool bd, .slice sd nd cd, .slice td md ed]] (by kernel_rfl) Hok.out (by kernel_rfl) (by kernel_rfl) (by kernel_rfl) (by kernel_rfl) rfl rfl rfl (by kernel_rfl) (fun w25 hb => ?_)
  have Hx2 := Lib.hid (CR.keep Hx2.out (Keep.call hb))
  have HG := Lib.hid (below_call HG.out hb)
  clear hb
  (first | (have hcall := zsub_ar Hx2.out.ar (AR.keep Hd.out (Keep.call HG.out)) (by decide) (by decide); refine Calls.mono hcall ?_; clear hcall) | refine Calls.mono (zsub_ar Hx2.out.ar (AR.keep Hd.out (Keep.call HG.out)) (by decide) (by decide)) ?_)
  rintro e w26 ⟨v26, rfl, hx3, hb⟩
  obtain ⟨x3_b, x3_a, x3_n, x3_c, x3_d, x3_m, x3_e, rfl⟩ := hx3.litb
  refine ⟨_, rfl, ?_, hb⟩
  have HG := Lib.hid (below_call HG.out hb)
  have Hx3 := Lib.hid hx3
  clear hb hx3
  simp only [Act.put, List.setIfInBounds_toArray, List.set_cons_zero, List.set_cons_succ]
  refine good_end1 1 Hok.out (by kernel_rfl) (by kernel_rfl) (by kernel_rfl) (fun _ gj0 w27 hb ej0 xj0 => ?_)
  have Hx3 := Lib.hid (CR.keep Hx3.out (Keep.call hb))
  have HG := Lib.hid (below_call HG.out hb)
  clear hb
  have Na0j0 := Lib.hid (show w.heap.size ≠ gj0 from Nat.ne_of_lt (Nat.lt_of_lt_of_le Xa0.out.lt ej0))
  have Nb0j0 := Lib.hid (show w.heap.size + 1 ≠ gj0 from Nat.ne_of_lt (Nat.lt_of_lt_of_le Xb0.out.lt ej0))
  have Nc0j0 := Lib.hid (show w.heap.size + 1 + 1 ≠ gj0 from Nat.ne_of_lt (Nat.lt_of_lt_of_le Xc0.out.lt ej0))
  have Nd0j0 := Lib.hid (show w.heap.size + 1 + 1 + 1 ≠ gj0 from Nat.ne_of_lt (Nat.lt_of_lt_of_le Xd0.out.lt ej0))
  have Ne0j0 := Lib.hid (show w2.heap.size ≠ gj0 from Nat.ne_of_lt (Nat.lt_of_lt_of_le Xe0.out.lt ej0))
  have Nf0j0 := Lib.hid (show gf0 ≠ gj0 from Nat.ne_of_lt (Nat.lt_of_lt_of_le Xf0.out.lt ej0))
  have Ng0j0 := Lib.hid (show w7.heap.size ≠ gj0 from Nat.ne_of_lt (Nat.lt_of_lt_of_le Xg0.out.lt ej0))
  have Nh0j0 := Lib.hid (show w7.heap.size + 1 ≠ gj0 from Nat.ne_of_lt (Nat.lt_of_lt_of_le Xh0.out.lt ej0))
  have Ni0j0 := Lib.hid (show gi0 ≠ gj0 from Nat.ne_of_lt (Nat.lt_of_lt_of_le Xi0.out.lt ej0))
  have Gj0 := Lib.hid (show w.heap.size ≤ gj0 from Nat.le_trans HB.out.size ej0)
  have Ej0 := Lib.hid ej0
  clear ej0
  have Hm1 := Lib.hid (CR.keep Hm1.out (Keep.call HG.out))
  have Hv5 := Lib.hid (CR.keep Hv5.out (Keep.call HG.out))
  have Xa0 := Lib.hid (Box.pcall HG.out Xa0.out)
  have Xb0 := Lib.hid (Box.pcall HG.out Xb0.out)
  have Xc0 := Lib.hid (Box.pcall HG.out Xc0.out)
  have Xd0 := Lib.hid (Box.pcall HG.out Xd0.out)
  have Xe0 := Lib.hid (Box.pcall HG.out Xe0.out)
  have Xf0 := Lib.hid (Box.pcall HG.out Xf0.out)
  have Xg0 := Lib.hid (Box.pcall HG.out Xg0.out)
  have Xh0 := Lib.hid (Box.pcall HG.out Xh0.out)
  have Xi0 := Lib.hid (Box.pcall HG.out Xi0.out)
  have HB := Lib.hid (below_call HB.out HG.out)
  have HS := Lib.hid (SE.of (E := []) HG.out)
  have Xj0 := Lib.hid xj0
  clear xj0
  simp only [Act.put, List.setIfInBounds_toArray, List.set_cons_zero, List.set_cons_succ]
  refine held_oneX 8 (Go.Op.store 25 (Go.Operand.tmp 16) (Go.Operand.tmp 73)) (none) (World.setCell (World.setCell (World.setCell w27 ⟨gj0, 0, none⟩ (.bool x3_b)) ⟨gj0, 1, none⟩ (.slice x3_a x3_n x3_c)) ⟨gj0, 2, none⟩ (.slice x3_d x3_m x3_e)) (by kernel_rfl) (by kernel_rfl) (by kernel_rfl) (by kernel_rfl) ?_ (HS.out.store3 (.inr Ej0.out)) ?_
  · obtain ⟨cj00, cj01, cj02, fj00, fj01, fj02⟩ := Xj0.out.c3
    first | (go_simp; done) | (go_simp; simp_all; done) | (go_simp; rfl)
  obtain ⟨W28, hW⟩ : ∃ W28, W28 = (World.setCell (World.setCell (World.setCell w27 ⟨gj0, 0, none⟩ (.bool x3_b)) ⟨gj0, 1, none⟩ (.slice x3_a x3_n x3_c)) ⟨gj0, 2, none⟩ (.slice x3_d x3_m x3_e)) := ⟨_, rfl⟩
  rw [← hW]
  obtain ⟨xj0, hk, hf, hbb, hz⟩ := stored3s hW Xj0.out (by first | exact NoInt.bool _ | exact NoInt.slice _ _ _) (by first | exact NoInt.bool _ | exact NoInt.slice _ _ _) (by first | exact NoInt.bool _ | exact NoInt.slice _ _ _)
  have Hm1 := Lib.hid (CR.keep Hm1.out hk)
  have Hv5 := Lib.hid (CR.keep Hv5.out hk)
  have Hx3 := Lib.hid (CR.keep Hx3.out hk)
  have Xa0 := Lib.hid (hf _ _ _ Xa0.out Na0j0.out)
  have Xb0 := Lib.hid (hf _ _ _ Xb0.out Nb0j0.out)
  have Xc0 := Lib.hid (hf _ _ _ Xc0.out Nc0j0.out)
  have Xd0 := Lib.hid (hf _ _ _ Xd0.out Nd0j0.out)
  have Xe0 := Lib.hid (hf _ _ _ Xe0.out Ne0j0.out)
  have Xf0 := Lib.hid (hf _ _ _ Xf0.out Nf0j0.out)
  have Xg0 := Lib.hid (hf _ _ _ Xg0.out Ng0j0.out)
  have Xh0 := Lib.hid (hf _ _ _ Xh0.out Nh0j0.out)
  have Xi0 := Lib.hid (hf _ _ _ Xi0.out Ni0j0.out)
  have Xj0 := Lib.hid xj0
  have HB := Lib.hid (hbb _ HB.out Gj0.out)
  have HS := Lib.hid (show SE (W20.drew) [] W28 from by rw [hW]; exact HS.out.store3 (.inr Ej0.out))
  clear hW hk hf hbb xj0
  clear hz
  refine wpAnyH_done (by kernel_rfl) ?_ _
  clear HG HS Hok Ej0
  obtain ⟨ca00, ca01, ca02, fa00, fa01, fa02⟩ := Xa0.out.c3
  have la0 := Xa0.out.lt
  obtain ⟨cb00, cb01, cb02, fb00, fb01, fb02⟩ := Xb0.out.c3
  have lb0 := Xb0.out.lt
  obtain ⟨cc00, cc01, cc02, fc00, fc01, fc02⟩ := Xc0.out.c3
  have lc0 := Xc0.out.lt
  obtain ⟨cd00, cd01, cd02, fd00, fd01, fd02⟩ := Xd0.out.c3
  have ld0 := Xd0.out.lt
  obtain ⟨cg00, cg01, cg02, fg00, fg01, fg02⟩ := Xg0.out.c3
  have lg0 := Xg0.out.lt
  obtain ⟨ch00, ch01, ch02, fh00, fh01, fh02⟩ := Xh0.out.c3
  have lh0 := Xh0.out.lt
  obtain ⟨ci00, ci01, ci02, fi00, fi01, fi02⟩ := Xi0.out.c3
  have li0 := Xi0.out.lt
  obtain ⟨cj00, cj01, cj02, fj00, fj01, fj02⟩ := Xj0.out.c3
  have lj0 := Xj0.out.lt
  go_wp2_with fail
  clear ca00 ca01 ca02 fa00 fa01 fa02 la0 cb00 cb01 cb02 fb00 fb01 fb02 lb0 cc00 cc01 cc02 fc00 fc01 fc02 lc0 cd00 cd01 cd02 fd00 fd01 fd02 ld0 cg00 cg01 cg02 fg00 fg01 fg02 lg0 ch00 ch01 ch02 fh00 fh01 fh02 lh0 ci00 ci01 ci02 fi00 fi01 fi02 li0 cj00 cj01 cj02 fj00 fj01 fj02 lj0
  have Hm1 := Lib.hid (CR.keep Hm1.out (Keep.drew W28))
  have Hv5 := Lib.hid (CR.keep Hv5.out (Keep.drew W28))
  have Hx3 := Lib.hid (CR.keep Hx3.out (Keep.drew W28))
  have Xa0 := Lib.hid (Box.drew Xa0.out)
  have Xb0 := Lib.hid (Box.drew Xb0.out)
  have Xc0 := Lib.hid (Box.drew Xc0.out)
  have Xd0 := Lib.hid (Box.drew Xd0.out)
  have Xe0 := Lib.hid (Box.drew Xe0.out)
  have Xf0 := Lib.hid (Box.drew Xf0.out)
  have Xg0 := Lib.hid (Box.drew Xg0.out)
  have Xh0 := Lib.hid (Box.drew Xh0.out)
  have Xi0 := Lib.hid (Box.drew Xi0.out)
  have Xj0 := Lib.hid (Box.drew Xj0.out)
  have HB := Lib.hid (Below.drew HB.out)
  refine wp_region_float [] [] (by kernel_rfl) (by kernel_rfl) 82 (by kernel_rfl) Flok.nil ?_
  intro ok
  have Hok := Lib.hid ok
  clear ok
  have HG := Lib.hid (Below.refl (W28.drew).heap.size (W28.drew))
  refine good_pureX 0 (some 74) (Go.Op.move (Go.Operand.tmp 9)) (none) (.slice (some ⟨gf0, 0, none⟩) 1 1) (by kernel_rfl) (by kernel_rfl) (by kernel_rfl) (fun _ _ _ h => h) (fun w' hw' => ?_) ?_
  · first | (go_simp; done) | (go_simp; simp_all; done) | (go_simp; rfl)
  simp only [Act.put, List.setIfInBounds_toArray, List.set_cons_zero, List.set_cons_succ]
  refine good_pureX 1 (some 75) (Go.Op.indexAddr 44 (Go.Operand.tmp 74) (Go.Operand.const (Go.Value.int Go.IntKind.i64 0))) (none) (.pointer (some ⟨gf0, 0, none⟩)) (by kernel_rfl) (by kernel_rfl) (by kernel_rfl) (fun _ _ _ h => h) (fun w' hw' => ?_) ?_
  · first | (go_simp; done) | (go_simp; simp_all; done) | (go_simp; rfl)
  simp only [Act.put, List.setIfInBounds_toArray, List.set_cons_zero, List.set_cons_succ]
  refine good_pureX 2 (some 76) (Go.Op.fieldAddr 50 (Go.Operand.tmp 75) 1) (none) (.pointer (some ⟨gf0, 4, none⟩)) (by kernel_rfl) (by kernel_rfl) (by kernel_rfl) (fun _ _ _ h => h) (fun w' hw' => ?_) ?_
  · first | (go_simp; done) | (go_simp; simp_all; done) | (go_simp; rfl)
  simp only [Act.put, List.setIfInBounds_toArray, List.set_cons_zero, List.set_cons_succ]
  refine good_pureX 3 (some 77) (Go.Op.load 25 (Go.Operand.tmp 76)) (none) (.agg #[.bool m1_b, .slice m1_a m1_n m1_c, .slice m1_d m1_m m1_e]) (by kernel_rfl) (by kernel_rfl) (by kernel_rfl) (fun _ _ _ h => h) (fun w' hw' => ?_) ?_
  · obtain ⟨cf00, cf01, cf02, cf03, cf04, cf05, cf06, ff00, ff01, ff02, ff03, ff04, ff05, ff06⟩ := (Box.se hw' Xf0.out notin0).c7
    first | (go_simp; done) | (go_simp; simp_all; done) | (go_simp; rfl)
  simp only [Act.put, List.setIfInBounds_toArray, List.set_cons_zero, List.set_cons_succ]
  refine good_pureX 4 (some 78) (Go.Op.load 25 (Go.Operand.tmp 15)) (none) (.agg #[.bool v5_b, .slice v5_a v5_n v5_c, .slice v5_d v5_m v5_e]) (by kernel_rfl) (by kernel_rfl) (by kernel_rfl) (fun _ _ _ h => h) (fun w' hw' => ?_) ?_
  · obtain ⟨ci00, ci01, ci02, fi00, fi01, fi02⟩ := (Box.se hw' Xi0.out notin0).c3
    first | (go_simp; done) | (go_simp; simp_all; done) | (go_simp; rfl)
  simp only [Act.put, List.setIfInBounds_toArray, List.set_cons_zero, List.set_cons_succ]
  refine good_pureX 6 (some 80) (Go.Op.load 25 (Go.Operand.tmp 16)) (none) (.agg #[.bool x3_b, .slice x3_a x3_n x3_c, .slice x3_d x3_m x3_e]) (by kernel_rfl) (by kernel_rfl) (by kernel_rfl) (fun _ _ _ h => h) (fun w' hw' => ?_) ?_
  · obtain ⟨cj00, cj01, cj02, fj00, fj01, fj02⟩ := (Box.se hw' Xj0.out notin0).c3
    first | (go_simp; done) | (go_simp; simp_all; done) | (go_simp; rfl)
  simp only [Act.put, List.setIfInBounds_toArray, List.set_cons_zero, List.set_cons_succ]
  refine good_callX 5 29 (some 79) #[Go.Operand.tmp 77, Go.Operand.tmp 78] #[25, 25] (none) #[.agg #[.bool m1_b, .slice m1_a m1_n m1_c, .slice m1_d m1_m m1_e], .agg #[.bool v5_b, .slice v5_a v5_n v5_c, .slice v5_d v5_m v5_e]] (by kernel_rfl) Hok.out (by kernel_rfl) (by kernel_rfl) (by kernel_rfl) (by kernel_rfl) rfl rfl rfl (by kernel_rfl) (fun w29 hb => ?_)
  have HG := Lib.hid (below_call HG.out hb)
  clear hb
  (first | (have hcall := zmul_ar (CR.keep Hm1.out (Keep.call HG.out)).ar (CR.keep Hv5.out (Keep.call HG.out)).ar (by decide) (by decide); refine Calls.mono hcall ?_; clear hcall) | refine Calls.mono (zmul_ar (CR.keep Hm1.out (Keep.call HG.out)).ar (CR.keep Hv5.out (Keep.call HG.out)).ar (by decide) (by decide)) ?_)
  rintro e w30 ⟨v30, rfl, hy1, hb⟩
  obtain ⟨y1_b, y1_a, y1_n, y1_c, y1_d, y1_m, y1_e, rfl⟩ := hy1.litb
  refine ⟨_, rfl, ?_, hb⟩
  have HG := Lib.hid (below_call HG.out hb)
  have Hy1 := Lib.hid hy1
  clear hb hy1
  simp only [Act.put, List.setIfInBounds_toArray, List.set_cons_zero, List.set_cons_succ]
  refine good_callX 7 14 (some 81) #[Go.Operand.tmp 79, Go.Operand.tmp 80] #[25, 25] (none) #[.agg #[.bool y1_b, .slice y1_a y1_n y1_c, .slice y1_d y1_m y1_e], .agg #[.bool x3_b, .slice x3_a x3_n x3_c, .slice x3_d x3_m x3_e]] (by kernel_rfl) Hok.out (by kernel_rfl) (by kernel_rfl) (by kernel_rfl) (by kernel_rfl) rfl rfl rfl (by kernel_rfl) (fun w31 hb => ?_)
  have Hy1 := Lib.hid (CR.keep Hy1.out (Keep.call hb))
  have HG := Lib.hid (below_call HG.out hb)
  clear hb
  (first | (have hcall := zsame_cr Hy1.out (CR.keep Hx3.out (Keep.call HG.out)) (tri_eq Hu.out); refine Calls.mono hcall ?_; clear hcall) | refine Calls.mono (zsame_cr Hy1.out (CR.keep Hx3.out (Keep.call HG.out)) (tri_eq Hu.out)) ?_)
  rintro e w32 ⟨v32, rfl, rfl, hb⟩
  refine ⟨_, rfl, ?_, hb⟩
  have HG := Lib.hid (below_call HG.out hb)
  clear hb
  simp only [Act.put, List.setIfInBounds_toArray, List.set_cons_zero, List.set_cons_succ]
  refine good_pureX 8 (some 8) (Go.Op.assign (Go.Operand.tmp 81)) (none) (.bool true) (by kernel_rfl) (by kernel_rfl) (by kernel_rfl) (fun _ _ _ h => h) (fun w' hw' => ?_) ?_
  · first | (go_simp; done) | (go_simp; simp_all; done) | (go_simp; rfl)
  simp only [Act.put, List.setIfInBounds_toArray, List.set_cons_zero, List.set_cons_succ]
  refine good_end0 0 (by kernel_rfl) (fun _ w33 hb => ?_)
  have HG := Lib.hid (below_call HG.out hb)
  clear hb
  have Xa0 := Lib.hid (Box.pcall HG.out Xa0.out)
  have Xb0 := Lib.hid (Box.pcall HG.out Xb0.out)
  have Xc0 := Lib.hid (Box.pcall HG.out Xc0.out)
  have Xd0 := Lib.hid (Box.pcall HG.out Xd0.out)
  have Xe0 := Lib.hid (Box.pcall HG.out Xe0.out)
  have Xf0 := Lib.hid (Box.pcall HG.out Xf0.out)
  have Xg0 := Lib.hid (Box.pcall HG.out Xg0.out)
  have Xh0 := Lib.hid (Box.pcall HG.out Xh0.out)
  have Xi0 := Lib.hid (Box.pcall HG.out Xi0.out)
  have Xj0 := Lib.hid (Box.pcall HG.out Xj0.out)
  have HB := Lib.hid (below_call HB.out HG.out)
  have HS := Lib.hid (SE.of (E := []) HG.out)
  refine wpAnyH_done (by kernel_rfl) ?_ _
  clear HG HS Hok 
  obtain ⟨ca00, ca01, ca02, fa00, fa01, fa02⟩ := Xa0.out.c3
  have la0 := Xa0.out.lt
  obtain ⟨cb00, cb01, cb02, fb00, fb01, fb02⟩ := Xb0.out.c3
  have lb0 := Xb0.out.lt
  obtain ⟨cc00, cc01, cc02, fc00, fc01, fc02⟩ := Xc0.out.c3
  have lc0 := Xc0.out.lt
  obtain ⟨cd00, cd01, cd02, fd00, fd01, fd02⟩ := Xd0.out.c3
  have ld0 := Xd0.out.lt
  obtain ⟨cg00, cg01, cg02, fg00, fg01, fg02⟩ := Xg0.out.c3
  have lg0 := Xg0.out.lt
  obtain ⟨ch00, ch01, ch02, fh00, fh01, fh02⟩ := Xh0.out.c3
  have lh0 := Xh0.out.lt
  obtain ⟨ci00, ci01, ci02, fi00, fi01, fi02⟩ := Xi0.out.c3
  have li0 := Xi0.out.lt
  obtain ⟨cj00, cj01, cj02, fj00, fj01, fj02⟩ := Xj0.out.c3
  have lj0 := Xj0.out.lt
  go_wp2
  clear ca00 ca01 ca02 fa00 fa01 fa02 la0 cb00 cb01 cb02 fb00 fb01 fb02 lb0 cc00 cc01 cc02 fc00 fc01 fc02 lc0 cd00 cd01 cd02 fd00 fd01 fd02 ld0 cg00 cg01 cg02 fg00 fg01 fg02 lg0 ch00 ch01 ch02 fh00 fh01 fh02 lh0 ci00 ci01 ci02 fi00 fi01 fi02 li0 cj00 cj01 cj02 fj00 fj01 fj02 lj0
  go_ret
  exact ⟨_, rfl, rfl, HB.out⟩


theorem RelaxTriangle_all (ba : Bool) (sa : Option Addr) (na ca : Nat) (ta : Option Addr) (ma ea : Nat) (bb : Bool) (sb : Option Addr) (nb cb : Nat) (tb : Option Addr) (mb eb : Nat) (bc : Bool) (sc : Option Addr) (nc cc : Nat) (tc : Option Addr) (mc ec : Nat) (bd : Bool) (sd : Option Addr) (nd cd : Nat) (td : Option Addr) (md ed : Nat) (w : World) (ra : Row w (.slice sa na ca) na) (ua : Row w (.slice ta ma ea) ma) (rb : Row w (.slice sb nb cb) nb) (ub : Row w (.slice tb mb eb) mb) (rc : Row w (.slice sc nc cc) nc) (uc : Row w (.slice tc mc ec) mc) (rd : Row w (.slice sd nd cd) nd) (ud : Row w (.slice td md ed) md) : Calls Try.prog 8 #[.agg #[.bool ba, .slice sa na ca, .slice ta ma ea], .agg #[.bool bb, .slice sb nb cb, .slice tb mb eb], .agg #[.bool bc, .slice sc nc cc, .slice tc mc ec], .agg #[.bool bd, .slice sd nd cd, .slice td md ed]] w (Ret w (Val (.bool true))) := by
  cases hB : ([⟨ba, sa, na, ca, ta, ma, ea⟩, ⟨bb, sb, nb, cb, tb, mb, eb⟩, ⟨bc, sc, nc, cc, tc, mc, ec⟩, ⟨bd, sd, nd, cd, td, md, ed⟩] : List Rw).any Rw.big
  case true => exact ltri_big hB
  have hs : na ≤ 8 ∧ ma ≤ 8 ∧ nb ≤ 8 ∧ mb ≤ 8 ∧ nc ≤ 8 ∧ mc ≤ 8 ∧ nd ≤ 8 ∧ md ≤ 8 := by
    simp [Rw.big] at hB
    omega
  obtain ⟨qa, ha⟩ := ra.ar (b := ba) ua 8 (by omega) (by omega) (by decide)
  obtain ⟨qb, hb⟩ := rb.ar (b := bb) ub 8 (by omega) (by omega) (by decide)
  obtain ⟨qc, hc⟩ := rc.ar (b := bc) uc 8 (by omega) (by omega) (by decide)
  obtain ⟨qd, hd⟩ := rd.ar (b := bd) ud 8 (by omega) (by omega) (by decide)
  cases hu : unst qa qb
  · exact ltri_n hu hB ha hb hc hd
  · exact ltri_y hu _ rfl hB ha hb hc hd

end Go.Proofs.Ytlpjgncaedffoaa
