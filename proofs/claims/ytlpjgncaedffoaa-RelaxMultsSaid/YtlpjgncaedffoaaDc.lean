/- Texts RelB, in this order. -/
import Derived.Test.YtlpjgncaedffoaaDb
import Derived.Test.YtlpjgncaedffoaaLg
namespace Go.Proofs.Ytlpjgncaedffoaa
open Go.RowKit Nt
set_option linter.unusedVariables false
theorem large2 {g : Nat} {T : TypeId} {w : World} {ba bb : Bool} {sa ta sb tb : Option Addr} {na ca ma ea nb cb mb eb : Nat} (X : Box w g T #[.bool ba, .slice sa na ca, .slice ta ma ea, .bool bb, .slice sb nb cb, .slice tb mb eb]) {B : Bool} (hB : ([⟨ba, sa, na, ca, ta, ma, ea⟩, ⟨bb, sb, nb, cb, tb, mb, eb⟩] : List Rw).any Rw.big = B) :
    Calls Try.prog 11 #[.slice (some ⟨g, 0, none⟩) 2 2] w (Ret w (Val (.bool B))) := by
  refine large_any g [⟨ba, sa, na, ca, ta, ma, ea⟩, ⟨bb, sb, nb, cb, tb, mb, eb⟩] w X.lt (by simp) (fun k hk => ?_) 2 rfl B hB
  match k, hk with
  | 0, _ => exact ⟨X.cell 0 rfl, X.cell 1 rfl, X.cell 2 rfl⟩
  | 1, _ => exact ⟨X.cell 3 rfl, X.cell 4 rfl, X.cell 5 rfl⟩
  | k + 2, hk => exact absurd hk (by simp)
theorem large3 {g : Nat} {T : TypeId} {w : World} {ba bb bc : Bool} {sa ta sb tb sc tc : Option Addr} {na ca ma ea nb cb mb eb nc cc mc ec : Nat} (X : Box w g T #[.bool ba, .slice sa na ca, .slice ta ma ea, .bool bb, .slice sb nb cb, .slice tb mb eb, .bool bc, .slice sc nc cc, .slice tc mc ec]) {B : Bool} (hB : ([⟨ba, sa, na, ca, ta, ma, ea⟩, ⟨bb, sb, nb, cb, tb, mb, eb⟩, ⟨bc, sc, nc, cc, tc, mc, ec⟩] : List Rw).any Rw.big = B) :
    Calls Try.prog 11 #[.slice (some ⟨g, 0, none⟩) 3 3] w (Ret w (Val (.bool B))) := by
  refine large_any g [⟨ba, sa, na, ca, ta, ma, ea⟩, ⟨bb, sb, nb, cb, tb, mb, eb⟩, ⟨bc, sc, nc, cc, tc, mc, ec⟩] w X.lt (by simp) (fun k hk => ?_) 3 rfl B hB
  match k, hk with
  | 0, _ => exact ⟨X.cell 0 rfl, X.cell 1 rfl, X.cell 2 rfl⟩
  | 1, _ => exact ⟨X.cell 3 rfl, X.cell 4 rfl, X.cell 5 rfl⟩
  | 2, _ => exact ⟨X.cell 6 rfl, X.cell 7 rfl, X.cell 8 rfl⟩
  | k + 3, hk => exact absurd hk (by simp)
theorem large4 {g : Nat} {T : TypeId} {w : World} {ba bb bc bd : Bool} {sa ta sb tb sc tc sd td : Option Addr} {na ca ma ea nb cb mb eb nc cc mc ec nd cd md ed : Nat} (X : Box w g T #[.bool ba, .slice sa na ca, .slice ta ma ea, .bool bb, .slice sb nb cb, .slice tb mb eb, .bool bc, .slice sc nc cc, .slice tc mc ec, .bool bd, .slice sd nd cd, .slice td md ed]) {B : Bool} (hB : ([⟨ba, sa, na, ca, ta, ma, ea⟩, ⟨bb, sb, nb, cb, tb, mb, eb⟩, ⟨bc, sc, nc, cc, tc, mc, ec⟩, ⟨bd, sd, nd, cd, td, md, ed⟩] : List Rw).any Rw.big = B) :
    Calls Try.prog 11 #[.slice (some ⟨g, 0, none⟩) 4 4] w (Ret w (Val (.bool B))) := by
  refine large_any g [⟨ba, sa, na, ca, ta, ma, ea⟩, ⟨bb, sb, nb, cb, tb, mb, eb⟩, ⟨bc, sc, nc, cc, tc, mc, ec⟩, ⟨bd, sd, nd, cd, td, md, ed⟩] w X.lt (by simp) (fun k hk => ?_) 4 rfl B hB
  match k, hk with
  | 0, _ => exact ⟨X.cell 0 rfl, X.cell 1 rfl, X.cell 2 rfl⟩
  | 1, _ => exact ⟨X.cell 3 rfl, X.cell 4 rfl, X.cell 5 rfl⟩
  | 2, _ => exact ⟨X.cell 6 rfl, X.cell 7 rfl, X.cell 8 rfl⟩
  | 3, _ => exact ⟨X.cell 9 rfl, X.cell 10 rfl, X.cell 11 rfl⟩
  | k + 4, hk => exact absurd hk (by simp)
theorem rllin_k {a b : Rat} {L : Nat} {u v : Value} {w : World} (k : Int) (hk : slopeQ a b = k) (hu : unst a b = true) (h : AR a L w u) (h' : AR b L w v) (hL : L ≤ 10000) : Calls Try.prog 12 #[u, v] w (Ret w (LN k (upQ a b) (gapQ a b) (L + L + L + L + 20))) := by
  subst hk; exact rllin_ar hu h h' hL
theorem zllin_k {a b : Rat} {L : Nat} {u v : Value} {w : World} (k : Int) (hk : slopeQ a b = k) (hu : unst a b = true) (h : AR a L w u) (h' : AR b L w v) (hL : L ≤ 10000) : Calls Try.prog 13 #[u, v] w (Ret w (LN k (upQ a b) (gapQ a b) (L + L + L + L + 20))) := by
  subst hk; exact zllin_ar hu h h' hL

set_option maxRecDepth 100000 in
set_option maxHeartbeats 4000000 in
theorem btw_p {i j : Int} {L : Nat} {qa : Rat} {ba : Bool} {sa ta : Value} {qb : Rat} {bb : Bool} {sb tb : Value} {w : World} (h1 : -9223372036854775808 ≤ i) (h2 : i < 9223372036854775808) (h3 : -9223372036854775808 ≤ j) (h4 : j < 9223372036854775808) (h0 : j ≠ 0) (ha : AR qa L w (.agg #[.bool ba, sa, ta])) (hb : AR qb L w (.agg #[.bool bb, sb, tb])) (hL : L ≤ 10000) :
    Calls Try.prog 25 #[.agg #[.bool ba, sa, ta], .agg #[.bool bb, sb, tb], .int .i64 i, .int .i64 j] w (Ret w (CR (btw qa qb i j) (L + L + L + 30))) := by
  have Ha := Lib.hid ha
  have Hb := Lib.hid hb
  have H1 := Lib.hid h1
  have H2 := Lib.hid h2
  have H3 := Lib.hid h3
  have H4 := Lib.hid h4
  have H0 := Lib.hid h0
  clear ha hb h1 h2 h3 h4 h0
  go_enter Try.func25, Try.ntmps25
  have HB := Lib.hid (Below.refl w.heap.size w)
  go_wp2_with fail
  obtain ⟨W1, hW⟩ : ∃ W1, W1 = (World.alloc (World.alloc (World.alloc w (.cells #[.bool ba, sa, ta] 25)) (.cells #[.bool bb, sb, tb] 25)) (.cells #[.bool false, .slice none 0 0, .slice none 0 0] 25)) := ⟨_, rfl⟩
  rw [← hW]
  obtain ⟨xa0, xb0, xc0, hk, hb⟩ := boxes_3 _ _ _ _ _ _ _ hW
  clear hW
  have Ha := Lib.hid (AR.keep Ha.out hk)
  have Hb := Lib.hid (AR.keep Hb.out hk)
  have Ga0 := Lib.hid (show w.heap.size ≤ w.heap.size from Nat.le_trans HB.out.size (by omega))
  have Gb0 := Lib.hid (show w.heap.size ≤ w.heap.size + 1 from Nat.le_trans HB.out.size (by omega))
  have Gc0 := Lib.hid (show w.heap.size ≤ w.heap.size + 1 + 1 from Nat.le_trans HB.out.size (by omega))
  have Xa0 := Lib.hid xa0
  have Xb0 := Lib.hid xb0
  have Xc0 := Lib.hid xc0
  have HB := Lib.hid (below_call HB.out hb)
  clear hk hb xa0 xb0 xc0
  refine Calls.mono (zfrac_1 H1.out H2.out H3.out H4.out H0.out) ?_
  rintro e w2 ⟨t2, rfl, ⟨v2, rfl, hf⟩, hb⟩
  obtain ⟨f_b, f_a, f_n, f_c, f_d, f_m, f_e, rfl⟩ := hf.litb
  have Ha := Lib.hid (AR.keep Ha.out (Keep.call hb))
  have Hb := Lib.hid (AR.keep Hb.out (Keep.call hb))
  have Xa0 := Lib.hid (Box.pcall hb Xa0.out)
  have Xb0 := Lib.hid (Box.pcall hb Xb0.out)
  have Xc0 := Lib.hid (Box.pcall hb Xc0.out)
  have HB := Lib.hid (below_call HB.out hb)
  have Hf := Lib.hid hf
  clear hb hf
  obtain ⟨ca00, ca01, ca02, fa00, fa01, fa02⟩ := Xa0.out.c3
  have la0 := Xa0.out.lt
  obtain ⟨cb00, cb01, cb02, fb00, fb01, fb02⟩ := Xb0.out.c3
  have lb0 := Xb0.out.lt
  obtain ⟨cc00, cc01, cc02, fc00, fc01, fc02⟩ := Xc0.out.c3
  have lc0 := Xc0.out.lt
  go_wp2_with fail
  clear ca00 ca01 ca02 fa00 fa01 fa02 la0 cb00 cb01 cb02 fb00 fb01 fb02 lb0 cc00 cc01 cc02 fc00 fc01 fc02 lc0
  obtain ⟨W3, hW⟩ : ∃ W3, W3 = (World.alloc w2 (.cells #[.bool f_b, .slice f_a f_n f_c, .slice f_d f_m f_e] 25)) := ⟨_, rfl⟩
  rw [← hW]
  obtain ⟨xd0, hk, hb⟩ := boxes_1 _ _ _ hW
  clear hW
  have Ha := Lib.hid (AR.keep Ha.out hk)
  have Hb := Lib.hid (AR.keep Hb.out hk)
  have Hf := Lib.hid (CR.keep Hf.out hk)
  have Na0d0 := Lib.hid (show w.heap.size ≠ w2.heap.size from Nat.ne_of_lt (Nat.lt_of_lt_of_le Xa0.out.lt (by omega)))
  have Nb0d0 := Lib.hid (show w.heap.size + 1 ≠ w2.heap.size from Nat.ne_of_lt (Nat.lt_of_lt_of_le Xb0.out.lt (by omega)))
  have Nc0d0 := Lib.hid (show w.heap.size + 1 + 1 ≠ w2.heap.size from Nat.ne_of_lt (Nat.lt_of_lt_of_le Xc0.out.lt (by omega)))
  have Gd0 := Lib.hid (show w.heap.size ≤ w2.heap.size from Nat.le_trans HB.out.size (by omega))
  have Xa0 := Lib.hid (Box.pcall hb Xa0.out)
  have Xb0 := Lib.hid (Box.pcall hb Xb0.out)
  have Xc0 := Lib.hid (Box.pcall hb Xc0.out)
  have Xd0 := Lib.hid xd0
  have HB := Lib.hid (below_call HB.out hb)
  clear hk hb xd0
  have Ha := Lib.hid (AR.keep Ha.out (Keep.drew W3))
  have Hb := Lib.hid (AR.keep Hb.out (Keep.drew W3))
  have Hf := Lib.hid (CR.keep Hf.out (Keep.drew W3))
  have Xa0 := Lib.hid (Box.drew Xa0.out)
  have Xb0 := Lib.hid (Box.drew Xb0.out)
  have Xc0 := Lib.hid (Box.drew Xc0.out)
  have Xd0 := Lib.hid (Box.drew Xd0.out)
  have HB := Lib.hid (Below.drew HB.out)
  refine wp_region_float [w.heap.size + 1 + 1] [] (by kernel_rfl) (by kernel_rfl) 24 (by kernel_rfl) Flok.nil ?_
  intro ok
  have Hok := Lib.hid ok
  clear ok
  have HG := Lib.hid (Below.refl (W3.drew).heap.size (W3.drew))
  refine good_pureX 0 (some 17) (Go.Op.load 25 (Go.Operand.tmp 4)) (none) (.agg #[.bool ba, sa, ta]) (by kernel_rfl) (by kernel_rfl) (by kernel_rfl) (fun _ _ _ h => h) (fun w' hw' => ?_) ?_
  · obtain ⟨ca00, ca01, ca02, fa00, fa01, fa02⟩ := (Box.se hw' Xa0.out (notin1 (by omega))).c3
    first | (go_simp; done) | (go_simp; simp_all; done) | (go_simp; rfl)
  simp only [Act.put, List.setIfInBounds_toArray, List.set_cons_zero, List.set_cons_succ]
  refine good_pureX 1 (some 18) (Go.Op.load 25 (Go.Operand.tmp 9)) (none) (.agg #[.bool f_b, .slice f_a f_n f_c, .slice f_d f_m f_e]) (by kernel_rfl) (by kernel_rfl) (by kernel_rfl) (fun _ _ _ h => h) (fun w' hw' => ?_) ?_
  · obtain ⟨cd00, cd01, cd02, fd00, fd01, fd02⟩ := (Box.se hw' Xd0.out (notin1 Nc0d0.out.symm)).c3
    first | (go_simp; done) | (go_simp; simp_all; done) | (go_simp; rfl)
  simp only [Act.put, List.setIfInBounds_toArray, List.set_cons_zero, List.set_cons_succ]
  refine good_pureX 2 (some 19) (Go.Op.load 25 (Go.Operand.tmp 5)) (none) (.agg #[.bool bb, sb, tb]) (by kernel_rfl) (by kernel_rfl) (by kernel_rfl) (fun _ _ _ h => h) (fun w' hw' => ?_) ?_
  · obtain ⟨cb00, cb01, cb02, fb00, fb01, fb02⟩ := (Box.se hw' Xb0.out (notin1 (by omega))).c3
    first | (go_simp; done) | (go_simp; simp_all; done) | (go_simp; rfl)
  simp only [Act.put, List.setIfInBounds_toArray, List.set_cons_zero, List.set_cons_succ]
  refine good_pureX 3 (some 20) (Go.Op.load 25 (Go.Operand.tmp 4)) (none) (.agg #[.bool ba, sa, ta]) (by kernel_rfl) (by kernel_rfl) (by kernel_rfl) (fun _ _ _ h => h) (fun w' hw' => ?_) ?_
  · obtain ⟨ca00, ca01, ca02, fa00, fa01, fa02⟩ := (Box.se hw' Xa0.out (notin1 (by omega))).c3
    first | (go_simp; done) | (go_simp; simp_all; done) | (go_simp; rfl)
  simp only [Act.put, List.setIfInBounds_toArray, List.set_cons_zero, List.set_cons_succ]
  refine good_callX 4 30 (some 21) #[Go.Operand.tmp 19, Go.Operand.tmp 20] #[25, 25] (none) #[.agg #[.bool bb, sb, tb], .agg #[.bool ba, sa, ta]] (by kernel_rfl) Hok.out (by kernel_rfl) (by kernel_rfl) (by kernel_rfl) (by kernel_rfl) rfl rfl rfl (by kernel_rfl) (fun w4 hb => ?_)
  have HG := Lib.hid (below_call HG.out hb)
  clear hb
  (first | (have hcall := zsub_ar (AR.keep Hb.out (Keep.call HG.out)) (AR.keep Ha.out (Keep.call HG.out)) (by omega) (by omega); refine Calls.mono hcall ?_; clear hcall) | refine Calls.mono (zsub_ar (AR.keep Hb.out (Keep.call HG.out)) (AR.keep Ha.out (Keep.call HG.out)) (by omega) (by omega)) ?_)
  rintro e w5 ⟨v5, rfl, hd, hb⟩
  obtain ⟨d_b, d_a, d_n, d_c, d_d, d_m, d_e, rfl⟩ := hd.litb
  refine ⟨_, rfl, ?_, hb⟩
  have HG := Lib.hid (below_call HG.out hb)
  have Hd := Lib.hid hd
  clear hb hd
  simp only [Act.put, List.setIfInBounds_toArray, List.set_cons_zero, List.set_cons_succ]
  refine good_callX 5 29 (some 22) #[Go.Operand.tmp 18, Go.Operand.tmp 21] #[25, 25] (none) #[.agg #[.bool f_b, .slice f_a f_n f_c, .slice f_d f_m f_e], .agg #[.bool d_b, .slice d_a d_n d_c, .slice d_d d_m d_e]] (by kernel_rfl) Hok.out (by kernel_rfl) (by kernel_rfl) (by kernel_rfl) (by kernel_rfl) rfl rfl rfl (by kernel_rfl) (fun w6 hb => ?_)
  have Hd := Lib.hid (CR.keep Hd.out (Keep.call hb))
  have HG := Lib.hid (below_call HG.out hb)
  clear hb
  (first | (have hcall := zmul_ar (CR.keep Hf.out (Keep.call HG.out)).ar Hd.out.ar (by omega) (by omega); refine Calls.mono hcall ?_; clear hcall) | refine Calls.mono (zmul_ar (CR.keep Hf.out (Keep.call HG.out)).ar Hd.out.ar (by omega) (by omega)) ?_)
  rintro e w7 ⟨v7, rfl, hm, hb⟩
  obtain ⟨m_b, m_a, m_n, m_c, m_d, m_m, m_e, rfl⟩ := hm.litb
  refine ⟨_, rfl, ?_, hb⟩
  have HG := Lib.hid (below_call HG.out hb)
  have Hm := Lib.hid hm
  clear hb hm
  simp only [Act.put, List.setIfInBounds_toArray, List.set_cons_zero, List.set_cons_succ]
  refine good_callX 6 28 (some 23) #[Go.Operand.tmp 17, Go.Operand.tmp 22] #[25, 25] (none) #[.agg #[.bool ba, sa, ta], .agg #[.bool m_b, .slice m_a m_n m_c, .slice m_d m_m m_e]] (by kernel_rfl) Hok.out (by kernel_rfl) (by kernel_rfl) (by kernel_rfl) (by kernel_rfl) rfl rfl rfl (by kernel_rfl) (fun w8 hb => ?_)
  have Hm := Lib.hid (CR.keep Hm.out (Keep.call hb))
  have HG := Lib.hid (below_call HG.out hb)
  clear hb
  (first | (have hcall := zadd_ar (AR.keep Ha.out (Keep.call HG.out)) Hm.out.ar (by omega) (by omega); refine Calls.mono hcall ?_; clear hcall) | refine Calls.mono (zadd_ar (AR.keep Ha.out (Keep.call HG.out)) Hm.out.ar (by omega) (by omega)) ?_)
  rintro e w9 ⟨v9, rfl, hz, hb⟩
  obtain ⟨z_b, z_a, z_n, z_c, z_d, z_m, z_e, rfl⟩ := hz.litb
  refine ⟨_, rfl, ?_, hb⟩
  have HG := Lib.hid (below_call HG.out hb)
  have Hz := Lib.hid hz
  clear hb hz
  simp only [Act.put, List.setIfInBounds_toArray, List.set_cons_zero, List.set_cons_succ]
  refine good_end0 1 (by kernel_rfl) (fun _ w10 hb => ?_)
  have Hz := Lib.hid (CR.keep Hz.out (Keep.call hb))
  have HG := Lib.hid (below_call HG.out hb)
  clear hb
  have Xa0 := Lib.hid (Box.pcall HG.out Xa0.out)
  have Xb0 := Lib.hid (Box.pcall HG.out Xb0.out)
  have Xc0 := Lib.hid (Box.pcall HG.out Xc0.out)
  have Xd0 := Lib.hid (Box.pcall HG.out Xd0.out)
  have HB := Lib.hid (below_call HB.out HG.out)
  have HS := Lib.hid (SE.of (E := [w.heap.size + 1 + 1]) HG.out)
  refine held_oneX 7 (Go.Op.store 25 (Go.Operand.tmp 8) (Go.Operand.tmp 23)) (none) (World.setCell (World.setCell (World.setCell w10 ⟨w.heap.size + 1 + 1, 0, none⟩ (.bool z_b)) ⟨w.heap.size + 1 + 1, 1, none⟩ (.slice z_a z_n z_c)) ⟨w.heap.size + 1 + 1, 2, none⟩ (.slice z_d z_m z_e)) (by kernel_rfl) (by kernel_rfl) (by kernel_rfl) (by kernel_rfl) ?_ (HS.out.store3 in1) ?_
  · obtain ⟨cc00, cc01, cc02, fc00, fc01, fc02⟩ := Xc0.out.c3
    first | (go_simp; done) | (go_simp; simp_all; done) | (go_simp; rfl)
  obtain ⟨W11, hW⟩ : ∃ W11, W11 = (World.setCell (World.setCell (World.setCell w10 ⟨w.heap.size + 1 + 1, 0, none⟩ (.bool z_b)) ⟨w.heap.size + 1 + 1, 1, none⟩ (.slice z_a z_n z_c)) ⟨w.heap.size + 1 + 1, 2, none⟩ (.slice z_d z_m z_e)) := ⟨_, rfl⟩
  rw [← hW]
  obtain ⟨xc0, hk, hf, hbb, hz⟩ := stored3s hW Xc0.out (by first | exact NoInt.bool _ | exact NoInt.slice _ _ _) (by first | exact NoInt.bool _ | exact NoInt.slice _ _ _) (by first | exact NoInt.bool _ | exact NoInt.slice _ _ _)
  have Hz := Lib.hid (CR.keep Hz.out hk)
  have Xa0 := Lib.hid (hf _ _ _ Xa0.out (by omega))
  have Xb0 := Lib.hid (hf _ _ _ Xb0.out (by omega))
  have Xc0 := Lib.hid xc0
  have Xd0 := Lib.hid (hf _ _ _ Xd0.out Nc0d0.out.symm)
  have HB := Lib.hid (hbb _ HB.out Gc0.out)
  have HS := Lib.hid (show SE (W3.drew) [w.heap.size + 1 + 1] W11 from by rw [hW]; exact HS.out.store3 in1)
  clear hW hk hf hbb xc0
  clear hz
  refine wpAnyH_done (by kernel_rfl) ?_ _
  clear HG HS Hok 
  obtain ⟨ca00, ca01, ca02, fa00, fa01, fa02⟩ := Xa0.out.c3
  have la0 := Xa0.out.lt
  obtain ⟨cb00, cb01, cb02, fb00, fb01, fb02⟩ := Xb0.out.c3
  have lb0 := Xb0.out.lt
  obtain ⟨cc00, cc01, cc02, fc00, fc01, fc02⟩ := Xc0.out.c3
  have lc0 := Xc0.out.lt
  obtain ⟨cd00, cd01, cd02, fd00, fd01, fd02⟩ := Xd0.out.c3
  have ld0 := Xd0.out.lt
  go_wp2
  clear ca00 ca01 ca02 fa00 fa01 fa02 la0 cb00 cb01 cb02 fb00 fb01 fb02 lb0 cc00 cc01 cc02 fc00 fc01 fc02 lc0 cd00 cd01 cd02 fd00 fd01 fd02 ld0
  exact ret_rat1 rfl rfl rfl Xc0.out (CR.mono Hz.out (by omega)) HB.out


set_option maxRecDepth 100000 in
set_option maxHeartbeats 4000000 in
theorem rect_p {L : Nat} {qa : Rat} {ba : Bool} {sa ta : Value} {w : World} (ha : AR qa L w (.agg #[.bool ba, sa, ta])) (hL : L ≤ 10000) :
    Calls Try.prog 26 #[.agg #[.bool ba, sa, ta]] w (Ret w (CR (relu qa) (max L 1))) := by
  have Ha := Lib.hid ha
  clear ha
  go_enter Try.func26, Try.ntmps26
  have HB := Lib.hid (Below.refl w.heap.size w)
  go_wp2_with fail
  obtain ⟨W1, hW⟩ : ∃ W1, W1 = (World.alloc (World.alloc w (.cells #[.bool ba, sa, ta] 25)) (.cells #[.bool false, .slice none 0 0, .slice none 0 0] 25)) := ⟨_, rfl⟩
  rw [← hW]
  obtain ⟨xa0, xb0, hk, hb⟩ := boxes_2 _ _ _ _ _ hW
  clear hW
  have Ha := Lib.hid (AR.keep Ha.out hk)
  have Ga0 := Lib.hid (show w.heap.size ≤ w.heap.size from Nat.le_trans HB.out.size (by omega))
  have Gb0 := Lib.hid (show w.heap.size ≤ w.heap.size + 1 from Nat.le_trans HB.out.size (by omega))
  have Xa0 := Lib.hid xa0
  have Xb0 := Lib.hid xb0
  have HB := Lib.hid (below_call HB.out hb)
  clear hk hb xa0 xb0
  refine Calls.mono (zmax_ar (CR.zero _).ar Ha.out (by omega) (by omega)) ?_
  rintro e w2 ⟨v2, rfl, hz, hb⟩
  obtain ⟨z_b, z_a, z_n, z_c, z_d, z_m, z_e, rfl⟩ := hz.litb
  have Xa0 := Lib.hid (Box.pcall hb Xa0.out)
  have Xb0 := Lib.hid (Box.pcall hb Xb0.out)
  have HB := Lib.hid (below_call HB.out hb)
  have Hz := Lib.hid hz
  clear hb hz
  obtain ⟨ca00, ca01, ca02, fa00, fa01, fa02⟩ := Xa0.out.c3
  have la0 := Xa0.out.lt
  obtain ⟨cb00, cb01, cb02, fb00, fb01, fb02⟩ := Xb0.out.c3
  have lb0 := Xb0.out.lt
  go_wp2
  clear ca00 ca01 ca02 fa00 fa01 fa02 la0 cb00 cb01 cb02 fb00 fb01 fb02 lb0
  obtain ⟨W3, hW⟩ : ∃ W3, W3 = (World.setCell (World.setCell (World.setCell w2 ⟨w.heap.size + 1, 0, none⟩ (.bool z_b)) ⟨w.heap.size + 1, 1, none⟩ (.slice z_a z_n z_c)) ⟨w.heap.size + 1, 2, none⟩ (.slice z_d z_m z_e)) := ⟨_, rfl⟩
  rw [← hW]
  obtain ⟨xb0, hk, hf, hbb, hz⟩ := stored3s hW Xb0.out (by first | exact NoInt.bool _ | exact NoInt.slice _ _ _) (by first | exact NoInt.bool _ | exact NoInt.slice _ _ _) (by first | exact NoInt.bool _ | exact NoInt.slice _ _ _)
  have Hz := Lib.hid (CR.keep Hz.out hk)
  have Xa0 := Lib.hid (hf _ _ _ Xa0.out (by omega))
  have Xb0 := Lib.hid xb0
  have HB := Lib.hid (hbb _ HB.out Gb0.out)
  clear hW hk hf hbb xb0
  clear hz
  exact ret_rat1 rfl rfl rfl Xb0.out (CR.mono Hz.out (by omega)) HB.out


theorem btw_ar {a b : Rat} {L : Nat} {u v : Value} {w : World} (i j : Int) (h1 : -9223372036854775808 ≤ i) (h2 : i < 9223372036854775808) (h3 : -9223372036854775808 ≤ j) (h4 : j < 9223372036854775808) (h0 : j ≠ 0) (h : AR a L w u) (h' : AR b L w v) (hL : L ≤ 10000) :
    Calls Try.prog 25 #[u, v, .int .i64 i, .int .i64 j] w (Ret w (CR (btw a b i j) (L + L + L + 30))) := by
  obtain ⟨ba, sa, ta, rfl⟩ := h.agg
  obtain ⟨bb, sb, tb, rfl⟩ := h'.agg
  exact btw_p h1 h2 h3 h4 h0 h h' hL
theorem rect_ar {a : Rat} {L : Nat} {u : Value} {w : World} (h : AR a L w u) (hL : L ≤ 10000) : Calls Try.prog 26 #[u] w (Ret w (CR (relu a) (max L 1))) := by
  obtain ⟨ba, sa, ta, rfl⟩ := h.agg
  exact rect_p h hL

set_option maxRecDepth 100000 in
set_option maxHeartbeats 4000000 in
theorem awake25  {w : World}  :
    Calls Try.prog 10 #[] w (Ret w (Val (.bool true))) := by
  go_enter Try.func10, Try.ntmps10
  have HB := Lib.hid (Below.refl w.heap.size w)
  go_wp2_with fail
  refine Calls.mono (zof (x := (-1)) (by decide) (by decide)) ?_
  rintro e w1 ⟨v1, rfl, ha1, hb⟩
  obtain ⟨a1_b, a1_a, a1_n, a1_c, a1_d, a1_m, a1_e, rfl⟩ := ha1.litb
  have HB := Lib.hid (below_call HB.out hb)
  have Ha1 := Lib.hid ha1
  clear hb ha1
  go_wp2_with fail
  refine Calls.mono (zof (x := 3) (by decide) (by decide)) ?_
  rintro e w2 ⟨v2, rfl, ha2, hb⟩
  obtain ⟨a2_b, a2_a, a2_n, a2_c, a2_d, a2_m, a2_e, rfl⟩ := ha2.litb
  have Ha1 := Lib.hid (CR.keep Ha1.out (Keep.call hb))
  have HB := Lib.hid (below_call HB.out hb)
  have Ha2 := Lib.hid ha2
  clear hb ha2
  go_wp2_with fail
  obtain ⟨W3, hW⟩ : ∃ W3, W3 = (World.alloc (World.alloc w2 (.cells #[.bool a1_b, .slice a1_a a1_n a1_c, .slice a1_d a1_m a1_e] 25)) (.cells #[.bool a2_b, .slice a2_a a2_n a2_c, .slice a2_d a2_m a2_e] 25)) := ⟨_, rfl⟩
  rw [← hW]
  obtain ⟨xa0, xb0, hk, hb⟩ := boxes_2 _ _ _ _ _ hW
  clear hW
  have Ha1 := Lib.hid (CR.keep Ha1.out hk)
  have Ha2 := Lib.hid (CR.keep Ha2.out hk)
  have Ga0 := Lib.hid (show w.heap.size ≤ w2.heap.size from Nat.le_trans HB.out.size (by omega))
  have Gb0 := Lib.hid (show w.heap.size ≤ w2.heap.size + 1 from Nat.le_trans HB.out.size (by omega))
  have Xa0 := Lib.hid xa0
  have Xb0 := Lib.hid xb0
  have HB := Lib.hid (below_call HB.out hb)
  clear hk hb xa0 xb0
  (first | (have hcall := rllin_k 1 (by decide +kernel) (by decide +kernel) Ha1.out.ar Ha2.out.ar (by decide); refine Calls.mono hcall ?_; clear hcall) | refine Calls.mono (rllin_k 1 (by decide +kernel) (by decide +kernel) Ha1.out.ar Ha2.out.ar (by decide)) ?_)
  rintro e w4 ⟨t4, rfl, ⟨v4, u4, rfl, hu1, hg1⟩, hb⟩
  obtain ⟨u1_b, u1_a, u1_n, u1_c, u1_d, u1_m, u1_e, rfl⟩ := hu1.litb
  obtain ⟨g1_b, g1_a, g1_n, g1_c, g1_d, g1_m, g1_e, rfl⟩ := hg1.litb
  have Ha1 := Lib.hid (CR.keep Ha1.out (Keep.call hb))
  have Ha2 := Lib.hid (CR.keep Ha2.out (Keep.call hb))
  have Xa0 := Lib.hid (Box.pcall hb Xa0.out)
  have Xb0 := Lib.hid (Box.pcall hb Xb0.out)
  have HB := Lib.hid (below_call HB.out hb)
  have Hu1 := Lib.hid hu1
  have Hg1 := Lib.hid hg1
  clear hb hu1 hg1
  obtain ⟨ca00, ca01, ca02, fa00, fa01, fa02⟩ := Xa0.out.c3
  have la0 := Xa0.out.lt
  obtain ⟨cb00, cb01, cb02, fb00, fb01, fb02⟩ := Xb0.out.c3
  have lb0 := Xb0.out.lt
  go_wp2_with fail
  clear ca00 ca01 ca02 fa00 fa01 fa02 la0 cb00 cb01 cb02 fb00 fb01 fb02 lb0
  obtain ⟨W5, hW⟩ : ∃ W5, W5 = (World.alloc (World.alloc w4 (.cells #[.bool u1_b, .slice u1_a u1_n u1_c, .slice u1_d u1_m u1_e] 25)) (.cells #[.bool g1_b, .slice g1_a g1_n g1_c, .slice g1_d g1_m g1_e] 25)) := ⟨_, rfl⟩
  rw [← hW]
  obtain ⟨xc0, xd0, hk, hb⟩ := boxes_2 _ _ _ _ _ hW
  clear hW
  have Ha1 := Lib.hid (CR.keep Ha1.out hk)
  have Ha2 := Lib.hid (CR.keep Ha2.out hk)
  have Hu1 := Lib.hid (CR.keep Hu1.out hk)
  have Hg1 := Lib.hid (CR.keep Hg1.out hk)
  have Na0c0 := Lib.hid (show w2.heap.size ≠ w4.heap.size from Nat.ne_of_lt (Nat.lt_of_lt_of_le Xa0.out.lt (by omega)))
  have Nb0c0 := Lib.hid (show w2.heap.size + 1 ≠ w4.heap.size from Nat.ne_of_lt (Nat.lt_of_lt_of_le Xb0.out.lt (by omega)))
  have Gc0 := Lib.hid (show w.heap.size ≤ w4.heap.size from Nat.le_trans HB.out.size (by omega))
  have Na0d0 := Lib.hid (show w2.heap.size ≠ w4.heap.size + 1 from Nat.ne_of_lt (Nat.lt_of_lt_of_le Xa0.out.lt (by omega)))
  have Nb0d0 := Lib.hid (show w2.heap.size + 1 ≠ w4.heap.size + 1 from Nat.ne_of_lt (Nat.lt_of_lt_of_le Xb0.out.lt (by omega)))
  have Gd0 := Lib.hid (show w.heap.size ≤ w4.heap.size + 1 from Nat.le_trans HB.out.size (by omega))
  have Xa0 := Lib.hid (Box.pcall hb Xa0.out)
  have Xb0 := Lib.hid (Box.pcall hb Xb0.out)
  have Xc0 := Lib.hid xc0
  have Xd0 := Lib.hid xd0
  have HB := Lib.hid (below_call HB.out hb)
  clear hk hb xc0 xd0
  refine Calls.mono (zfrac_1 (x := 3) (y := 4) (by decide) (by decide) (by decide) (by decide) (by decide)) ?_
  rintro e w6 ⟨t6, rfl, ⟨v6, rfl, hf1⟩, hb⟩
  obtain ⟨f1_b, f1_a, f1_n, f1_c, f1_d, f1_m, f1_e, rfl⟩ := hf1.litb
  have Ha1 := Lib.hid (CR.keep Ha1.out (Keep.call hb))
  have Ha2 := Lib.hid (CR.keep Ha2.out (Keep.call hb))
  have Hu1 := Lib.hid (CR.keep Hu1.out (Keep.call hb))
  have Hg1 := Lib.hid (CR.keep Hg1.out (Keep.call hb))
  have Xa0 := Lib.hid (Box.pcall hb Xa0.out)
  have Xb0 := Lib.hid (Box.pcall hb Xb0.out)
  have Xc0 := Lib.hid (Box.pcall hb Xc0.out)
  have Xd0 := Lib.hid (Box.pcall hb Xd0.out)
  have HB := Lib.hid (below_call HB.out hb)
  have Hf1 := Lib.hid hf1
  clear hb hf1
  obtain ⟨ca00, ca01, ca02, fa00, fa01, fa02⟩ := Xa0.out.c3
  have la0 := Xa0.out.lt
  obtain ⟨cb00, cb01, cb02, fb00, fb01, fb02⟩ := Xb0.out.c3
  have lb0 := Xb0.out.lt
  obtain ⟨cc00, cc01, cc02, fc00, fc01, fc02⟩ := Xc0.out.c3
  have lc0 := Xc0.out.lt
  obtain ⟨cd00, cd01, cd02, fd00, fd01, fd02⟩ := Xd0.out.c3
  have ld0 := Xd0.out.lt
  go_wp2_with fail
  clear ca00 ca01 ca02 fa00 fa01 fa02 la0 cb00 cb01 cb02 fb00 fb01 fb02 lb0 cc00 cc01 cc02 fc00 fc01 fc02 lc0 cd00 cd01 cd02 fd00 fd01 fd02 ld0
  obtain ⟨W7, hW⟩ : ∃ W7, W7 = (World.alloc w6 (.cells #[.bool f1_b, .slice f1_a f1_n f1_c, .slice f1_d f1_m f1_e] 25)) := ⟨_, rfl⟩
  rw [← hW]
  obtain ⟨xe0, hk, hb⟩ := boxes_1 _ _ _ hW
  clear hW
  have Ha1 := Lib.hid (CR.keep Ha1.out hk)
  have Ha2 := Lib.hid (CR.keep Ha2.out hk)
  have Hu1 := Lib.hid (CR.keep Hu1.out hk)
  have Hg1 := Lib.hid (CR.keep Hg1.out hk)
  have Hf1 := Lib.hid (CR.keep Hf1.out hk)
  have Na0e0 := Lib.hid (show w2.heap.size ≠ w6.heap.size from Nat.ne_of_lt (Nat.lt_of_lt_of_le Xa0.out.lt (by omega)))
  have Nb0e0 := Lib.hid (show w2.heap.size + 1 ≠ w6.heap.size from Nat.ne_of_lt (Nat.lt_of_lt_of_le Xb0.out.lt (by omega)))
  have Nc0e0 := Lib.hid (show w4.heap.size ≠ w6.heap.size from Nat.ne_of_lt (Nat.lt_of_lt_of_le Xc0.out.lt (by omega)))
  have Nd0e0 := Lib.hid (show w4.heap.size + 1 ≠ w6.heap.size from Nat.ne_of_lt (Nat.lt_of_lt_of_le Xd0.out.lt (by omega)))
  have Ge0 := Lib.hid (show w.heap.size ≤ w6.heap.size from Nat.le_trans HB.out.size (by omega))
  have Xa0 := Lib.hid (Box.pcall hb Xa0.out)
  have Xb0 := Lib.hid (Box.pcall hb Xb0.out)
  have Xc0 := Lib.hid (Box.pcall hb Xc0.out)
  have Xd0 := Lib.hid (Box.pcall hb Xd0.out)
  have Xe0 := Lib.hid xe0
  have HB := Lib.hid (below_call HB.out hb)
  clear hk hb xe0
  have Ha1 := Lib.hid (CR.keep Ha1.out (Keep.drew W7))
  have Ha2 := Lib.hid (CR.keep Ha2.out (Keep.drew W7))
  have Hu1 := Lib.hid (CR.keep Hu1.out (Keep.drew W7))
  have Hg1 := Lib.hid (CR.keep Hg1.out (Keep.drew W7))
  have Hf1 := Lib.hid (CR.keep Hf1.out (Keep.drew W7))
  have Xa0 := Lib.hid (Box.drew Xa0.out)
  have Xb0 := Lib.hid (Box.drew Xb0.out)
  have Xc0 := Lib.hid (Box.drew Xc0.out)
  have Xd0 := Lib.hid (Box.drew Xd0.out)
  have Xe0 := Lib.hid (Box.drew Xe0.out)
  have HB := Lib.hid (Below.drew HB.out)
  refine wp_region_float [] [⟨7, 9, 25, #[.bool false, .slice none 0 0, .slice none 0 0]⟩] (by kernel_rfl) (by kernel_rfl) 76 (by kernel_rfl) (Flok.one (by kernel_rfl) (by kernel_rfl) (by kernel_rfl) (by intro w; go_simp)) ?_
  intro ok
  have Hok := Lib.hid ok
  clear ok
  have HG := Lib.hid (Below.refl (W7.drew).heap.size (W7.drew))
  refine good_pureX 0 (some 28) (Go.Op.load 25 (Go.Operand.tmp 1)) (none) (.agg #[.bool a1_b, .slice a1_a a1_n a1_c, .slice a1_d a1_m a1_e]) (by kernel_rfl) (by kernel_rfl) (by kernel_rfl) (fun _ _ _ h => h) (fun w' hw' => ?_) ?_
  · obtain ⟨ca00, ca01, ca02, fa00, fa01, fa02⟩ := (Box.se hw' Xa0.out notin0).c3
    first | (go_simp; done) | (go_simp; simp_all; done) | (go_simp; rfl)
  simp only [Act.put, List.setIfInBounds_toArray, List.set_cons_zero, List.set_cons_succ]
  refine good_pureX 1 (some 29) (Go.Op.load 25 (Go.Operand.tmp 2)) (none) (.agg #[.bool a2_b, .slice a2_a a2_n a2_c, .slice a2_d a2_m a2_e]) (by kernel_rfl) (by kernel_rfl) (by kernel_rfl) (fun _ _ _ h => h) (fun w' hw' => ?_) ?_
  · obtain ⟨cb00, cb01, cb02, fb00, fb01, fb02⟩ := (Box.se hw' Xb0.out notin0).c3
    first | (go_simp; done) | (go_simp; simp_all; done) | (go_simp; rfl)
  simp only [Act.put, List.setIfInBounds_toArray, List.set_cons_zero, List.set_cons_succ]
  refine good_callX 2 23 (some 30) #[Go.Operand.const (Go.Value.int Go.IntKind.i64 1)] #[3] (none) #[.int .i64 1] (by kernel_rfl) Hok.out (by kernel_rfl) (by kernel_rfl) (by kernel_rfl) (by kernel_rfl) rfl rfl rfl (by kernel_rfl) (fun w8 hb => ?_)
  have HG := Lib.hid (below_call HG.out hb)
  clear hb
  refine Calls.mono (zof (x := 1) (by decide) (by decide)) ?_
  rintro e w9 ⟨v9, rfl, ha3, hb⟩
  obtain ⟨a3_b, a3_a, a3_n, a3_c, a3_d, a3_m, a3_e, rfl⟩ := ha3.litb
  refine ⟨_, rfl, ?_, hb⟩
  have HG := Lib.hid (below_call HG.out hb)
  have Ha3 := Lib.hid ha3
  clear hb ha3
  simp only [Act.put, List.setIfInBounds_toArray, List.set_cons_zero, List.set_cons_succ]
  refine good_callX 3 21 (some 31) #[Go.Operand.tmp 28, Go.Operand.tmp 29, Go.Operand.tmp 30] #[25, 25, 25] (none) #[.agg #[.bool a1_b, .slice a1_a a1_n a1_c, .slice a1_d a1_m a1_e], .agg #[.bool a2_b, .slice a2_a a2_n a2_c, .slice a2_d a2_m a2_e], .agg #[.bool a3_b, .slice a3_a a3_n a3_c, .slice a3_d a3_m a3_e]] (by kernel_rfl) Hok.out (by kernel_rfl) (by kernel_rfl) (by kernel_rfl) (by kernel_rfl) rfl rfl rfl (by kernel_rfl) (fun w10 hb => ?_)
  have Ha3 := Lib.hid (CR.keep Ha3.out (Keep.call hb))
  have HG := Lib.hid (below_call HG.out hb)
  clear hb
  (first | (have hcall := rlare_ar (by decide +kernel) (by decide +kernel) (by decide +kernel) (CR.keep Ha1.out (Keep.call HG.out)).ar (CR.keep Ha2.out (Keep.call HG.out)).ar Ha3.out.ar (by decide); refine Calls.mono hcall ?_; clear hcall) | refine Calls.mono (rlare_ar (by decide +kernel) (by decide +kernel) (by decide +kernel) (CR.keep Ha1.out (Keep.call HG.out)).ar (CR.keep Ha2.out (Keep.call HG.out)).ar Ha3.out.ar (by decide)) ?_)
  rintro e w11 ⟨t11, rfl, ⟨v11, rfl, hs1⟩, hb⟩
  obtain ⟨s1_b, s1_a, s1_n, s1_c, s1_d, s1_m, s1_e, rfl⟩ := hs1.litb
  refine ⟨_, rfl, ?_, hb⟩
  have HG := Lib.hid (below_call HG.out hb)
  have Hs1 := Lib.hid hs1
  clear hb hs1
  simp only [Act.put, List.setIfInBounds_toArray, List.set_cons_zero, List.set_cons_succ]
  refine good_pureX 4 (some 27) (Go.Op.move (Go.Operand.tmp 31)) (none) (.tuple #[.agg #[.bool s1_b, .slice s1_a s1_n s1_c, .slice s1_d s1_m s1_e], .int .i64 0]) (by kernel_rfl) (by kernel_rfl) (by kernel_rfl) (fun _ _ _ h => h) (fun w' hw' => ?_) ?_
  · first | (go_simp; done) | (go_simp; simp_all; done) | (go_simp; rfl)
  simp only [Act.put, List.setIfInBounds_toArray, List.set_cons_zero, List.set_cons_succ]
  refine good_pureX 5 (some 32) (Go.Op.extract (Go.Operand.tmp 27) 0) (none) (.agg #[.bool s1_b, .slice s1_a s1_n s1_c, .slice s1_d s1_m s1_e]) (by kernel_rfl) (by kernel_rfl) (by kernel_rfl) (fun _ _ _ h => h) (fun w' hw' => ?_) ?_
  · first | (go_simp; done) | (go_simp; simp_all; done) | (go_simp; rfl)
  simp only [Act.put, List.setIfInBounds_toArray, List.set_cons_zero, List.set_cons_succ]
  refine good_pureX 6 (some 33) (Go.Op.extract (Go.Operand.tmp 27) 1) (none) (.int .i64 0) (by kernel_rfl) (by kernel_rfl) (by kernel_rfl) (fun _ _ _ h => h) (fun w' hw' => ?_) ?_
  · first | (go_simp; done) | (go_simp; simp_all; done) | (go_simp; rfl)
  simp only [Act.put, List.setIfInBounds_toArray, List.set_cons_zero, List.set_cons_succ]
  refine good_end1 2 Hok.out (by kernel_rfl) (by kernel_rfl) (by kernel_rfl) (fun _ gf0 w12 hb ef0 xf0 => ?_)
  have Hs1 := Lib.hid (CR.keep Hs1.out (Keep.call hb))
  have HG := Lib.hid (below_call HG.out hb)
  clear hb
  have Na0f0 := Lib.hid (show w2.heap.size ≠ gf0 from Nat.ne_of_lt (Nat.lt_of_lt_of_le Xa0.out.lt ef0))
  have Nb0f0 := Lib.hid (show w2.heap.size + 1 ≠ gf0 from Nat.ne_of_lt (Nat.lt_of_lt_of_le Xb0.out.lt ef0))
  have Nc0f0 := Lib.hid (show w4.heap.size ≠ gf0 from Nat.ne_of_lt (Nat.lt_of_lt_of_le Xc0.out.lt ef0))
  have Nd0f0 := Lib.hid (show w4.heap.size + 1 ≠ gf0 from Nat.ne_of_lt (Nat.lt_of_lt_of_le Xd0.out.lt ef0))
  have Ne0f0 := Lib.hid (show w6.heap.size ≠ gf0 from Nat.ne_of_lt (Nat.lt_of_lt_of_le Xe0.out.lt ef0))
  have Gf0 := Lib.hid (show w.heap.size ≤ gf0 from Nat.le_trans HB.out.size ef0)
  have Ef0 := Lib.hid ef0
  clear ef0
  have Ha1 := Lib.hid (CR.keep Ha1.out (Keep.call HG.out))
  have Ha2 := Lib.hid (CR.keep Ha2.out (Keep.call HG.out))
  have Hu1 := Lib.hid (CR.keep Hu1.out (Keep.call HG.out))
  have Hg1 := Lib.hid (CR.keep Hg1.out (Keep.call HG.out))
  have Hf1 := Lib.hid (CR.keep Hf1.out (Keep.call HG.out))
  have Xa0 := Lib.hid (Box.pcall HG.out Xa0.out)
  have Xb0 := Lib.hid (Box.pcall HG.out Xb0.out)
  have Xc0 := Lib.hid (Box.pcall HG.out Xc0.out)
  have Xd0 := Lib.hid (Box.pcall HG.out Xd0.out)
  have Xe0 := Lib.hid (Box.pcall HG.out Xe0.out)
  have HB := Lib.hid (below_call HB.out HG.out)
  have HS := Lib.hid (SE.of (E := []) HG.out)
  have Xf0 := Lib.hid xf0
  clear xf0
  simp only [Act.put, List.setIfInBounds_toArray, List.set_cons_zero, List.set_cons_succ]
  refine held_oneX 8 (Go.Op.store 25 (Go.Operand.tmp 9) (Go.Operand.tmp 32)) (none) (World.setCell (World.setCell (World.setCell w12 ⟨gf0, 0, none⟩ (.bool s1_b)) ⟨gf0, 1, none⟩ (.slice s1_a s1_n s1_c)) ⟨gf0, 2, none⟩ (.slice s1_d s1_m s1_e)) (by kernel_rfl) (by kernel_rfl) (by kernel_rfl) (by kernel_rfl) ?_ (HS.out.store3 (.inr Ef0.out)) ?_
  · obtain ⟨cf00, cf01, cf02, ff00, ff01, ff02⟩ := Xf0.out.c3
    first | (go_simp; done) | (go_simp; simp_all; done) | (go_simp; rfl)
  obtain ⟨W13, hW⟩ : ∃ W13, W13 = (World.setCell (World.setCell (World.setCell w12 ⟨gf0, 0, none⟩ (.bool s1_b)) ⟨gf0, 1, none⟩ (.slice s1_a s1_n s1_c)) ⟨gf0, 2, none⟩ (.slice s1_d s1_m s1_e)) := ⟨_, rfl⟩
  rw [← hW]
  obtain ⟨xf0, hk, hf, hbb, hz⟩ := stored3s hW Xf0.out (by first | exact NoInt.bool _ | exact NoInt.slice _ _ _) (by first | exact NoInt.bool _ | exact NoInt.slice _ _ _) (by first | exact NoInt.bool _ | exact NoInt.slice _ _ _)
  have Ha1 := Lib.hid (CR.keep Ha1.out hk)
  have Ha2 := Lib.hid (CR.keep Ha2.out hk)
  have Hu1 := Lib.hid (CR.keep Hu1.out hk)
  have Hg1 := Lib.hid (CR.keep Hg1.out hk)
  have Hf1 := Lib.hid (CR.keep Hf1.out hk)
  have Hs1 := Lib.hid (CR.keep Hs1.out hk)
  have Xa0 := Lib.hid (hf _ _ _ Xa0.out Na0f0.out)
  have Xb0 := Lib.hid (hf _ _ _ Xb0.out Nb0f0.out)
  have Xc0 := Lib.hid (hf _ _ _ Xc0.out Nc0f0.out)
  have Xd0 := Lib.hid (hf _ _ _ Xd0.out Nd0f0.out)
  have Xe0 := Lib.hid (hf _ _ _ Xe0.out Ne0f0.out)
  have Xf0 := Lib.hid xf0
  have HB := Lib.hid (hbb _ HB.out Gf0.out)
  have HS := Lib.hid (show SE (W7.drew) [] W13 from by rw [hW]; exact HS.out.store3 (.inr Ef0.out))
  clear hW hk hf hbb xf0
  clear hz
  refine held_pureX 9 (some 10) (Go.Op.assign (Go.Operand.tmp 33)) (none) (.int .i64 0) (by kernel_rfl) (by kernel_rfl) (by kernel_rfl) (fun _ _ _ h => h) (fun w' => by first | (go_simp; done) | (go_simp; simp_all; done) | (go_simp; rfl)) HS.out ?_
  simp only [Act.put, List.setIfInBounds_toArray, List.set_cons_zero, List.set_cons_succ]
  refine wpAnyH_done (by kernel_rfl) ?_ _
  clear HG HS Hok Ef0
  obtain ⟨ca00, ca01, ca02, fa00, fa01, fa02⟩ := Xa0.out.c3
  have la0 := Xa0.out.lt
  obtain ⟨cb00, cb01, cb02, fb00, fb01, fb02⟩ := Xb0.out.c3
  have lb0 := Xb0.out.lt
  obtain ⟨cc00, cc01, cc02, fc00, fc01, fc02⟩ := Xc0.out.c3
  have lc0 := Xc0.out.lt
  obtain ⟨cd00, cd01, cd02, fd00, fd01, fd02⟩ := Xd0.out.c3
  have ld0 := Xd0.out.lt
  obtain ⟨ce00, ce01, ce02, fe00, fe01, fe02⟩ := Xe0.out.c3
  have le0 := Xe0.out.lt
  obtain ⟨cf00, cf01, cf02, ff00, ff01, ff02⟩ := Xf0.out.c3
  have lf0 := Xf0.out.lt
  go_wp2_with fail
  clear ca00 ca01 ca02 fa00 fa01 fa02 la0 cb00 cb01 cb02 fb00 fb01 fb02 lb0 cc00 cc01 cc02 fc00 fc01 fc02 lc0 cd00 cd01 cd02 fd00 fd01 fd02 ld0 ce00 ce01 ce02 fe00 fe01 fe02 le0 cf00 cf01 cf02 ff00 ff01 ff02 lf0
  refine Calls.mono (zfrac_1 (x := 1) (y := 2) (by decide) (by decide) (by decide) (by decide) (by decide)) ?_
  rintro e w14 ⟨t14, rfl, ⟨v14, rfl, hf2⟩, hb⟩
  obtain ⟨f2_b, f2_a, f2_n, f2_c, f2_d, f2_m, f2_e, rfl⟩ := hf2.litb
  have Ha1 := Lib.hid (CR.keep Ha1.out (Keep.call hb))
  have Ha2 := Lib.hid (CR.keep Ha2.out (Keep.call hb))
  have Hu1 := Lib.hid (CR.keep Hu1.out (Keep.call hb))
  have Hg1 := Lib.hid (CR.keep Hg1.out (Keep.call hb))
  have Hf1 := Lib.hid (CR.keep Hf1.out (Keep.call hb))
  have Hs1 := Lib.hid (CR.keep Hs1.out (Keep.call hb))
  have Xa0 := Lib.hid (Box.pcall hb Xa0.out)
  have Xb0 := Lib.hid (Box.pcall hb Xb0.out)
  have Xc0 := Lib.hid (Box.pcall hb Xc0.out)
  have Xd0 := Lib.hid (Box.pcall hb Xd0.out)
  have Xe0 := Lib.hid (Box.pcall hb Xe0.out)
  have Xf0 := Lib.hid (Box.pcall hb Xf0.out)
  have HB := Lib.hid (below_call HB.out hb)
  have Hf2 := Lib.hid hf2
  clear hb hf2
  obtain ⟨ca00, ca01, ca02, fa00, fa01, fa02⟩ := Xa0.out.c3
  have la0 := Xa0.out.lt
  obtain ⟨cb00, cb01, cb02, fb00, fb01, fb02⟩ := Xb0.out.c3
  have lb0 := Xb0.out.lt
  obtain ⟨cc00, cc01, cc02, fc00, fc01, fc02⟩ := Xc0.out.c3
  have lc0 := Xc0.out.lt
  obtain ⟨cd00, cd01, cd02, fd00, fd01, fd02⟩ := Xd0.out.c3
  have ld0 := Xd0.out.lt
  obtain ⟨ce00, ce01, ce02, fe00, fe01, fe02⟩ := Xe0.out.c3
  have le0 := Xe0.out.lt
  obtain ⟨cf00, cf01, cf02, ff00, ff01, ff02⟩ := Xf0.out.c3
  have lf0 := Xf0.out.lt
  go_wp2_with fail
  clear ca00 ca01 ca02 fa00 fa01 fa02 la0 cb00 cb01 cb02 fb00 fb01 fb02 lb0 cc00 cc01 cc02 fc00 fc01 fc02 lc0 cd00 cd01 cd02 fd00 fd01 fd02 ld0 ce00 ce01 ce02 fe00 fe01 fe02 le0 cf00 cf01 cf02 ff00 ff01 ff02 lf0
  obtain ⟨W15, hW⟩ : ∃ W15, W15 = (World.alloc w14 (.cells #[.bool f2_b, .slice f2_a f2_n f2_c, .slice f2_d f2_m f2_e] 25)) := ⟨_, rfl⟩
  rw [← hW]
  obtain ⟨xg0, hk, hb⟩ := boxes_1 _ _ _ hW
  clear hW
  have Ha1 := Lib.hid (CR.keep Ha1.out hk)
  have Ha2 := Lib.hid (CR.keep Ha2.out hk)
  have Hu1 := Lib.hid (CR.keep Hu1.out hk)
  have Hg1 := Lib.hid (CR.keep Hg1.out hk)
  have Hf1 := Lib.hid (CR.keep Hf1.out hk)
  have Hs1 := Lib.hid (CR.keep Hs1.out hk)
  have Hf2 := Lib.hid (CR.keep Hf2.out hk)
  have Na0g0 := Lib.hid (show w2.heap.size ≠ w14.heap.size from Nat.ne_of_lt (Nat.lt_of_lt_of_le Xa0.out.lt (by omega)))
  have Nb0g0 := Lib.hid (show w2.heap.size + 1 ≠ w14.heap.size from Nat.ne_of_lt (Nat.lt_of_lt_of_le Xb0.out.lt (by omega)))
  have Nc0g0 := Lib.hid (show w4.heap.size ≠ w14.heap.size from Nat.ne_of_lt (Nat.lt_of_lt_of_le Xc0.out.lt (by omega)))
  have Nd0g0 := Lib.hid (show w4.heap.size + 1 ≠ w14.heap.size from Nat.ne_of_lt (Nat.lt_of_lt_of_le Xd0.out.lt (by omega)))
  have Ne0g0 := Lib.hid (show w6.heap.size ≠ w14.heap.size from Nat.ne_of_lt (Nat.lt_of_lt_of_le Xe0.out.lt (by omega)))
  have Nf0g0 := Lib.hid (show gf0 ≠ w14.heap.size from Nat.ne_of_lt (Nat.lt_of_lt_of_le Xf0.out.lt (by omega)))
  have Gg0 := Lib.hid (show w.heap.size ≤ w14.heap.size from Nat.le_trans HB.out.size (by omega))
  have Xa0 := Lib.hid (Box.pcall hb Xa0.out)
  have Xb0 := Lib.hid (Box.pcall hb Xb0.out)
  have Xc0 := Lib.hid (Box.pcall hb Xc0.out)
  have Xd0 := Lib.hid (Box.pcall hb Xd0.out)
  have Xe0 := Lib.hid (Box.pcall hb Xe0.out)
  have Xf0 := Lib.hid (Box.pcall hb Xf0.out)
  have Xg0 := Lib.hid xg0
  have HB := Lib.hid (below_call HB.out hb)
  clear hk hb xg0
  have Ha1 := Lib.hid (CR.keep Ha1.out (Keep.drew W15))
  have Ha2 := Lib.hid (CR.keep Ha2.out (Keep.drew W15))
  have Hu1 := Lib.hid (CR.keep Hu1.out (Keep.drew W15))
  have Hg1 := Lib.hid (CR.keep Hg1.out (Keep.drew W15))
  have Hf1 := Lib.hid (CR.keep Hf1.out (Keep.drew W15))
  have Hs1 := Lib.hid (CR.keep Hs1.out (Keep.drew W15))
  have Hf2 := Lib.hid (CR.keep Hf2.out (Keep.drew W15))
  have Xa0 := Lib.hid (Box.drew Xa0.out)
  have Xb0 := Lib.hid (Box.drew Xb0.out)
  have Xc0 := Lib.hid (Box.drew Xc0.out)
  have Xd0 := Lib.hid (Box.drew Xd0.out)
  have Xe0 := Lib.hid (Box.drew Xe0.out)
  have Xf0 := Lib.hid (Box.drew Xf0.out)
  have Xg0 := Lib.hid (Box.drew Xg0.out)
  have HB := Lib.hid (Below.drew HB.out)
  refine wp_region_float [] [] (by kernel_rfl) (by kernel_rfl) 76 (by kernel_rfl) Flok.nil ?_
  intro ok
  have Hok := Lib.hid ok
  clear ok
  have HG := Lib.hid (Below.refl (W15.drew).heap.size (W15.drew))
  refine good_pureX 0 (some 38) (Go.Op.move (Go.Operand.tmp 3)) (none) (.int .i64 1) (by kernel_rfl) (by kernel_rfl) (by kernel_rfl) (fun _ _ _ h => h) (fun w' hw' => ?_) ?_
  · first | (go_simp; done) | (go_simp; simp_all; done) | (go_simp; rfl)
  simp only [Act.put, List.setIfInBounds_toArray, List.set_cons_zero, List.set_cons_succ]
  refine good_pureX 1 (some 39) (Go.Op.binOp Go.BinOp.eql 3 (Go.Operand.tmp 38) (Go.Operand.const (Go.Value.int Go.IntKind.i64 1)) 3) (none) (.bool true) (by kernel_rfl) (by kernel_rfl) (by kernel_rfl) (fun _ _ _ h => h) (fun w' hw' => ?_) ?_
  · first | (go_simp; done) | (go_simp; simp_all; done) | (go_simp; rfl)
  simp only [Act.put, List.setIfInBounds_toArray, List.set_cons_zero, List.set_cons_succ]
  refine good_pureX 2 (some 40) (Go.Op.move (Go.Operand.tmp 39)) (none) (.bool true) (by kernel_rfl) (by kernel_rfl) (by kernel_rfl) (fun _ _ _ h => h) (fun w' hw' => ?_) ?_
  · first | (go_simp; done) | (go_simp; simp_all; done) | (go_simp; rfl)
  simp only [Act.put, List.setIfInBounds_toArray, List.set_cons_zero, List.set_cons_succ]
  refine good_pureX 3 (some 41) (Go.Op.move (Go.Operand.tmp 6)) (some (2, true)) (.int .i64 0) (by kernel_rfl) (by kernel_rfl) (by kernel_rfl) (fun _ _ _ h => h) (fun w' hw' => ?_) ?_
  · first | (go_simp; done) | (go_simp; simp_all; done) | (go_simp; rfl)
  simp only [Act.put, List.setIfInBounds_toArray, List.set_cons_zero, List.set_cons_succ]
  refine good_pureX 4 (some 42) (Go.Op.binOp Go.BinOp.eql 28 (Go.Operand.tmp 41) (Go.Operand.const (Go.Value.int Go.IntKind.i64 0)) 28) (some (2, true)) (.bool true) (by kernel_rfl) (by kernel_rfl) (by kernel_rfl) (fun _ _ _ h => h) (fun w' hw' => ?_) ?_
  · first | (go_simp; done) | (go_simp; simp_all; done) | (go_simp; rfl)
  simp only [Act.put, List.setIfInBounds_toArray, List.set_cons_zero, List.set_cons_succ]
  refine good_pureX 5 (some 43) (Go.Op.pick (Go.Operand.tmp 40) (Go.Operand.tmp 42) (Go.Operand.const (Go.Value.bool false))) (none) (.bool true) (by kernel_rfl) (by kernel_rfl) (by kernel_rfl) (fun _ _ _ h => h) (fun w' hw' => ?_) ?_
  · first | (go_simp; done) | (go_simp; simp_all; done) | (go_simp; rfl)
  simp only [Act.put, List.setIfInBounds_toArray, List.set_cons_zero, List.set_cons_succ]
  refine good_pureX 6 (some 44) (Go.Op.move (Go.Operand.tmp 43)) (none) (.bool true) (by kernel_rfl) (by kernel_rfl) (by kernel_rfl) (fun _ _ _ h => h) (fun w' hw' => ?_) ?_
  · first | (go_simp; done) | (go_simp; simp_all; done) | (go_simp; rfl)
  simp only [Act.put, List.setIfInBounds_toArray, List.set_cons_zero, List.set_cons_succ]
  refine good_pureX 7 (some 45) (Go.Op.load 25 (Go.Operand.tmp 4)) (some (6, true)) (.agg #[.bool u1_b, .slice u1_a u1_n u1_c, .slice u1_d u1_m u1_e]) (by kernel_rfl) (by kernel_rfl) (by kernel_rfl) (fun _ _ _ h => h) (fun w' hw' => ?_) ?_
  · obtain ⟨cc00, cc01, cc02, fc00, fc01, fc02⟩ := (Box.se hw' Xc0.out notin0).c3
    first | (go_simp; done) | (go_simp; simp_all; done) | (go_simp; rfl)
  simp only [Act.put, List.setIfInBounds_toArray, List.set_cons_zero, List.set_cons_succ]
  refine good_pureX 8 (some 46) (Go.Op.load 25 (Go.Operand.tmp 7)) (some (6, true)) (.agg #[.bool f1_b, .slice f1_a f1_n f1_c, .slice f1_d f1_m f1_e]) (by kernel_rfl) (by kernel_rfl) (by kernel_rfl) (fun _ _ _ h => h) (fun w' hw' => ?_) ?_
  · obtain ⟨ce00, ce01, ce02, fe00, fe01, fe02⟩ := (Box.se hw' Xe0.out notin0).c3
    first | (go_simp; done) | (go_simp; simp_all; done) | (go_simp; rfl)
  simp only [Act.put, List.setIfInBounds_toArray, List.set_cons_zero, List.set_cons_succ]
  refine good_callX 9 14 (some 47) #[Go.Operand.tmp 45, Go.Operand.tmp 46] #[25, 25] (some (6, true)) #[.agg #[.bool u1_b, .slice u1_a u1_n u1_c, .slice u1_d u1_m u1_e], .agg #[.bool f1_b, .slice f1_a f1_n f1_c, .slice f1_d f1_m f1_e]] (by kernel_rfl) Hok.out (by kernel_rfl) (by kernel_rfl) (by kernel_rfl) (by kernel_rfl) rfl rfl rfl (by kernel_rfl) (fun w16 hb => ?_)
  have HG := Lib.hid (below_call HG.out hb)
  clear hb
  (first | (have hcall := zsame_cr (CR.keep Hu1.out (Keep.call HG.out)) (CR.keep Hf1.out (Keep.call HG.out)) (by decide +kernel); refine Calls.mono hcall ?_; clear hcall) | refine Calls.mono (zsame_cr (CR.keep Hu1.out (Keep.call HG.out)) (CR.keep Hf1.out (Keep.call HG.out)) (by decide +kernel)) ?_)
  rintro e w17 ⟨v17, rfl, rfl, hb⟩
  refine ⟨_, rfl, ?_, hb⟩
  have HG := Lib.hid (below_call HG.out hb)
  clear hb
  simp only [Act.put, List.setIfInBounds_toArray, List.set_cons_zero, List.set_cons_succ]
  refine good_pureX 10 (some 48) (Go.Op.pick (Go.Operand.tmp 44) (Go.Operand.tmp 47) (Go.Operand.const (Go.Value.bool false))) (none) (.bool true) (by kernel_rfl) (by kernel_rfl) (by kernel_rfl) (fun _ _ _ h => h) (fun w' hw' => ?_) ?_
  · first | (go_simp; done) | (go_simp; simp_all; done) | (go_simp; rfl)
  simp only [Act.put, List.setIfInBounds_toArray, List.set_cons_zero, List.set_cons_succ]
  refine good_pureX 11 (some 49) (Go.Op.move (Go.Operand.tmp 48)) (none) (.bool true) (by kernel_rfl) (by kernel_rfl) (by kernel_rfl) (fun _ _ _ h => h) (fun w' hw' => ?_) ?_
  · first | (go_simp; done) | (go_simp; simp_all; done) | (go_simp; rfl)
  simp only [Act.put, List.setIfInBounds_toArray, List.set_cons_zero, List.set_cons_succ]
  refine good_pureX 12 (some 50) (Go.Op.load 25 (Go.Operand.tmp 5)) (some (11, true)) (.agg #[.bool g1_b, .slice g1_a g1_n g1_c, .slice g1_d g1_m g1_e]) (by kernel_rfl) (by kernel_rfl) (by kernel_rfl) (fun _ _ _ h => h) (fun w' hw' => ?_) ?_
  · obtain ⟨cd00, cd01, cd02, fd00, fd01, fd02⟩ := (Box.se hw' Xd0.out notin0).c3
    first | (go_simp; done) | (go_simp; simp_all; done) | (go_simp; rfl)
  simp only [Act.put, List.setIfInBounds_toArray, List.set_cons_zero, List.set_cons_succ]
  refine good_pureX 13 (some 51) (Go.Op.load 25 (Go.Operand.tmp 7)) (some (11, true)) (.agg #[.bool f1_b, .slice f1_a f1_n f1_c, .slice f1_d f1_m f1_e]) (by kernel_rfl) (by kernel_rfl) (by kernel_rfl) (fun _ _ _ h => h) (fun w' hw' => ?_) ?_
  · obtain ⟨ce00, ce01, ce02, fe00, fe01, fe02⟩ := (Box.se hw' Xe0.out notin0).c3
    first | (go_simp; done) | (go_simp; simp_all; done) | (go_simp; rfl)
  simp only [Act.put, List.setIfInBounds_toArray, List.set_cons_zero, List.set_cons_succ]
  refine good_callX 14 14 (some 52) #[Go.Operand.tmp 50, Go.Operand.tmp 51] #[25, 25] (some (11, true)) #[.agg #[.bool g1_b, .slice g1_a g1_n g1_c, .slice g1_d g1_m g1_e], .agg #[.bool f1_b, .slice f1_a f1_n f1_c, .slice f1_d f1_m f1_e]] (by kernel_rfl) Hok.out (by kernel_rfl) (by kernel_rfl) (by kernel_rfl) (by kernel_rfl) rfl rfl rfl (by kernel_rfl) (fun w18 hb => ?_)
  have HG := Lib.hid (below_call HG.out hb)
  clear hb
  (first | (have hcall := zsame_cr (CR.keep Hg1.out (Keep.call HG.out)) (CR.keep Hf1.out (Keep.call HG.out)) (by decide +kernel); refine Calls.mono hcall ?_; clear hcall) | refine Calls.mono (zsame_cr (CR.keep Hg1.out (Keep.call HG.out)) (CR.keep Hf1.out (Keep.call HG.out)) (by decide +kernel)) ?_)
  rintro e w19 ⟨v19, rfl, rfl, hb⟩
  refine ⟨_, rfl, ?_, hb⟩
  have HG := Lib.hid (below_call HG.out hb)
  clear hb
  simp only [Act.put, List.setIfInBounds_toArray, List.set_cons_zero, List.set_cons_succ]
  refine good_pureX 15 (some 53) (Go.Op.pick (Go.Operand.tmp 49) (Go.Operand.tmp 52) (Go.Operand.const (Go.Value.bool false))) (none) (.bool true) (by kernel_rfl) (by kernel_rfl) (by kernel_rfl) (fun _ _ _ h => h) (fun w' hw' => ?_) ?_
  · first | (go_simp; done) | (go_simp; simp_all; done) | (go_simp; rfl)
  simp only [Act.put, List.setIfInBounds_toArray, List.set_cons_zero, List.set_cons_succ]
  refine good_pureX 16 (some 54) (Go.Op.move (Go.Operand.tmp 53)) (none) (.bool true) (by kernel_rfl) (by kernel_rfl) (by kernel_rfl) (fun _ _ _ h => h) (fun w' hw' => ?_) ?_
  · first | (go_simp; done) | (go_simp; simp_all; done) | (go_simp; rfl)
  simp only [Act.put, List.setIfInBounds_toArray, List.set_cons_zero, List.set_cons_succ]
  refine good_pureX 17 (some 55) (Go.Op.load 25 (Go.Operand.tmp 1)) (some (16, true)) (.agg #[.bool a1_b, .slice a1_a a1_n a1_c, .slice a1_d a1_m a1_e]) (by kernel_rfl) (by kernel_rfl) (by kernel_rfl) (fun _ _ _ h => h) (fun w' hw' => ?_) ?_
  · obtain ⟨ca00, ca01, ca02, fa00, fa01, fa02⟩ := (Box.se hw' Xa0.out notin0).c3
    first | (go_simp; done) | (go_simp; simp_all; done) | (go_simp; rfl)
  simp only [Act.put, List.setIfInBounds_toArray, List.set_cons_zero, List.set_cons_succ]
  refine good_pureX 18 (some 56) (Go.Op.load 25 (Go.Operand.tmp 2)) (some (16, true)) (.agg #[.bool a2_b, .slice a2_a a2_n a2_c, .slice a2_d a2_m a2_e]) (by kernel_rfl) (by kernel_rfl) (by kernel_rfl) (fun _ _ _ h => h) (fun w' hw' => ?_) ?_
  · obtain ⟨cb00, cb01, cb02, fb00, fb01, fb02⟩ := (Box.se hw' Xb0.out notin0).c3
    first | (go_simp; done) | (go_simp; simp_all; done) | (go_simp; rfl)
  simp only [Act.put, List.setIfInBounds_toArray, List.set_cons_zero, List.set_cons_succ]
  refine good_pureX 20 (some 58) (Go.Op.load 25 (Go.Operand.tmp 7)) (some (16, true)) (.agg #[.bool f1_b, .slice f1_a f1_n f1_c, .slice f1_d f1_m f1_e]) (by kernel_rfl) (by kernel_rfl) (by kernel_rfl) (fun _ _ _ h => h) (fun w' hw' => ?_) ?_
  · obtain ⟨ce00, ce01, ce02, fe00, fe01, fe02⟩ := (Box.se hw' Xe0.out notin0).c3
    first | (go_simp; done) | (go_simp; simp_all; done) | (go_simp; rfl)
  simp only [Act.put, List.setIfInBounds_toArray, List.set_cons_zero, List.set_cons_succ]
  refine good_callX 19 19 (some 57) #[Go.Operand.tmp 55, Go.Operand.tmp 56] #[25, 25] (some (16, true)) #[.agg #[.bool a1_b, .slice a1_a a1_n a1_c, .slice a1_d a1_m a1_e], .agg #[.bool a2_b, .slice a2_a a2_n a2_c, .slice a2_d a2_m a2_e]] (by kernel_rfl) Hok.out (by kernel_rfl) (by kernel_rfl) (by kernel_rfl) (by kernel_rfl) rfl rfl rfl (by kernel_rfl) (fun w20 hb => ?_)
  have HG := Lib.hid (below_call HG.out hb)
  clear hb
  (first | (have hcall := rlgap_ar (CR.keep Ha1.out (Keep.call HG.out)).ar (CR.keep Ha2.out (Keep.call HG.out)).ar (by decide); refine Calls.mono hcall ?_; clear hcall) | refine Calls.mono (rlgap_ar (CR.keep Ha1.out (Keep.call HG.out)).ar (CR.keep Ha2.out (Keep.call HG.out)).ar (by decide)) ?_)
  rintro e w21 ⟨v21, rfl, hg2, hb⟩
  obtain ⟨g2_b, g2_a, g2_n, g2_c, g2_d, g2_m, g2_e, rfl⟩ := hg2.litb
  refine ⟨_, rfl, ?_, hb⟩
  have HG := Lib.hid (below_call HG.out hb)
  have Hg2 := Lib.hid hg2
  clear hb hg2
  simp only [Act.put, List.setIfInBounds_toArray, List.set_cons_zero, List.set_cons_succ]
  refine good_callX 21 14 (some 59) #[Go.Operand.tmp 57, Go.Operand.tmp 58] #[25, 25] (some (16, true)) #[.agg #[.bool g2_b, .slice g2_a g2_n g2_c, .slice g2_d g2_m g2_e], .agg #[.bool f1_b, .slice f1_a f1_n f1_c, .slice f1_d f1_m f1_e]] (by kernel_rfl) Hok.out (by kernel_rfl) (by kernel_rfl) (by kernel_rfl) (by kernel_rfl) rfl rfl rfl (by kernel_rfl) (fun w22 hb => ?_)
  have Hg2 := Lib.hid (CR.keep Hg2.out (Keep.call hb))
  have HG := Lib.hid (below_call HG.out hb)
  clear hb
  (first | (have hcall := zsame_cr Hg2.out (CR.keep Hf1.out (Keep.call HG.out)) (by decide +kernel); refine Calls.mono hcall ?_; clear hcall) | refine Calls.mono (zsame_cr Hg2.out (CR.keep Hf1.out (Keep.call HG.out)) (by decide +kernel)) ?_)
  rintro e w23 ⟨v23, rfl, rfl, hb⟩
  refine ⟨_, rfl, ?_, hb⟩
  have HG := Lib.hid (below_call HG.out hb)
  clear hb
  simp only [Act.put, List.setIfInBounds_toArray, List.set_cons_zero, List.set_cons_succ]
  refine good_pureX 22 (some 60) (Go.Op.pick (Go.Operand.tmp 54) (Go.Operand.tmp 59) (Go.Operand.const (Go.Value.bool false))) (none) (.bool true) (by kernel_rfl) (by kernel_rfl) (by kernel_rfl) (fun _ _ _ h => h) (fun w' hw' => ?_) ?_
  · first | (go_simp; done) | (go_simp; simp_all; done) | (go_simp; rfl)
  simp only [Act.put, List.setIfInBounds_toArray, List.set_cons_zero, List.set_cons_succ]
  refine good_pureX 23 (some 61) (Go.Op.move (Go.Operand.tmp 60)) (none) (.bool true) (by kernel_rfl) (by kernel_rfl) (by kernel_rfl) (fun _ _ _ h => h) (fun w' hw' => ?_) ?_
  · first | (go_simp; done) | (go_simp; simp_all; done) | (go_simp; rfl)
  simp only [Act.put, List.setIfInBounds_toArray, List.set_cons_zero, List.set_cons_succ]
  refine good_pureX 24 (some 62) (Go.Op.move (Go.Operand.tmp 10)) (some (23, true)) (.int .i64 0) (by kernel_rfl) (by kernel_rfl) (by kernel_rfl) (fun _ _ _ h => h) (fun w' hw' => ?_) ?_
  · first | (go_simp; done) | (go_simp; simp_all; done) | (go_simp; rfl)
  simp only [Act.put, List.setIfInBounds_toArray, List.set_cons_zero, List.set_cons_succ]
  refine good_pureX 25 (some 63) (Go.Op.binOp Go.BinOp.eql 28 (Go.Operand.tmp 62) (Go.Operand.const (Go.Value.int Go.IntKind.i64 0)) 28) (some (23, true)) (.bool true) (by kernel_rfl) (by kernel_rfl) (by kernel_rfl) (fun _ _ _ h => h) (fun w' hw' => ?_) ?_
  · first | (go_simp; done) | (go_simp; simp_all; done) | (go_simp; rfl)
  simp only [Act.put, List.setIfInBounds_toArray, List.set_cons_zero, List.set_cons_succ]
  refine good_pureX 26 (some 64) (Go.Op.pick (Go.Operand.tmp 61) (Go.Operand.tmp 63) (Go.Operand.const (Go.Value.bool false))) (none) (.bool true) (by kernel_rfl) (by kernel_rfl) (by kernel_rfl) (fun _ _ _ h => h) (fun w' hw' => ?_) ?_
  · first | (go_simp; done) | (go_simp; simp_all; done) | (go_simp; rfl)
  simp only [Act.put, List.setIfInBounds_toArray, List.set_cons_zero, List.set_cons_succ]
  refine good_pureX 27 (some 65) (Go.Op.move (Go.Operand.tmp 64)) (none) (.bool true) (by kernel_rfl) (by kernel_rfl) (by kernel_rfl) (fun _ _ _ h => h) (fun w' hw' => ?_) ?_
  · first | (go_simp; done) | (go_simp; simp_all; done) | (go_simp; rfl)
  simp only [Act.put, List.setIfInBounds_toArray, List.set_cons_zero, List.set_cons_succ]
  refine good_pureX 28 (some 66) (Go.Op.load 25 (Go.Operand.tmp 9)) (some (27, true)) (.agg #[.bool s1_b, .slice s1_a s1_n s1_c, .slice s1_d s1_m s1_e]) (by kernel_rfl) (by kernel_rfl) (by kernel_rfl) (fun _ _ _ h => h) (fun w' hw' => ?_) ?_
  · obtain ⟨cf00, cf01, cf02, ff00, ff01, ff02⟩ := (Box.se hw' Xf0.out notin0).c3
    first | (go_simp; done) | (go_simp; simp_all; done) | (go_simp; rfl)
  simp only [Act.put, List.setIfInBounds_toArray, List.set_cons_zero, List.set_cons_succ]
  refine good_pureX 29 (some 67) (Go.Op.load 25 (Go.Operand.tmp 11)) (some (27, true)) (.agg #[.bool f2_b, .slice f2_a f2_n f2_c, .slice f2_d f2_m f2_e]) (by kernel_rfl) (by kernel_rfl) (by kernel_rfl) (fun _ _ _ h => h) (fun w' hw' => ?_) ?_
  · obtain ⟨cg00, cg01, cg02, fg00, fg01, fg02⟩ := (Box.se hw' Xg0.out notin0).c3
    first | (go_simp; done) | (go_simp; simp_all; done) | (go_simp; rfl)
  simp only [Act.put, List.setIfInBounds_toArray, List.set_cons_zero, List.set_cons_succ]
  refine good_callX 30 14 (some 68) #[Go.Operand.tmp 66, Go.Operand.tmp 67] #[25, 25] (some (27, true)) #[.agg #[.bool s1_b, .slice s1_a s1_n s1_c, .slice s1_d s1_m s1_e], .agg #[.bool f2_b, .slice f2_a f2_n f2_c, .slice f2_d f2_m f2_e]] (by kernel_rfl) Hok.out (by kernel_rfl) (by kernel_rfl) (by kernel_rfl) (by kernel_rfl) rfl rfl rfl (by kernel_rfl) (fun w24 hb => ?_)
  have HG := Lib.hid (below_call HG.out hb)
  clear hb
  (first | (have hcall := zsame_cr (CR.keep Hs1.out (Keep.call HG.out)) (CR.keep Hf2.out (Keep.call HG.out)) (by decide +kernel); refine Calls.mono hcall ?_; clear hcall) | refine Calls.mono (zsame_cr (CR.keep Hs1.out (Keep.call HG.out)) (CR.keep Hf2.out (Keep.call HG.out)) (by decide +kernel)) ?_)
  rintro e w25 ⟨v25, rfl, rfl, hb⟩
  refine ⟨_, rfl, ?_, hb⟩
  have HG := Lib.hid (below_call HG.out hb)
  clear hb
  simp only [Act.put, List.setIfInBounds_toArray, List.set_cons_zero, List.set_cons_succ]
  refine good_pureX 31 (some 69) (Go.Op.pick (Go.Operand.tmp 65) (Go.Operand.tmp 68) (Go.Operand.const (Go.Value.bool false))) (none) (.bool true) (by kernel_rfl) (by kernel_rfl) (by kernel_rfl) (fun _ _ _ h => h) (fun w' hw' => ?_) ?_
  · first | (go_simp; done) | (go_simp; simp_all; done) | (go_simp; rfl)
  simp only [Act.put, List.setIfInBounds_toArray, List.set_cons_zero, List.set_cons_succ]
  refine good_pureX 32 (some 70) (Go.Op.move (Go.Operand.tmp 69)) (none) (.bool true) (by kernel_rfl) (by kernel_rfl) (by kernel_rfl) (fun _ _ _ h => h) (fun w' hw' => ?_) ?_
  · first | (go_simp; done) | (go_simp; simp_all; done) | (go_simp; rfl)
  simp only [Act.put, List.setIfInBounds_toArray, List.set_cons_zero, List.set_cons_succ]
  refine good_callX 33 23 (some 71) #[Go.Operand.const (Go.Value.int Go.IntKind.i64 (-2))] #[3] (some (32, true)) #[.int .i64 (-2)] (by kernel_rfl) Hok.out (by kernel_rfl) (by kernel_rfl) (by kernel_rfl) (by kernel_rfl) rfl rfl rfl (by kernel_rfl) (fun w26 hb => ?_)
  have HG := Lib.hid (below_call HG.out hb)
  clear hb
  refine Calls.mono (zof (x := (-2)) (by decide) (by decide)) ?_
  rintro e w27 ⟨v27, rfl, hb1, hb⟩
  obtain ⟨b1_b, b1_a, b1_n, b1_c, b1_d, b1_m, b1_e, rfl⟩ := hb1.litb
  refine ⟨_, rfl, ?_, hb⟩
  have HG := Lib.hid (below_call HG.out hb)
  have Hb1 := Lib.hid hb1
  clear hb hb1
  simp only [Act.put, List.setIfInBounds_toArray, List.set_cons_zero, List.set_cons_succ]
  refine good_callX 34 23 (some 72) #[Go.Operand.const (Go.Value.int Go.IntKind.i64 2)] #[3] (some (32, true)) #[.int .i64 2] (by kernel_rfl) Hok.out (by kernel_rfl) (by kernel_rfl) (by kernel_rfl) (by kernel_rfl) rfl rfl rfl (by kernel_rfl) (fun w28 hb => ?_)
  have Hb1 := Lib.hid (CR.keep Hb1.out (Keep.call hb))
  have HG := Lib.hid (below_call HG.out hb)
  clear hb
  refine Calls.mono (zof (x := 2) (by decide) (by decide)) ?_
  rintro e w29 ⟨v29, rfl, hb2, hb⟩
  obtain ⟨b2_b, b2_a, b2_n, b2_c, b2_d, b2_m, b2_e, rfl⟩ := hb2.litb
  refine ⟨_, rfl, ?_, hb⟩
  have Hb1 := Lib.hid (CR.keep Hb1.out (Keep.call hb))
  have HG := Lib.hid (below_call HG.out hb)
  have Hb2 := Lib.hid hb2
  clear hb hb2
  simp only [Act.put, List.setIfInBounds_toArray, List.set_cons_zero, List.set_cons_succ]
  refine good_callX 35 17 (some 73) #[Go.Operand.tmp 71, Go.Operand.tmp 72] #[25, 25] (some (32, true)) #[.agg #[.bool b1_b, .slice b1_a b1_n b1_c, .slice b1_d b1_m b1_e], .agg #[.bool b2_b, .slice b2_a b2_n b2_c, .slice b2_d b2_m b2_e]] (by kernel_rfl) Hok.out (by kernel_rfl) (by kernel_rfl) (by kernel_rfl) (by kernel_rfl) rfl rfl rfl (by kernel_rfl) (fun w30 hb => ?_)
  have Hb1 := Lib.hid (CR.keep Hb1.out (Keep.call hb))
  have Hb2 := Lib.hid (CR.keep Hb2.out (Keep.call hb))
  have HG := Lib.hid (below_call HG.out hb)
  clear hb
  (first | (have hcall := rlslo_ar 0 (by decide +kernel) Hb1.out.ar Hb2.out.ar (by decide); refine Calls.mono hcall ?_; clear hcall) | refine Calls.mono (rlslo_ar 0 (by decide +kernel) Hb1.out.ar Hb2.out.ar (by decide)) ?_)
  rintro e w31 ⟨v31, rfl, rfl, hb⟩
  refine ⟨_, rfl, ?_, hb⟩
  have HG := Lib.hid (below_call HG.out hb)
  clear hb
  simp only [Act.put, List.setIfInBounds_toArray, List.set_cons_zero, List.set_cons_succ]
  refine good_pureX 36 (some 74) (Go.Op.binOp Go.BinOp.eql 3 (Go.Operand.tmp 73) (Go.Operand.const (Go.Value.int Go.IntKind.i64 0)) 3) (some (32, true)) (.bool true) (by kernel_rfl) (by kernel_rfl) (by kernel_rfl) (fun _ _ _ h => h) (fun w' hw' => ?_) ?_
  · first | (go_simp; done) | (go_simp; simp_all; done) | (go_simp; rfl)
  simp only [Act.put, List.setIfInBounds_toArray, List.set_cons_zero, List.set_cons_succ]
  refine good_pureX 37 (some 75) (Go.Op.pick (Go.Operand.tmp 70) (Go.Operand.tmp 74) (Go.Operand.const (Go.Value.bool false))) (none) (.bool true) (by kernel_rfl) (by kernel_rfl) (by kernel_rfl) (fun _ _ _ h => h) (fun w' hw' => ?_) ?_
  · first | (go_simp; done) | (go_simp; simp_all; done) | (go_simp; rfl)
  simp only [Act.put, List.setIfInBounds_toArray, List.set_cons_zero, List.set_cons_succ]
  refine good_pureX 38 (some 0) (Go.Op.assign (Go.Operand.tmp 75)) (none) (.bool true) (by kernel_rfl) (by kernel_rfl) (by kernel_rfl) (fun _ _ _ h => h) (fun w' hw' => ?_) ?_
  · first | (go_simp; done) | (go_simp; simp_all; done) | (go_simp; rfl)
  simp only [Act.put, List.setIfInBounds_toArray, List.set_cons_zero]
  refine good_end0 0 (by kernel_rfl) (fun _ w32 hb => ?_)
  have HG := Lib.hid (below_call HG.out hb)
  clear hb
  have Xa0 := Lib.hid (Box.pcall HG.out Xa0.out)
  have Xb0 := Lib.hid (Box.pcall HG.out Xb0.out)
  have Xc0 := Lib.hid (Box.pcall HG.out Xc0.out)
  have Xd0 := Lib.hid (Box.pcall HG.out Xd0.out)
  have Xe0 := Lib.hid (Box.pcall HG.out Xe0.out)
  have Xf0 := Lib.hid (Box.pcall HG.out Xf0.out)
  have Xg0 := Lib.hid (Box.pcall HG.out Xg0.out)
  have HB := Lib.hid (below_call HB.out HG.out)
  have HS := Lib.hid (SE.of (E := []) HG.out)
  refine wpAnyH_done (by kernel_rfl) ?_ _
  clear HG HS Hok 
  obtain ⟨ca00, ca01, ca02, fa00, fa01, fa02⟩ := Xa0.out.c3
  have la0 := Xa0.out.lt
  obtain ⟨cb00, cb01, cb02, fb00, fb01, fb02⟩ := Xb0.out.c3
  have lb0 := Xb0.out.lt
  obtain ⟨cc00, cc01, cc02, fc00, fc01, fc02⟩ := Xc0.out.c3
  have lc0 := Xc0.out.lt
  obtain ⟨cd00, cd01, cd02, fd00, fd01, fd02⟩ := Xd0.out.c3
  have ld0 := Xd0.out.lt
  obtain ⟨ce00, ce01, ce02, fe00, fe01, fe02⟩ := Xe0.out.c3
  have le0 := Xe0.out.lt
  obtain ⟨cf00, cf01, cf02, ff00, ff01, ff02⟩ := Xf0.out.c3
  have lf0 := Xf0.out.lt
  obtain ⟨cg00, cg01, cg02, fg00, fg01, fg02⟩ := Xg0.out.c3
  have lg0 := Xg0.out.lt
  go_wp2
  clear ca00 ca01 ca02 fa00 fa01 fa02 la0 cb00 cb01 cb02 fb00 fb01 fb02 lb0 cc00 cc01 cc02 fc00 fc01 fc02 lc0 cd00 cd01 cd02 fd00 fd01 fd02 ld0 ce00 ce01 ce02 fe00 fe01 fe02 le0 cf00 cf01 cf02 ff00 ff01 ff02 lf0 cg00 cg01 cg02 fg00 fg01 fg02 lg0
  go_ret
  exact ⟨_, rfl, rfl, HB.out⟩


end Go.Proofs.Ytlpjgncaedffoaa
