/- Texts RelG, in this order. -/
import Derived.Test.YtlpjgncaedffoaaDh
namespace Go.Proofs.Ytlpjgncaedffoaa
open Go.RowKit Nt
set_option linter.unusedVariables false

set_option maxHeartbeats 4000000 in
theorem ms_nil {w : World} : Calls Try.prog 36 #[.slice none 0 0, .slice none 0 0] w (Ret w (Val (.bool true))) := by
  go_enter Try.func36, Try.ntmps36
  go_wp2
  go_loopw [5] (fun i wr => i = .int .i64 0 ∧ Below w.heap.size w wr) (fun _ _ => 0)
  case atStart => exact ⟨rfl, Below.refl _ _⟩
  case round =>
    obtain ⟨rfl, hb⟩ := hrel
    go_wp2
    go_ret
    exact ⟨_, rfl, rfl, hb⟩

set_option maxRecDepth 100000 in
set_option maxHeartbeats 4000000 in
theorem ms_one {g h : Nat} {T T' : TypeId} {k x y z : Int} {b1 b2 : Bool} {s1 t1 s2 t2 : Option Addr} {n1 c1 m1 e1 n2 c2 m2 e2 : Nat} {q : Rat} {L M : Nat} {w : World} (X : Box w g T #[.int .i64 k, .int .i64 x, .int .i64 y, .int .i64 z, .bool b1, .slice s1 n1 c1, .slice t1 m1 e1]) (Y : Box w h T' #[.int .i64 k, .int .i64 x, .int .i64 y, .int .i64 z, .bool b2, .slice s2 n2 c2, .slice t2 m2 e2]) (h1 : CR q L w (.agg #[.bool b1, .slice s1 n1 c1, .slice t1 m1 e1])) (h2 : CR q M w (.agg #[.bool b2, .slice s2 n2 c2, .slice t2 m2 e2])) :
    Calls Try.prog 36 #[.slice (some ⟨g, 0, none⟩) 1 1, .slice (some ⟨h, 0, none⟩) 1 1] w (Ret w (Val (.bool true))) := by
  have Xa0 := Lib.hid X
  have Xb0 := Lib.hid Y
  have HH1 := Lib.hid h1
  have HH2 := Lib.hid h2
  clear X Y h1 h2
  go_enter Try.func36, Try.ntmps36
  go_wp2
  go_loopw [5] (fun i wr => ∃ j : Nat, j ≤ 1 ∧ i = .int .i64 j ∧ Below w.heap.size w wr) (fun i _ => 1 - (intOf i).toNat)
  case atStart => exact ⟨0, by omega, rfl, Below.refl _ _⟩
  case round =>
    obtain ⟨j, hj, rfl, hb⟩ := hrel
    have HH1 := Lib.hid (CR.keep HH1.out (Keep.call hb))
    have HH2 := Lib.hid (CR.keep HH2.out (Keep.call hb))
    have Xa0 := Lib.hid (Box.pcall hb Xa0.out)
    have Xb0 := Lib.hid (Box.pcall hb Xb0.out)
    have HB := Lib.hid hb
    clear hb
    by_cases hj0 : j = 0
    · subst hj0
      go_wp2_with fail
      have HH1 := Lib.hid (CR.keep HH1.out (Keep.drew wr))
      have HH2 := Lib.hid (CR.keep HH2.out (Keep.drew wr))
      have Xa0 := Lib.hid (Box.drew Xa0.out)
      have Xb0 := Lib.hid (Box.drew Xb0.out)
      have HB := Lib.hid (Below.drew HB.out)
      refine wp_region_float [] [] (by kernel_rfl) (by kernel_rfl) 42 (by kernel_rfl) Flok.nil ?_
      intro ok
      have Hok := Lib.hid ok
      clear ok
      have HG := Lib.hid (Below.refl (wr.drew).heap.size (wr.drew))
      refine good_pureX 0 (some 17) (Go.Op.move (Go.Operand.tmp 0)) (none) (.slice (some ⟨g, 0, none⟩) 1 1) (by kernel_rfl) (by kernel_rfl) (by kernel_rfl) (fun _ _ _ h => h) (fun w' hw' => ?_) ?_
      · first | (go_simp; done) | (go_simp; simp_all; done) | (go_simp; rfl)
      simp only [Act.put, List.setIfInBounds_toArray, List.set_cons_zero, List.set_cons_succ]
      refine good_pureX 1 (some 18) (Go.Op.move (Go.Operand.tmp 5)) (none) (.int .i64 0) (by kernel_rfl) (by kernel_rfl) (by kernel_rfl) (fun _ _ _ h => h) (fun w' hw' => ?_) ?_
      · first | (go_simp; done) | (go_simp; simp_all; done) | (go_simp; rfl)
      simp only [Act.put, List.setIfInBounds_toArray, List.set_cons_zero, List.set_cons_succ]
      refine good_pureX 2 (some 19) (Go.Op.indexAddr 44 (Go.Operand.tmp 17) (Go.Operand.tmp 18)) (none) (.pointer (some ⟨g, 0, none⟩)) (by kernel_rfl) (by kernel_rfl) (by kernel_rfl) (fun _ _ _ h => h) (fun w' hw' => ?_) ?_
      · first | (go_simp; done) | (go_simp; simp_all; done) | (go_simp; rfl)
      simp only [Act.put, List.setIfInBounds_toArray, List.set_cons_zero, List.set_cons_succ]
      refine good_pureX 3 (some 20) (Go.Op.fieldAddr 50 (Go.Operand.tmp 19) 0) (none) (.pointer (some ⟨g, 0, none⟩)) (by kernel_rfl) (by kernel_rfl) (by kernel_rfl) (fun _ _ _ h => h) (fun w' hw' => ?_) ?_
      · first | (go_simp; done) | (go_simp; simp_all; done) | (go_simp; rfl)
      simp only [Act.put, List.setIfInBounds_toArray, List.set_cons_zero, List.set_cons_succ]
      refine good_pureX 4 (some 21) (Go.Op.load 48 (Go.Operand.tmp 20)) (none) (.agg #[.int .i64 k, .int .i64 x, .int .i64 y, .int .i64 z]) (by kernel_rfl) (by kernel_rfl) (by kernel_rfl) (fun _ _ _ h => h) (fun w' hw' => ?_) ?_
      · obtain ⟨ca00, ca01, ca02, ca03, ca04, ca05, ca06, fa00, fa01, fa02, fa03, fa04, fa05, fa06⟩ := (Box.se hw' Xa0.out notin0).c7
        first | (go_simp; done) | (go_simp; simp_all; done) | (go_simp; rfl)
      simp only [Act.put, List.setIfInBounds_toArray, List.set_cons_zero, List.set_cons_succ]
      refine good_pureX 5 (some 22) (Go.Op.move (Go.Operand.tmp 1)) (none) (.slice (some ⟨h, 0, none⟩) 1 1) (by kernel_rfl) (by kernel_rfl) (by kernel_rfl) (fun _ _ _ h => h) (fun w' hw' => ?_) ?_
      · first | (go_simp; done) | (go_simp; simp_all; done) | (go_simp; rfl)
      simp only [Act.put, List.setIfInBounds_toArray, List.set_cons_zero, List.set_cons_succ]
      refine good_pureX 6 (some 23) (Go.Op.move (Go.Operand.tmp 5)) (none) (.int .i64 0) (by kernel_rfl) (by kernel_rfl) (by kernel_rfl) (fun _ _ _ h => h) (fun w' hw' => ?_) ?_
      · first | (go_simp; done) | (go_simp; simp_all; done) | (go_simp; rfl)
      simp only [Act.put, List.setIfInBounds_toArray, List.set_cons_zero, List.set_cons_succ]
      refine good_pureX 7 (some 24) (Go.Op.indexAddr 44 (Go.Operand.tmp 22) (Go.Operand.tmp 23)) (none) (.pointer (some ⟨h, 0, none⟩)) (by kernel_rfl) (by kernel_rfl) (by kernel_rfl) (fun _ _ _ h => h) (fun w' hw' => ?_) ?_
      · first | (go_simp; done) | (go_simp; simp_all; done) | (go_simp; rfl)
      simp only [Act.put, List.setIfInBounds_toArray, List.set_cons_zero, List.set_cons_succ]
      refine good_pureX 8 (some 25) (Go.Op.fieldAddr 50 (Go.Operand.tmp 24) 0) (none) (.pointer (some ⟨h, 0, none⟩)) (by kernel_rfl) (by kernel_rfl) (by kernel_rfl) (fun _ _ _ h => h) (fun w' hw' => ?_) ?_
      · first | (go_simp; done) | (go_simp; simp_all; done) | (go_simp; rfl)
      simp only [Act.put, List.setIfInBounds_toArray, List.set_cons_zero, List.set_cons_succ]
      refine good_pureX 9 (some 26) (Go.Op.load 48 (Go.Operand.tmp 25)) (none) (.agg #[.int .i64 k, .int .i64 x, .int .i64 y, .int .i64 z]) (by kernel_rfl) (by kernel_rfl) (by kernel_rfl) (fun _ _ _ h => h) (fun w' hw' => ?_) ?_
      · obtain ⟨cb00, cb01, cb02, cb03, cb04, cb05, cb06, fb00, fb01, fb02, fb03, fb04, fb05, fb06⟩ := (Box.se hw' Xb0.out notin0).c7
        first | (go_simp; done) | (go_simp; simp_all; done) | (go_simp; rfl)
      simp only [Act.put, List.setIfInBounds_toArray, List.set_cons_zero, List.set_cons_succ]
      refine good_pureX 10 (some 27) (Go.Op.binOp Go.BinOp.neq 48 (Go.Operand.tmp 21) (Go.Operand.tmp 26) 48) (none) (.bool false) (by kernel_rfl) (by kernel_rfl) (by kernel_rfl) (fun _ _ _ h => h) (fun w' hw' => ?_) ?_
      · first | (go_simp; done) | (go_simp; simp_all; done) | (go_simp; rfl)
      simp only [Act.put, List.setIfInBounds_toArray, List.set_cons_zero, List.set_cons_succ]
      refine good_pureX 11 (some 28) (Go.Op.move (Go.Operand.tmp 27)) (none) (.bool false) (by kernel_rfl) (by kernel_rfl) (by kernel_rfl) (fun _ _ _ h => h) (fun w' hw' => ?_) ?_
      · first | (go_simp; done) | (go_simp; simp_all; done) | (go_simp; rfl)
      simp only [Act.put, List.setIfInBounds_toArray, List.set_cons_zero, List.set_cons_succ]
      refine good_pureX 12 (some 29) (Go.Op.move (Go.Operand.tmp 0)) (some (11, false)) (.slice (some ⟨g, 0, none⟩) 1 1) (by kernel_rfl) (by kernel_rfl) (by kernel_rfl) (fun _ _ _ h => h) (fun w' hw' => ?_) ?_
      · first | (go_simp; done) | (go_simp; simp_all; done) | (go_simp; rfl)
      simp only [Act.put, List.setIfInBounds_toArray, List.set_cons_zero, List.set_cons_succ]
      refine good_pureX 13 (some 30) (Go.Op.move (Go.Operand.tmp 5)) (some (11, false)) (.int .i64 0) (by kernel_rfl) (by kernel_rfl) (by kernel_rfl) (fun _ _ _ h => h) (fun w' hw' => ?_) ?_
      · first | (go_simp; done) | (go_simp; simp_all; done) | (go_simp; rfl)
      simp only [Act.put, List.setIfInBounds_toArray, List.set_cons_zero, List.set_cons_succ]
      refine good_pureX 14 (some 31) (Go.Op.indexAddr 44 (Go.Operand.tmp 29) (Go.Operand.tmp 30)) (some (11, false)) (.pointer (some ⟨g, 0, none⟩)) (by kernel_rfl) (by kernel_rfl) (by kernel_rfl) (fun _ _ _ h => h) (fun w' hw' => ?_) ?_
      · first | (go_simp; done) | (go_simp; simp_all; done) | (go_simp; rfl)
      simp only [Act.put, List.setIfInBounds_toArray, List.set_cons_zero, List.set_cons_succ]
      refine good_pureX 15 (some 32) (Go.Op.fieldAddr 50 (Go.Operand.tmp 31) 1) (some (11, false)) (.pointer (some ⟨g, 4, none⟩)) (by kernel_rfl) (by kernel_rfl) (by kernel_rfl) (fun _ _ _ h => h) (fun w' hw' => ?_) ?_
      · first | (go_simp; done) | (go_simp; simp_all; done) | (go_simp; rfl)
      simp only [Act.put, List.setIfInBounds_toArray, List.set_cons_zero, List.set_cons_succ]
      refine good_pureX 16 (some 33) (Go.Op.load 25 (Go.Operand.tmp 32)) (some (11, false)) (.agg #[.bool b1, .slice s1 n1 c1, .slice t1 m1 e1]) (by kernel_rfl) (by kernel_rfl) (by kernel_rfl) (fun _ _ _ h => h) (fun w' hw' => ?_) ?_
      · obtain ⟨ca00, ca01, ca02, ca03, ca04, ca05, ca06, fa00, fa01, fa02, fa03, fa04, fa05, fa06⟩ := (Box.se hw' Xa0.out notin0).c7
        first | (go_simp; done) | (go_simp; simp_all; done) | (go_simp; rfl)
      simp only [Act.put, List.setIfInBounds_toArray, List.set_cons_zero, List.set_cons_succ]
      refine good_pureX 17 (some 34) (Go.Op.move (Go.Operand.tmp 1)) (some (11, false)) (.slice (some ⟨h, 0, none⟩) 1 1) (by kernel_rfl) (by kernel_rfl) (by kernel_rfl) (fun _ _ _ h => h) (fun w' hw' => ?_) ?_
      · first | (go_simp; done) | (go_simp; simp_all; done) | (go_simp; rfl)
      simp only [Act.put, List.setIfInBounds_toArray, List.set_cons_zero, List.set_cons_succ]
      refine good_pureX 18 (some 35) (Go.Op.move (Go.Operand.tmp 5)) (some (11, false)) (.int .i64 0) (by kernel_rfl) (by kernel_rfl) (by kernel_rfl) (fun _ _ _ h => h) (fun w' hw' => ?_) ?_
      · first | (go_simp; done) | (go_simp; simp_all; done) | (go_simp; rfl)
      simp only [Act.put, List.setIfInBounds_toArray, List.set_cons_zero, List.set_cons_succ]
      refine good_pureX 19 (some 36) (Go.Op.indexAddr 44 (Go.Operand.tmp 34) (Go.Operand.tmp 35)) (some (11, false)) (.pointer (some ⟨h, 0, none⟩)) (by kernel_rfl) (by kernel_rfl) (by kernel_rfl) (fun _ _ _ h => h) (fun w' hw' => ?_) ?_
      · first | (go_simp; done) | (go_simp; simp_all; done) | (go_simp; rfl)
      simp only [Act.put, List.setIfInBounds_toArray, List.set_cons_zero, List.set_cons_succ]
      refine good_pureX 20 (some 37) (Go.Op.fieldAddr 50 (Go.Operand.tmp 36) 1) (some (11, false)) (.pointer (some ⟨h, 4, none⟩)) (by kernel_rfl) (by kernel_rfl) (by kernel_rfl) (fun _ _ _ h => h) (fun w' hw' => ?_) ?_
      · first | (go_simp; done) | (go_simp; simp_all; done) | (go_simp; rfl)
      simp only [Act.put, List.setIfInBounds_toArray, List.set_cons_zero, List.set_cons_succ]
      refine good_pureX 21 (some 38) (Go.Op.load 25 (Go.Operand.tmp 37)) (some (11, false)) (.agg #[.bool b2, .slice s2 n2 c2, .slice t2 m2 e2]) (by kernel_rfl) (by kernel_rfl) (by kernel_rfl) (fun _ _ _ h => h) (fun w' hw' => ?_) ?_
      · obtain ⟨cb00, cb01, cb02, cb03, cb04, cb05, cb06, fb00, fb01, fb02, fb03, fb04, fb05, fb06⟩ := (Box.se hw' Xb0.out notin0).c7
        first | (go_simp; done) | (go_simp; simp_all; done) | (go_simp; rfl)
      simp only [Act.put, List.setIfInBounds_toArray, List.set_cons_zero, List.set_cons_succ]
      refine good_callX 22 14 (some 39) #[Go.Operand.tmp 33, Go.Operand.tmp 38] #[25, 25] (some (11, false)) #[.agg #[.bool b1, .slice s1 n1 c1, .slice t1 m1 e1], .agg #[.bool b2, .slice s2 n2 c2, .slice t2 m2 e2]] (by kernel_rfl) Hok.out (by kernel_rfl) (by kernel_rfl) (by kernel_rfl) (by kernel_rfl) rfl rfl rfl (by kernel_rfl) (fun w1 hb => ?_)
      have HG := Lib.hid (below_call HG.out hb)
      clear hb
      (first | (have hcall := zsame_cr (CR.keep HH1.out (Keep.call HG.out)) (CR.keep HH2.out (Keep.call HG.out)) rfl; refine Calls.mono hcall ?_; clear hcall) | refine Calls.mono (zsame_cr (CR.keep HH1.out (Keep.call HG.out)) (CR.keep HH2.out (Keep.call HG.out)) rfl) ?_)
      rintro e w2 ⟨v2, rfl, rfl, hb⟩
      refine ⟨_, rfl, ?_, hb⟩
      have HG := Lib.hid (below_call HG.out hb)
      clear hb
      simp only [Act.put, List.setIfInBounds_toArray, List.set_cons_zero, List.set_cons_succ]
      refine good_pureX 23 (some 40) (Go.Op.unOp Go.UnOp.not 4 (Go.Operand.tmp 39)) (some (11, false)) (.bool false) (by kernel_rfl) (by kernel_rfl) (by kernel_rfl) (fun _ _ _ h => h) (fun w' hw' => ?_) ?_
      · first | (go_simp; done) | (go_simp; simp_all; done) | (go_simp; rfl)
      simp only [Act.put, List.setIfInBounds_toArray, List.set_cons_zero, List.set_cons_succ]
      refine good_pureX 24 (some 41) (Go.Op.pick (Go.Operand.tmp 28) (Go.Operand.const (Go.Value.bool true)) (Go.Operand.tmp 40)) (none) (.bool false) (by kernel_rfl) (by kernel_rfl) (by kernel_rfl) (fun _ _ _ h => h) (fun w' hw' => ?_) ?_
      · first | (go_simp; done) | (go_simp; simp_all; done) | (go_simp; rfl)
      simp only [Act.put, List.setIfInBounds_toArray, List.set_cons_zero, List.set_cons_succ]
      refine good_end0 0 (by kernel_rfl) (fun _ w3 hb => ?_)
      have HG := Lib.hid (below_call HG.out hb)
      clear hb
      have HH1 := Lib.hid (CR.keep HH1.out (Keep.call HG.out))
      have HH2 := Lib.hid (CR.keep HH2.out (Keep.call HG.out))
      have Xa0 := Lib.hid (Box.pcall HG.out Xa0.out)
      have Xb0 := Lib.hid (Box.pcall HG.out Xb0.out)
      have HB := Lib.hid (below_call HB.out HG.out)
      have HS := Lib.hid (SE.of (E := []) HG.out)
      refine wpAnyH_done (by kernel_rfl) ?_ _
      clear HG HS Hok 
      go_wp2
      go_roundw
      case rel => exact ⟨1, by omega, by go_num, HB.out⟩
      case measure => simp [intOf]
    · obtain rfl : j = 1 := by omega
      go_wp2
      go_ret
      exact ⟨_, rfl, rfl, HB.out⟩

set_option maxRecDepth 100000 in
set_option maxHeartbeats 4000000 in
theorem lmul_big {x y z : Int} {ba : Bool} {sa ta : Option Addr} {na ca ma ea : Nat} {bb : Bool} {sb tb : Option Addr} {nb cb mb eb : Nat}  {w : World} (hB8 : ([⟨ba, sa, na, ca, ta, ma, ea⟩, ⟨bb, sb, nb, cb, tb, mb, eb⟩] : List Rw).any Rw.big = true)  :
    Calls Try.prog 9 #[.int .i64 x, .int .i64 y, .int .i64 z, .agg #[.bool ba, .slice sa na ca, .slice ta ma ea], .agg #[.bool bb, .slice sb nb cb, .slice tb mb eb]] w (Ret w (Val (.bool true))) := by
  have HB8 := Lib.hid hB8
  clear hB8
  go_enter Try.func9, Try.ntmps9
  have HB := Lib.hid (Below.refl w.heap.size w)
  go_wp2_with fail
  obtain ⟨W1, hW⟩ : ∃ W1, W1 = (World.alloc (World.alloc w (.cells #[.bool ba, .slice sa na ca, .slice ta ma ea] 25)) (.cells #[.bool bb, .slice sb nb cb, .slice tb mb eb] 25)) := ⟨_, rfl⟩
  rw [← hW]
  obtain ⟨xa0, xb0, hk, hb⟩ := boxes_2 _ _ _ _ _ hW
  clear hW
  have Ga0 := Lib.hid (show w.heap.size ≤ w.heap.size from Nat.le_trans HB.out.size (by omega))
  have Gb0 := Lib.hid (show w.heap.size ≤ w.heap.size + 1 from Nat.le_trans HB.out.size (by omega))
  have Xa0 := Lib.hid xa0
  have Xb0 := Lib.hid xb0
  have HB := Lib.hid (below_call HB.out hb)
  clear hk hb xa0 xb0
  refine Calls.mono (awake25) ?_
  rintro e w2 ⟨v2, rfl, rfl, hb⟩
  have Xa0 := Lib.hid (Box.pcall hb Xa0.out)
  have Xb0 := Lib.hid (Box.pcall hb Xb0.out)
  have HB := Lib.hid (below_call HB.out hb)
  clear hb
  obtain ⟨ca00, ca01, ca02, fa00, fa01, fa02⟩ := Xa0.out.c3
  have la0 := Xa0.out.lt
  obtain ⟨cb00, cb01, cb02, fb00, fb01, fb02⟩ := Xb0.out.c3
  have lb0 := Xb0.out.lt
  go_wp2_with fail
  clear ca00 ca01 ca02 fa00 fa01 fa02 la0 cb00 cb01 cb02 fb00 fb01 fb02 lb0
  obtain ⟨W3, hW⟩ : ∃ W3, W3 = (World.alloc w2 (.cells #[.bool ba, .slice sa na ca, .slice ta ma ea, .bool bb, .slice sb nb cb, .slice tb mb eb] 25)) := ⟨_, rfl⟩
  rw [← hW]
  obtain ⟨xc0, hk, hb⟩ := boxes_1 _ _ _ hW
  clear hW
  have Na0c0 := Lib.hid (show w.heap.size ≠ w2.heap.size from Nat.ne_of_lt (Nat.lt_of_lt_of_le Xa0.out.lt (by omega)))
  have Nb0c0 := Lib.hid (show w.heap.size + 1 ≠ w2.heap.size from Nat.ne_of_lt (Nat.lt_of_lt_of_le Xb0.out.lt (by omega)))
  have Gc0 := Lib.hid (show w.heap.size ≤ w2.heap.size from Nat.le_trans HB.out.size (by omega))
  have Xa0 := Lib.hid (Box.pcall hb Xa0.out)
  have Xb0 := Lib.hid (Box.pcall hb Xb0.out)
  have Xc0 := Lib.hid xc0
  have HB := Lib.hid (below_call HB.out hb)
  clear hk hb xc0
  refine Calls.mono (large2 Xc0.out HB8.out) ?_
  rintro e w4 ⟨v4, rfl, rfl, hb⟩
  have Xa0 := Lib.hid (Box.pcall hb Xa0.out)
  have Xb0 := Lib.hid (Box.pcall hb Xb0.out)
  have Xc0 := Lib.hid (Box.pcall hb Xc0.out)
  have HB := Lib.hid (below_call HB.out hb)
  clear hb
  obtain ⟨ca00, ca01, ca02, fa00, fa01, fa02⟩ := Xa0.out.c3
  have la0 := Xa0.out.lt
  obtain ⟨cb00, cb01, cb02, fb00, fb01, fb02⟩ := Xb0.out.c3
  have lb0 := Xb0.out.lt
  go_wp2
  clear ca00 ca01 ca02 fa00 fa01 fa02 la0 cb00 cb01 cb02 fb00 fb01 fb02 lb0
  go_ret
  exact ⟨_, rfl, rfl, HB.out⟩


set_option maxRecDepth 100000 in
set_option maxHeartbeats 4000000 in
theorem lmul_AE {x z : Int} {y : Int} {qa : Rat} {ba : Bool} {sa ta : Option Addr} {na ca ma ea : Nat} {qb : Rat} {bb : Bool} {sb tb : Option Addr} {nb cb mb eb : Nat}  {w : World} (hua : x < 0 ∨ (y : Int) < 1 ∨ z < 1) (hle : x < 0 ∨ y < 0 ∨ 1 < y) (hB8 : ([⟨ba, sa, na, ca, ta, ma, ea⟩, ⟨bb, sb, nb, cb, tb, mb, eb⟩] : List Rw).any Rw.big = false) (ha : AR qa 8 w (.agg #[.bool ba, .slice sa na ca, .slice ta ma ea])) (hb : AR qb 8 w (.agg #[.bool bb, .slice sb nb cb, .slice tb mb eb])) :
    Calls Try.prog 9 #[.int .i64 x, .int .i64 y, .int .i64 z, .agg #[.bool ba, .slice sa na ca, .slice ta ma ea], .agg #[.bool bb, .slice sb nb cb, .slice tb mb eb]] w (Ret w (Val (.bool true))) := by
  have Ha := Lib.hid ha
  have Hb := Lib.hid hb
  have HB8 := Lib.hid hB8
  have Hua := Lib.hid hua
  have Hle := Lib.hid hle
  clear ha hb hB8 hua hle
  go_enter Try.func9, Try.ntmps9
  have HB := Lib.hid (Below.refl w.heap.size w)
  go_wp2_with fail
  obtain ⟨W1, hW⟩ : ∃ W1, W1 = (World.alloc (World.alloc w (.cells #[.bool ba, .slice sa na ca, .slice ta ma ea] 25)) (.cells #[.bool bb, .slice sb nb cb, .slice tb mb eb] 25)) := ⟨_, rfl⟩
  rw [← hW]
  obtain ⟨xa0, xb0, hk, hb⟩ := boxes_2 _ _ _ _ _ hW
  clear hW
  have Ha := Lib.hid (AR.keep Ha.out hk)
  have Hb := Lib.hid (AR.keep Hb.out hk)
  have Ga0 := Lib.hid (show w.heap.size ≤ w.heap.size from Nat.le_trans HB.out.size (by omega))
  have Gb0 := Lib.hid (show w.heap.size ≤ w.heap.size + 1 from Nat.le_trans HB.out.size (by omega))
  have Xa0 := Lib.hid xa0
  have Xb0 := Lib.hid xb0
  have HB := Lib.hid (below_call HB.out hb)
  clear hk hb xa0 xb0
  refine Calls.mono (awake25) ?_
  rintro e w2 ⟨v2, rfl, rfl, hb⟩
  have Ha := Lib.hid (AR.keep Ha.out (Keep.call hb))
  have Hb := Lib.hid (AR.keep Hb.out (Keep.call hb))
  have Xa0 := Lib.hid (Box.pcall hb Xa0.out)
  have Xb0 := Lib.hid (Box.pcall hb Xb0.out)
  have HB := Lib.hid (below_call HB.out hb)
  clear hb
  obtain ⟨ca00, ca01, ca02, fa00, fa01, fa02⟩ := Xa0.out.c3
  have la0 := Xa0.out.lt
  obtain ⟨cb00, cb01, cb02, fb00, fb01, fb02⟩ := Xb0.out.c3
  have lb0 := Xb0.out.lt
  go_wp2_with fail
  clear ca00 ca01 ca02 fa00 fa01 fa02 la0 cb00 cb01 cb02 fb00 fb01 fb02 lb0
  obtain ⟨W3, hW⟩ : ∃ W3, W3 = (World.alloc w2 (.cells #[.bool ba, .slice sa na ca, .slice ta ma ea, .bool bb, .slice sb nb cb, .slice tb mb eb] 25)) := ⟨_, rfl⟩
  rw [← hW]
  obtain ⟨xc0, hk, hb⟩ := boxes_1 _ _ _ hW
  clear hW
  have Ha := Lib.hid (AR.keep Ha.out hk)
  have Hb := Lib.hid (AR.keep Hb.out hk)
  have Na0c0 := Lib.hid (show w.heap.size ≠ w2.heap.size from Nat.ne_of_lt (Nat.lt_of_lt_of_le Xa0.out.lt (by omega)))
  have Nb0c0 := Lib.hid (show w.heap.size + 1 ≠ w2.heap.size from Nat.ne_of_lt (Nat.lt_of_lt_of_le Xb0.out.lt (by omega)))
  have Gc0 := Lib.hid (show w.heap.size ≤ w2.heap.size from Nat.le_trans HB.out.size (by omega))
  have Xa0 := Lib.hid (Box.pcall hb Xa0.out)
  have Xb0 := Lib.hid (Box.pcall hb Xb0.out)
  have Xc0 := Lib.hid xc0
  have HB := Lib.hid (below_call HB.out hb)
  clear hk hb xc0
  refine Calls.mono (large2 Xc0.out HB8.out) ?_
  rintro e w4 ⟨v4, rfl, rfl, hb⟩
  have Ha := Lib.hid (AR.keep Ha.out (Keep.call hb))
  have Hb := Lib.hid (AR.keep Hb.out (Keep.call hb))
  have Xa0 := Lib.hid (Box.pcall hb Xa0.out)
  have Xb0 := Lib.hid (Box.pcall hb Xb0.out)
  have Xc0 := Lib.hid (Box.pcall hb Xc0.out)
  have HB := Lib.hid (below_call HB.out hb)
  clear hb
  obtain ⟨ca00, ca01, ca02, fa00, fa01, fa02⟩ := Xa0.out.c3
  have la0 := Xa0.out.lt
  obtain ⟨cb00, cb01, cb02, fb00, fb01, fb02⟩ := Xb0.out.c3
  have lb0 := Xb0.out.lt
  go_wp2_with fail
  clear ca00 ca01 ca02 fa00 fa01 fa02 la0 cb00 cb01 cb02 fb00 fb01 fb02 lb0
  (first | (have hcall := rlup_arg Hua.out Ha.out Hb.out (by decide); refine Calls.mono hcall ?_; clear hcall) | refine Calls.mono (rlup_arg Hua.out Ha.out Hb.out (by decide)) ?_)
  rintro e w5 ⟨v5, rfl, rfl, hb⟩
  have Ha := Lib.hid (AR.keep Ha.out (Keep.call hb))
  have Hb := Lib.hid (AR.keep Hb.out (Keep.call hb))
  have Xa0 := Lib.hid (Box.pcall hb Xa0.out)
  have Xb0 := Lib.hid (Box.pcall hb Xb0.out)
  have Xc0 := Lib.hid (Box.pcall hb Xc0.out)
  have HB := Lib.hid (below_call HB.out hb)
  clear hb
  obtain ⟨ca00, ca01, ca02, fa00, fa01, fa02⟩ := Xa0.out.c3
  have la0 := Xa0.out.lt
  obtain ⟨cb00, cb01, cb02, fb00, fb01, fb02⟩ := Xb0.out.c3
  have lb0 := Xb0.out.lt
  go_wp2_with fail
  clear ca00 ca01 ca02 fa00 fa01 fa02 la0 cb00 cb01 cb02 fb00 fb01 fb02 lb0
  (first | (have hcall := zlup_arg Hua.out Ha.out Hb.out (by decide); refine Calls.mono hcall ?_; clear hcall) | refine Calls.mono (zlup_arg Hua.out Ha.out Hb.out (by decide)) ?_)
  rintro e w6 ⟨v6, rfl, rfl, hb⟩
  have Xa0 := Lib.hid (Box.pcall hb Xa0.out)
  have Xb0 := Lib.hid (Box.pcall hb Xb0.out)
  have Xc0 := Lib.hid (Box.pcall hb Xc0.out)
  have HB := Lib.hid (below_call HB.out hb)
  clear hb
  obtain ⟨ca00, ca01, ca02, fa00, fa01, fa02⟩ := Xa0.out.c3
  have la0 := Xa0.out.lt
  obtain ⟨cb00, cb01, cb02, fb00, fb01, fb02⟩ := Xb0.out.c3
  have lb0 := Xb0.out.lt
  go_wp2_with fail
  clear ca00 ca01 ca02 fa00 fa01 fa02 la0 cb00 cb01 cb02 fb00 fb01 fb02 lb0
  refine Calls.mono (rllow_err Hle.out) ?_
  rintro e w7 ⟨v7, rfl, rfl, hb⟩
  have Xa0 := Lib.hid (Box.pcall hb Xa0.out)
  have Xb0 := Lib.hid (Box.pcall hb Xb0.out)
  have Xc0 := Lib.hid (Box.pcall hb Xc0.out)
  have HB := Lib.hid (below_call HB.out hb)
  clear hb
  obtain ⟨ca00, ca01, ca02, fa00, fa01, fa02⟩ := Xa0.out.c3
  have la0 := Xa0.out.lt
  obtain ⟨cb00, cb01, cb02, fb00, fb01, fb02⟩ := Xb0.out.c3
  have lb0 := Xb0.out.lt
  go_wp2_with fail
  clear ca00 ca01 ca02 fa00 fa01 fa02 la0 cb00 cb01 cb02 fb00 fb01 fb02 lb0
  refine Calls.mono (zllow_err Hle.out) ?_
  rintro e w8 ⟨v8, rfl, rfl, hb⟩
  have Xa0 := Lib.hid (Box.pcall hb Xa0.out)
  have Xb0 := Lib.hid (Box.pcall hb Xb0.out)
  have Xc0 := Lib.hid (Box.pcall hb Xc0.out)
  have HB := Lib.hid (below_call HB.out hb)
  clear hb
  obtain ⟨ca00, ca01, ca02, fa00, fa01, fa02⟩ := Xa0.out.c3
  have la0 := Xa0.out.lt
  obtain ⟨cb00, cb01, cb02, fb00, fb01, fb02⟩ := Xb0.out.c3
  have lb0 := Xb0.out.lt
  go_wp2_with fail
  clear ca00 ca01 ca02 fa00 fa01 fa02 la0 cb00 cb01 cb02 fb00 fb01 fb02 lb0
  refine Calls.mono (ms_nil) ?_
  rintro e w9 ⟨v9, rfl, rfl, hb⟩
  have Xa0 := Lib.hid (Box.pcall hb Xa0.out)
  have Xb0 := Lib.hid (Box.pcall hb Xb0.out)
  have Xc0 := Lib.hid (Box.pcall hb Xc0.out)
  have HB := Lib.hid (below_call HB.out hb)
  clear hb
  obtain ⟨ca00, ca01, ca02, fa00, fa01, fa02⟩ := Xa0.out.c3
  have la0 := Xa0.out.lt
  obtain ⟨cb00, cb01, cb02, fb00, fb01, fb02⟩ := Xb0.out.c3
  have lb0 := Xb0.out.lt
  go_wp2_with fail
  clear ca00 ca01 ca02 fa00 fa01 fa02 la0 cb00 cb01 cb02 fb00 fb01 fb02 lb0
  refine Calls.mono (ms_nil) ?_
  rintro e w10 ⟨v10, rfl, rfl, hb⟩
  have Xa0 := Lib.hid (Box.pcall hb Xa0.out)
  have Xb0 := Lib.hid (Box.pcall hb Xb0.out)
  have Xc0 := Lib.hid (Box.pcall hb Xc0.out)
  have HB := Lib.hid (below_call HB.out hb)
  clear hb
  obtain ⟨ca00, ca01, ca02, fa00, fa01, fa02⟩ := Xa0.out.c3
  have la0 := Xa0.out.lt
  obtain ⟨cb00, cb01, cb02, fb00, fb01, fb02⟩ := Xb0.out.c3
  have lb0 := Xb0.out.lt
  go_wp2
  clear ca00 ca01 ca02 fa00 fa01 fa02 la0 cb00 cb01 cb02 fb00 fb01 fb02 lb0
  go_ret
  exact ⟨_, rfl, rfl, HB.out⟩


set_option maxRecDepth 100000 in
set_option maxHeartbeats 4000000 in
theorem lmul_A0 {x z : Int} {qa : Rat} {ba : Bool} {sa ta : Option Addr} {na ca ma ea : Nat} {qb : Rat} {bb : Bool} {sb tb : Option Addr} {nb cb mb eb : Nat}  {w : World} (hua : x < 0 ∨ (0 : Int) < 1 ∨ z < 1) (hlx : decide (x < 0) = false) (hB8 : ([⟨ba, sa, na, ca, ta, ma, ea⟩, ⟨bb, sb, nb, cb, tb, mb, eb⟩] : List Rw).any Rw.big = false) (ha : AR qa 8 w (.agg #[.bool ba, .slice sa na ca, .slice ta ma ea])) (hb : AR qb 8 w (.agg #[.bool bb, .slice sb nb cb, .slice tb mb eb])) :
    Calls Try.prog 9 #[.int .i64 x, .int .i64 0, .int .i64 z, .agg #[.bool ba, .slice sa na ca, .slice ta ma ea], .agg #[.bool bb, .slice sb nb cb, .slice tb mb eb]] w (Ret w (Val (.bool true))) := by
  have Ha := Lib.hid ha
  have Hb := Lib.hid hb
  have HB8 := Lib.hid hB8
  have Hua := Lib.hid hua
  have Hlx := Lib.hid hlx
  clear ha hb hB8 hua hlx
  go_enter Try.func9, Try.ntmps9
  have HB := Lib.hid (Below.refl w.heap.size w)
  go_wp2_with fail
  obtain ⟨W1, hW⟩ : ∃ W1, W1 = (World.alloc (World.alloc w (.cells #[.bool ba, .slice sa na ca, .slice ta ma ea] 25)) (.cells #[.bool bb, .slice sb nb cb, .slice tb mb eb] 25)) := ⟨_, rfl⟩
  rw [← hW]
  obtain ⟨xa0, xb0, hk, hb⟩ := boxes_2 _ _ _ _ _ hW
  clear hW
  have Ha := Lib.hid (AR.keep Ha.out hk)
  have Hb := Lib.hid (AR.keep Hb.out hk)
  have Ga0 := Lib.hid (show w.heap.size ≤ w.heap.size from Nat.le_trans HB.out.size (by omega))
  have Gb0 := Lib.hid (show w.heap.size ≤ w.heap.size + 1 from Nat.le_trans HB.out.size (by omega))
  have Xa0 := Lib.hid xa0
  have Xb0 := Lib.hid xb0
  have HB := Lib.hid (below_call HB.out hb)
  clear hk hb xa0 xb0
  refine Calls.mono (awake25) ?_
  rintro e w2 ⟨v2, rfl, rfl, hb⟩
  have Ha := Lib.hid (AR.keep Ha.out (Keep.call hb))
  have Hb := Lib.hid (AR.keep Hb.out (Keep.call hb))
  have Xa0 := Lib.hid (Box.pcall hb Xa0.out)
  have Xb0 := Lib.hid (Box.pcall hb Xb0.out)
  have HB := Lib.hid (below_call HB.out hb)
  clear hb
  obtain ⟨ca00, ca01, ca02, fa00, fa01, fa02⟩ := Xa0.out.c3
  have la0 := Xa0.out.lt
  obtain ⟨cb00, cb01, cb02, fb00, fb01, fb02⟩ := Xb0.out.c3
  have lb0 := Xb0.out.lt
  go_wp2_with fail
  clear ca00 ca01 ca02 fa00 fa01 fa02 la0 cb00 cb01 cb02 fb00 fb01 fb02 lb0
  obtain ⟨W3, hW⟩ : ∃ W3, W3 = (World.alloc w2 (.cells #[.bool ba, .slice sa na ca, .slice ta ma ea, .bool bb, .slice sb nb cb, .slice tb mb eb] 25)) := ⟨_, rfl⟩
  rw [← hW]
  obtain ⟨xc0, hk, hb⟩ := boxes_1 _ _ _ hW
  clear hW
  have Ha := Lib.hid (AR.keep Ha.out hk)
  have Hb := Lib.hid (AR.keep Hb.out hk)
  have Na0c0 := Lib.hid (show w.heap.size ≠ w2.heap.size from Nat.ne_of_lt (Nat.lt_of_lt_of_le Xa0.out.lt (by omega)))
  have Nb0c0 := Lib.hid (show w.heap.size + 1 ≠ w2.heap.size from Nat.ne_of_lt (Nat.lt_of_lt_of_le Xb0.out.lt (by omega)))
  have Gc0 := Lib.hid (show w.heap.size ≤ w2.heap.size from Nat.le_trans HB.out.size (by omega))
  have Xa0 := Lib.hid (Box.pcall hb Xa0.out)
  have Xb0 := Lib.hid (Box.pcall hb Xb0.out)
  have Xc0 := Lib.hid xc0
  have HB := Lib.hid (below_call HB.out hb)
  clear hk hb xc0
  refine Calls.mono (large2 Xc0.out HB8.out) ?_
  rintro e w4 ⟨v4, rfl, rfl, hb⟩
  have Ha := Lib.hid (AR.keep Ha.out (Keep.call hb))
  have Hb := Lib.hid (AR.keep Hb.out (Keep.call hb))
  have Xa0 := Lib.hid (Box.pcall hb Xa0.out)
  have Xb0 := Lib.hid (Box.pcall hb Xb0.out)
  have Xc0 := Lib.hid (Box.pcall hb Xc0.out)
  have HB := Lib.hid (below_call HB.out hb)
  clear hb
  obtain ⟨ca00, ca01, ca02, fa00, fa01, fa02⟩ := Xa0.out.c3
  have la0 := Xa0.out.lt
  obtain ⟨cb00, cb01, cb02, fb00, fb01, fb02⟩ := Xb0.out.c3
  have lb0 := Xb0.out.lt
  go_wp2_with fail
  clear ca00 ca01 ca02 fa00 fa01 fa02 la0 cb00 cb01 cb02 fb00 fb01 fb02 lb0
  (first | (have hcall := rlup_arg Hua.out Ha.out Hb.out (by decide); refine Calls.mono hcall ?_; clear hcall) | refine Calls.mono (rlup_arg Hua.out Ha.out Hb.out (by decide)) ?_)
  rintro e w5 ⟨v5, rfl, rfl, hb⟩
  have Ha := Lib.hid (AR.keep Ha.out (Keep.call hb))
  have Hb := Lib.hid (AR.keep Hb.out (Keep.call hb))
  have Xa0 := Lib.hid (Box.pcall hb Xa0.out)
  have Xb0 := Lib.hid (Box.pcall hb Xb0.out)
  have Xc0 := Lib.hid (Box.pcall hb Xc0.out)
  have HB := Lib.hid (below_call HB.out hb)
  clear hb
  obtain ⟨ca00, ca01, ca02, fa00, fa01, fa02⟩ := Xa0.out.c3
  have la0 := Xa0.out.lt
  obtain ⟨cb00, cb01, cb02, fb00, fb01, fb02⟩ := Xb0.out.c3
  have lb0 := Xb0.out.lt
  go_wp2_with fail
  clear ca00 ca01 ca02 fa00 fa01 fa02 la0 cb00 cb01 cb02 fb00 fb01 fb02 lb0
  (first | (have hcall := zlup_arg Hua.out Ha.out Hb.out (by decide); refine Calls.mono hcall ?_; clear hcall) | refine Calls.mono (zlup_arg Hua.out Ha.out Hb.out (by decide)) ?_)
  rintro e w6 ⟨v6, rfl, rfl, hb⟩
  have Xa0 := Lib.hid (Box.pcall hb Xa0.out)
  have Xb0 := Lib.hid (Box.pcall hb Xb0.out)
  have Xc0 := Lib.hid (Box.pcall hb Xc0.out)
  have HB := Lib.hid (below_call HB.out hb)
  clear hb
  obtain ⟨ca00, ca01, ca02, fa00, fa01, fa02⟩ := Xa0.out.c3
  have la0 := Xa0.out.lt
  obtain ⟨cb00, cb01, cb02, fb00, fb01, fb02⟩ := Xb0.out.c3
  have lb0 := Xb0.out.lt
  go_wp2_with fail
  clear ca00 ca01 ca02 fa00 fa01 fa02 la0 cb00 cb01 cb02 fb00 fb01 fb02 lb0
  refine Calls.mono (rllow_0 Hlx.out) ?_
  rintro e w7 ⟨t7, rfl, ⟨gd0, m3_b, m3_a, m3_n, m3_c, m3_d, m3_m, m3_e, rfl, ed0, xd0, hm3⟩, hb⟩
  have Na0d0 := Lib.hid (show w.heap.size ≠ gd0 from Nat.ne_of_lt (Nat.lt_of_lt_of_le Xa0.out.lt ed0))
  have Nb0d0 := Lib.hid (show w.heap.size + 1 ≠ gd0 from Nat.ne_of_lt (Nat.lt_of_lt_of_le Xb0.out.lt ed0))
  have Nc0d0 := Lib.hid (show w2.heap.size ≠ gd0 from Nat.ne_of_lt (Nat.lt_of_lt_of_le Xc0.out.lt ed0))
  have Gd0 := Lib.hid (show w.heap.size ≤ gd0 from Nat.le_trans HB.out.size ed0)
  clear ed0
  have Xa0 := Lib.hid (Box.pcall hb Xa0.out)
  have Xb0 := Lib.hid (Box.pcall hb Xb0.out)
  have Xc0 := Lib.hid (Box.pcall hb Xc0.out)
  have HB := Lib.hid (below_call HB.out hb)
  have Hm3 := Lib.hid hm3
  clear hb hm3
  have Xd0 := Lib.hid xd0
  clear xd0
  obtain ⟨ca00, ca01, ca02, fa00, fa01, fa02⟩ := Xa0.out.c3
  have la0 := Xa0.out.lt
  obtain ⟨cb00, cb01, cb02, fb00, fb01, fb02⟩ := Xb0.out.c3
  have lb0 := Xb0.out.lt
  go_wp2_with fail
  clear ca00 ca01 ca02 fa00 fa01 fa02 la0 cb00 cb01 cb02 fb00 fb01 fb02 lb0
  refine Calls.mono (zllow_0 Hlx.out) ?_
  rintro e w8 ⟨t8, rfl, ⟨ge0, m4_b, m4_a, m4_n, m4_c, m4_d, m4_m, m4_e, rfl, ee0, xe0, hm4⟩, hb⟩
  have Na0e0 := Lib.hid (show w.heap.size ≠ ge0 from Nat.ne_of_lt (Nat.lt_of_lt_of_le Xa0.out.lt ee0))
  have Nb0e0 := Lib.hid (show w.heap.size + 1 ≠ ge0 from Nat.ne_of_lt (Nat.lt_of_lt_of_le Xb0.out.lt ee0))
  have Nc0e0 := Lib.hid (show w2.heap.size ≠ ge0 from Nat.ne_of_lt (Nat.lt_of_lt_of_le Xc0.out.lt ee0))
  have Nd0e0 := Lib.hid (show gd0 ≠ ge0 from Nat.ne_of_lt (Nat.lt_of_lt_of_le Xd0.out.lt ee0))
  have Ge0 := Lib.hid (show w.heap.size ≤ ge0 from Nat.le_trans HB.out.size ee0)
  clear ee0
  have Hm3 := Lib.hid (CR.keep Hm3.out (Keep.call hb))
  have Xa0 := Lib.hid (Box.pcall hb Xa0.out)
  have Xb0 := Lib.hid (Box.pcall hb Xb0.out)
  have Xc0 := Lib.hid (Box.pcall hb Xc0.out)
  have Xd0 := Lib.hid (Box.pcall hb Xd0.out)
  have HB := Lib.hid (below_call HB.out hb)
  have Hm4 := Lib.hid hm4
  clear hb hm4
  have Xe0 := Lib.hid xe0
  clear xe0
  obtain ⟨ca00, ca01, ca02, fa00, fa01, fa02⟩ := Xa0.out.c3
  have la0 := Xa0.out.lt
  obtain ⟨cb00, cb01, cb02, fb00, fb01, fb02⟩ := Xb0.out.c3
  have lb0 := Xb0.out.lt
  go_wp2_with fail
  clear ca00 ca01 ca02 fa00 fa01 fa02 la0 cb00 cb01 cb02 fb00 fb01 fb02 lb0
  refine Calls.mono (ms_nil) ?_
  rintro e w9 ⟨v9, rfl, rfl, hb⟩
  have Hm3 := Lib.hid (CR.keep Hm3.out (Keep.call hb))
  have Hm4 := Lib.hid (CR.keep Hm4.out (Keep.call hb))
  have Xa0 := Lib.hid (Box.pcall hb Xa0.out)
  have Xb0 := Lib.hid (Box.pcall hb Xb0.out)
  have Xc0 := Lib.hid (Box.pcall hb Xc0.out)
  have Xd0 := Lib.hid (Box.pcall hb Xd0.out)
  have Xe0 := Lib.hid (Box.pcall hb Xe0.out)
  have HB := Lib.hid (below_call HB.out hb)
  clear hb
  obtain ⟨ca00, ca01, ca02, fa00, fa01, fa02⟩ := Xa0.out.c3
  have la0 := Xa0.out.lt
  obtain ⟨cb00, cb01, cb02, fb00, fb01, fb02⟩ := Xb0.out.c3
  have lb0 := Xb0.out.lt
  go_wp2_with fail
  clear ca00 ca01 ca02 fa00 fa01 fa02 la0 cb00 cb01 cb02 fb00 fb01 fb02 lb0
  (first | (have hcall := ms_one Xd0.out Xe0.out Hm3.out Hm4.out; refine Calls.mono hcall ?_; clear hcall) | refine Calls.mono (ms_one Xd0.out Xe0.out Hm3.out Hm4.out) ?_)
  rintro e w10 ⟨v10, rfl, rfl, hb⟩
  have Xa0 := Lib.hid (Box.pcall hb Xa0.out)
  have Xb0 := Lib.hid (Box.pcall hb Xb0.out)
  have Xc0 := Lib.hid (Box.pcall hb Xc0.out)
  have Xd0 := Lib.hid (Box.pcall hb Xd0.out)
  have Xe0 := Lib.hid (Box.pcall hb Xe0.out)
  have HB := Lib.hid (below_call HB.out hb)
  clear hb
  obtain ⟨ca00, ca01, ca02, fa00, fa01, fa02⟩ := Xa0.out.c3
  have la0 := Xa0.out.lt
  obtain ⟨cb00, cb01, cb02, fb00, fb01, fb02⟩ := Xb0.out.c3
  have lb0 := Xb0.out.lt
  go_wp2
  clear ca00 ca01 ca02 fa00 fa01 fa02 la0 cb00 cb01 cb02 fb00 fb01 fb02 lb0
  go_ret
  exact ⟨_, rfl, rfl, HB.out⟩


set_option maxRecDepth 100000 in
set_option maxHeartbeats 4000000 in
theorem lmul_A1 {x z : Int} {qa : Rat} {ba : Bool} {sa ta : Option Addr} {na ca ma ea : Nat} {qb : Rat} {bb : Bool} {sb tb : Option Addr} {nb cb mb eb : Nat}  {w : World} (hua : x < 0 ∨ (1 : Int) < 1 ∨ z < 1) (hlx : decide (x < 0) = false) (hB8 : ([⟨ba, sa, na, ca, ta, ma, ea⟩, ⟨bb, sb, nb, cb, tb, mb, eb⟩] : List Rw).any Rw.big = false) (ha : AR qa 8 w (.agg #[.bool ba, .slice sa na ca, .slice ta ma ea])) (hb : AR qb 8 w (.agg #[.bool bb, .slice sb nb cb, .slice tb mb eb])) :
    Calls Try.prog 9 #[.int .i64 x, .int .i64 1, .int .i64 z, .agg #[.bool ba, .slice sa na ca, .slice ta ma ea], .agg #[.bool bb, .slice sb nb cb, .slice tb mb eb]] w (Ret w (Val (.bool true))) := by
  have Ha := Lib.hid ha
  have Hb := Lib.hid hb
  have HB8 := Lib.hid hB8
  have Hua := Lib.hid hua
  have Hlx := Lib.hid hlx
  clear ha hb hB8 hua hlx
  go_enter Try.func9, Try.ntmps9
  have HB := Lib.hid (Below.refl w.heap.size w)
  go_wp2_with fail
  obtain ⟨W1, hW⟩ : ∃ W1, W1 = (World.alloc (World.alloc w (.cells #[.bool ba, .slice sa na ca, .slice ta ma ea] 25)) (.cells #[.bool bb, .slice sb nb cb, .slice tb mb eb] 25)) := ⟨_, rfl⟩
  rw [← hW]
  obtain ⟨xa0, xb0, hk, hb⟩ := boxes_2 _ _ _ _ _ hW
  clear hW
  have Ha := Lib.hid (AR.keep Ha.out hk)
  have Hb := Lib.hid (AR.keep Hb.out hk)
  have Ga0 := Lib.hid (show w.heap.size ≤ w.heap.size from Nat.le_trans HB.out.size (by omega))
  have Gb0 := Lib.hid (show w.heap.size ≤ w.heap.size + 1 from Nat.le_trans HB.out.size (by omega))
  have Xa0 := Lib.hid xa0
  have Xb0 := Lib.hid xb0
  have HB := Lib.hid (below_call HB.out hb)
  clear hk hb xa0 xb0
  refine Calls.mono (awake25) ?_
  rintro e w2 ⟨v2, rfl, rfl, hb⟩
  have Ha := Lib.hid (AR.keep Ha.out (Keep.call hb))
  have Hb := Lib.hid (AR.keep Hb.out (Keep.call hb))
  have Xa0 := Lib.hid (Box.pcall hb Xa0.out)
  have Xb0 := Lib.hid (Box.pcall hb Xb0.out)
  have HB := Lib.hid (below_call HB.out hb)
  clear hb
  obtain ⟨ca00, ca01, ca02, fa00, fa01, fa02⟩ := Xa0.out.c3
  have la0 := Xa0.out.lt
  obtain ⟨cb00, cb01, cb02, fb00, fb01, fb02⟩ := Xb0.out.c3
  have lb0 := Xb0.out.lt
  go_wp2_with fail
  clear ca00 ca01 ca02 fa00 fa01 fa02 la0 cb00 cb01 cb02 fb00 fb01 fb02 lb0
  obtain ⟨W3, hW⟩ : ∃ W3, W3 = (World.alloc w2 (.cells #[.bool ba, .slice sa na ca, .slice ta ma ea, .bool bb, .slice sb nb cb, .slice tb mb eb] 25)) := ⟨_, rfl⟩
  rw [← hW]
  obtain ⟨xc0, hk, hb⟩ := boxes_1 _ _ _ hW
  clear hW
  have Ha := Lib.hid (AR.keep Ha.out hk)
  have Hb := Lib.hid (AR.keep Hb.out hk)
  have Na0c0 := Lib.hid (show w.heap.size ≠ w2.heap.size from Nat.ne_of_lt (Nat.lt_of_lt_of_le Xa0.out.lt (by omega)))
  have Nb0c0 := Lib.hid (show w.heap.size + 1 ≠ w2.heap.size from Nat.ne_of_lt (Nat.lt_of_lt_of_le Xb0.out.lt (by omega)))
  have Gc0 := Lib.hid (show w.heap.size ≤ w2.heap.size from Nat.le_trans HB.out.size (by omega))
  have Xa0 := Lib.hid (Box.pcall hb Xa0.out)
  have Xb0 := Lib.hid (Box.pcall hb Xb0.out)
  have Xc0 := Lib.hid xc0
  have HB := Lib.hid (below_call HB.out hb)
  clear hk hb xc0
  refine Calls.mono (large2 Xc0.out HB8.out) ?_
  rintro e w4 ⟨v4, rfl, rfl, hb⟩
  have Ha := Lib.hid (AR.keep Ha.out (Keep.call hb))
  have Hb := Lib.hid (AR.keep Hb.out (Keep.call hb))
  have Xa0 := Lib.hid (Box.pcall hb Xa0.out)
  have Xb0 := Lib.hid (Box.pcall hb Xb0.out)
  have Xc0 := Lib.hid (Box.pcall hb Xc0.out)
  have HB := Lib.hid (below_call HB.out hb)
  clear hb
  obtain ⟨ca00, ca01, ca02, fa00, fa01, fa02⟩ := Xa0.out.c3
  have la0 := Xa0.out.lt
  obtain ⟨cb00, cb01, cb02, fb00, fb01, fb02⟩ := Xb0.out.c3
  have lb0 := Xb0.out.lt
  go_wp2_with fail
  clear ca00 ca01 ca02 fa00 fa01 fa02 la0 cb00 cb01 cb02 fb00 fb01 fb02 lb0
  (first | (have hcall := rlup_arg Hua.out Ha.out Hb.out (by decide); refine Calls.mono hcall ?_; clear hcall) | refine Calls.mono (rlup_arg Hua.out Ha.out Hb.out (by decide)) ?_)
  rintro e w5 ⟨v5, rfl, rfl, hb⟩
  have Ha := Lib.hid (AR.keep Ha.out (Keep.call hb))
  have Hb := Lib.hid (AR.keep Hb.out (Keep.call hb))
  have Xa0 := Lib.hid (Box.pcall hb Xa0.out)
  have Xb0 := Lib.hid (Box.pcall hb Xb0.out)
  have Xc0 := Lib.hid (Box.pcall hb Xc0.out)
  have HB := Lib.hid (below_call HB.out hb)
  clear hb
  obtain ⟨ca00, ca01, ca02, fa00, fa01, fa02⟩ := Xa0.out.c3
  have la0 := Xa0.out.lt
  obtain ⟨cb00, cb01, cb02, fb00, fb01, fb02⟩ := Xb0.out.c3
  have lb0 := Xb0.out.lt
  go_wp2_with fail
  clear ca00 ca01 ca02 fa00 fa01 fa02 la0 cb00 cb01 cb02 fb00 fb01 fb02 lb0
  (first | (have hcall := zlup_arg Hua.out Ha.out Hb.out (by decide); refine Calls.mono hcall ?_; clear hcall) | refine Calls.mono (zlup_arg Hua.out Ha.out Hb.out (by decide)) ?_)
  rintro e w6 ⟨v6, rfl, rfl, hb⟩
  have Xa0 := Lib.hid (Box.pcall hb Xa0.out)
  have Xb0 := Lib.hid (Box.pcall hb Xb0.out)
  have Xc0 := Lib.hid (Box.pcall hb Xc0.out)
  have HB := Lib.hid (below_call HB.out hb)
  clear hb
  obtain ⟨ca00, ca01, ca02, fa00, fa01, fa02⟩ := Xa0.out.c3
  have la0 := Xa0.out.lt
  obtain ⟨cb00, cb01, cb02, fb00, fb01, fb02⟩ := Xb0.out.c3
  have lb0 := Xb0.out.lt
  go_wp2_with fail
  clear ca00 ca01 ca02 fa00 fa01 fa02 la0 cb00 cb01 cb02 fb00 fb01 fb02 lb0
  refine Calls.mono (rllow_1 Hlx.out) ?_
  rintro e w7 ⟨t7, rfl, ⟨gd0, m3_b, m3_a, m3_n, m3_c, m3_d, m3_m, m3_e, rfl, ed0, xd0, hm3⟩, hb⟩
  have Na0d0 := Lib.hid (show w.heap.size ≠ gd0 from Nat.ne_of_lt (Nat.lt_of_lt_of_le Xa0.out.lt ed0))
  have Nb0d0 := Lib.hid (show w.heap.size + 1 ≠ gd0 from Nat.ne_of_lt (Nat.lt_of_lt_of_le Xb0.out.lt ed0))
  have Nc0d0 := Lib.hid (show w2.heap.size ≠ gd0 from Nat.ne_of_lt (Nat.lt_of_lt_of_le Xc0.out.lt ed0))
  have Gd0 := Lib.hid (show w.heap.size ≤ gd0 from Nat.le_trans HB.out.size ed0)
  clear ed0
  have Xa0 := Lib.hid (Box.pcall hb Xa0.out)
  have Xb0 := Lib.hid (Box.pcall hb Xb0.out)
  have Xc0 := Lib.hid (Box.pcall hb Xc0.out)
  have HB := Lib.hid (below_call HB.out hb)
  have Hm3 := Lib.hid hm3
  clear hb hm3
  have Xd0 := Lib.hid xd0
  clear xd0
  obtain ⟨ca00, ca01, ca02, fa00, fa01, fa02⟩ := Xa0.out.c3
  have la0 := Xa0.out.lt
  obtain ⟨cb00, cb01, cb02, fb00, fb01, fb02⟩ := Xb0.out.c3
  have lb0 := Xb0.out.lt
  go_wp2_with fail
  clear ca00 ca01 ca02 fa00 fa01 fa02 la0 cb00 cb01 cb02 fb00 fb01 fb02 lb0
  refine Calls.mono (zllow_1 Hlx.out) ?_
  rintro e w8 ⟨t8, rfl, ⟨ge0, m4_b, m4_a, m4_n, m4_c, m4_d, m4_m, m4_e, rfl, ee0, xe0, hm4⟩, hb⟩
  have Na0e0 := Lib.hid (show w.heap.size ≠ ge0 from Nat.ne_of_lt (Nat.lt_of_lt_of_le Xa0.out.lt ee0))
  have Nb0e0 := Lib.hid (show w.heap.size + 1 ≠ ge0 from Nat.ne_of_lt (Nat.lt_of_lt_of_le Xb0.out.lt ee0))
  have Nc0e0 := Lib.hid (show w2.heap.size ≠ ge0 from Nat.ne_of_lt (Nat.lt_of_lt_of_le Xc0.out.lt ee0))
  have Nd0e0 := Lib.hid (show gd0 ≠ ge0 from Nat.ne_of_lt (Nat.lt_of_lt_of_le Xd0.out.lt ee0))
  have Ge0 := Lib.hid (show w.heap.size ≤ ge0 from Nat.le_trans HB.out.size ee0)
  clear ee0
  have Hm3 := Lib.hid (CR.keep Hm3.out (Keep.call hb))
  have Xa0 := Lib.hid (Box.pcall hb Xa0.out)
  have Xb0 := Lib.hid (Box.pcall hb Xb0.out)
  have Xc0 := Lib.hid (Box.pcall hb Xc0.out)
  have Xd0 := Lib.hid (Box.pcall hb Xd0.out)
  have HB := Lib.hid (below_call HB.out hb)
  have Hm4 := Lib.hid hm4
  clear hb hm4
  have Xe0 := Lib.hid xe0
  clear xe0
  obtain ⟨ca00, ca01, ca02, fa00, fa01, fa02⟩ := Xa0.out.c3
  have la0 := Xa0.out.lt
  obtain ⟨cb00, cb01, cb02, fb00, fb01, fb02⟩ := Xb0.out.c3
  have lb0 := Xb0.out.lt
  go_wp2_with fail
  clear ca00 ca01 ca02 fa00 fa01 fa02 la0 cb00 cb01 cb02 fb00 fb01 fb02 lb0
  refine Calls.mono (ms_nil) ?_
  rintro e w9 ⟨v9, rfl, rfl, hb⟩
  have Hm3 := Lib.hid (CR.keep Hm3.out (Keep.call hb))
  have Hm4 := Lib.hid (CR.keep Hm4.out (Keep.call hb))
  have Xa0 := Lib.hid (Box.pcall hb Xa0.out)
  have Xb0 := Lib.hid (Box.pcall hb Xb0.out)
  have Xc0 := Lib.hid (Box.pcall hb Xc0.out)
  have Xd0 := Lib.hid (Box.pcall hb Xd0.out)
  have Xe0 := Lib.hid (Box.pcall hb Xe0.out)
  have HB := Lib.hid (below_call HB.out hb)
  clear hb
  obtain ⟨ca00, ca01, ca02, fa00, fa01, fa02⟩ := Xa0.out.c3
  have la0 := Xa0.out.lt
  obtain ⟨cb00, cb01, cb02, fb00, fb01, fb02⟩ := Xb0.out.c3
  have lb0 := Xb0.out.lt
  go_wp2_with fail
  clear ca00 ca01 ca02 fa00 fa01 fa02 la0 cb00 cb01 cb02 fb00 fb01 fb02 lb0
  (first | (have hcall := ms_one Xd0.out Xe0.out Hm3.out Hm4.out; refine Calls.mono hcall ?_; clear hcall) | refine Calls.mono (ms_one Xd0.out Xe0.out Hm3.out Hm4.out) ?_)
  rintro e w10 ⟨v10, rfl, rfl, hb⟩
  have Xa0 := Lib.hid (Box.pcall hb Xa0.out)
  have Xb0 := Lib.hid (Box.pcall hb Xb0.out)
  have Xc0 := Lib.hid (Box.pcall hb Xc0.out)
  have Xd0 := Lib.hid (Box.pcall hb Xd0.out)
  have Xe0 := Lib.hid (Box.pcall hb Xe0.out)
  have HB := Lib.hid (below_call HB.out hb)
  clear hb
  obtain ⟨ca00, ca01, ca02, fa00, fa01, fa02⟩ := Xa0.out.c3
  have la0 := Xa0.out.lt
  obtain ⟨cb00, cb01, cb02, fb00, fb01, fb02⟩ := Xb0.out.c3
  have lb0 := Xb0.out.lt
  go_wp2
  clear ca00 ca01 ca02 fa00 fa01 fa02 la0 cb00 cb01 cb02 fb00 fb01 fb02 lb0
  go_ret
  exact ⟨_, rfl, rfl, HB.out⟩


set_option maxRecDepth 100000 in
set_option maxHeartbeats 4000000 in
theorem lmul_RE {x z : Int} {y : Int} {qa : Rat} {ba : Bool} {sa ta : Option Addr} {na ca ma ea : Nat} {qb : Rat} {bb : Bool} {sb tb : Option Addr} {nb cb mb eb : Nat}  {w : World} (hx0 : 0 ≤ x) (hy1 : 1 ≤ y) (hz1 : 1 ≤ z) (hu : unst qa qb = false) (hle : x < 0 ∨ y < 0 ∨ 1 < y) (hB8 : ([⟨ba, sa, na, ca, ta, ma, ea⟩, ⟨bb, sb, nb, cb, tb, mb, eb⟩] : List Rw).any Rw.big = false) (ha : AR qa 8 w (.agg #[.bool ba, .slice sa na ca, .slice ta ma ea])) (hb : AR qb 8 w (.agg #[.bool bb, .slice sb nb cb, .slice tb mb eb])) :
    Calls Try.prog 9 #[.int .i64 x, .int .i64 y, .int .i64 z, .agg #[.bool ba, .slice sa na ca, .slice ta ma ea], .agg #[.bool bb, .slice sb nb cb, .slice tb mb eb]] w (Ret w (Val (.bool true))) := by
  have Ha := Lib.hid ha
  have Hb := Lib.hid hb
  have HB8 := Lib.hid hB8
  have Hx0 := Lib.hid hx0
  have Hy1 := Lib.hid hy1
  have Hz1 := Lib.hid hz1
  have Hu := Lib.hid hu
  have Hle := Lib.hid hle
  clear ha hb hB8 hx0 hy1 hz1 hu hle
  go_enter Try.func9, Try.ntmps9
  have HB := Lib.hid (Below.refl w.heap.size w)
  go_wp2_with fail
  obtain ⟨W1, hW⟩ : ∃ W1, W1 = (World.alloc (World.alloc w (.cells #[.bool ba, .slice sa na ca, .slice ta ma ea] 25)) (.cells #[.bool bb, .slice sb nb cb, .slice tb mb eb] 25)) := ⟨_, rfl⟩
  rw [← hW]
  obtain ⟨xa0, xb0, hk, hb⟩ := boxes_2 _ _ _ _ _ hW
  clear hW
  have Ha := Lib.hid (AR.keep Ha.out hk)
  have Hb := Lib.hid (AR.keep Hb.out hk)
  have Ga0 := Lib.hid (show w.heap.size ≤ w.heap.size from Nat.le_trans HB.out.size (by omega))
  have Gb0 := Lib.hid (show w.heap.size ≤ w.heap.size + 1 from Nat.le_trans HB.out.size (by omega))
  have Xa0 := Lib.hid xa0
  have Xb0 := Lib.hid xb0
  have HB := Lib.hid (below_call HB.out hb)
  clear hk hb xa0 xb0
  refine Calls.mono (awake25) ?_
  rintro e w2 ⟨v2, rfl, rfl, hb⟩
  have Ha := Lib.hid (AR.keep Ha.out (Keep.call hb))
  have Hb := Lib.hid (AR.keep Hb.out (Keep.call hb))
  have Xa0 := Lib.hid (Box.pcall hb Xa0.out)
  have Xb0 := Lib.hid (Box.pcall hb Xb0.out)
  have HB := Lib.hid (below_call HB.out hb)
  clear hb
  obtain ⟨ca00, ca01, ca02, fa00, fa01, fa02⟩ := Xa0.out.c3
  have la0 := Xa0.out.lt
  obtain ⟨cb00, cb01, cb02, fb00, fb01, fb02⟩ := Xb0.out.c3
  have lb0 := Xb0.out.lt
  go_wp2_with fail
  clear ca00 ca01 ca02 fa00 fa01 fa02 la0 cb00 cb01 cb02 fb00 fb01 fb02 lb0
  obtain ⟨W3, hW⟩ : ∃ W3, W3 = (World.alloc w2 (.cells #[.bool ba, .slice sa na ca, .slice ta ma ea, .bool bb, .slice sb nb cb, .slice tb mb eb] 25)) := ⟨_, rfl⟩
  rw [← hW]
  obtain ⟨xc0, hk, hb⟩ := boxes_1 _ _ _ hW
  clear hW
  have Ha := Lib.hid (AR.keep Ha.out hk)
  have Hb := Lib.hid (AR.keep Hb.out hk)
  have Na0c0 := Lib.hid (show w.heap.size ≠ w2.heap.size from Nat.ne_of_lt (Nat.lt_of_lt_of_le Xa0.out.lt (by omega)))
  have Nb0c0 := Lib.hid (show w.heap.size + 1 ≠ w2.heap.size from Nat.ne_of_lt (Nat.lt_of_lt_of_le Xb0.out.lt (by omega)))
  have Gc0 := Lib.hid (show w.heap.size ≤ w2.heap.size from Nat.le_trans HB.out.size (by omega))
  have Xa0 := Lib.hid (Box.pcall hb Xa0.out)
  have Xb0 := Lib.hid (Box.pcall hb Xb0.out)
  have Xc0 := Lib.hid xc0
  have HB := Lib.hid (below_call HB.out hb)
  clear hk hb xc0
  refine Calls.mono (large2 Xc0.out HB8.out) ?_
  rintro e w4 ⟨v4, rfl, rfl, hb⟩
  have Ha := Lib.hid (AR.keep Ha.out (Keep.call hb))
  have Hb := Lib.hid (AR.keep Hb.out (Keep.call hb))
  have Xa0 := Lib.hid (Box.pcall hb Xa0.out)
  have Xb0 := Lib.hid (Box.pcall hb Xb0.out)
  have Xc0 := Lib.hid (Box.pcall hb Xc0.out)
  have HB := Lib.hid (below_call HB.out hb)
  clear hb
  obtain ⟨ca00, ca01, ca02, fa00, fa01, fa02⟩ := Xa0.out.c3
  have la0 := Xa0.out.lt
  obtain ⟨cb00, cb01, cb02, fb00, fb01, fb02⟩ := Xb0.out.c3
  have lb0 := Xb0.out.lt
  go_wp2_with fail
  clear ca00 ca01 ca02 fa00 fa01 fa02 la0 cb00 cb01 cb02 fb00 fb01 fb02 lb0
  (first | (have hcall := rlup_rng Hx0.out Hy1.out Hz1.out Hu.out Ha.out Hb.out (by decide); refine Calls.mono hcall ?_; clear hcall) | refine Calls.mono (rlup_rng Hx0.out Hy1.out Hz1.out Hu.out Ha.out Hb.out (by decide)) ?_)
  rintro e w5 ⟨v5, rfl, rfl, hb⟩
  have Ha := Lib.hid (AR.keep Ha.out (Keep.call hb))
  have Hb := Lib.hid (AR.keep Hb.out (Keep.call hb))
  have Xa0 := Lib.hid (Box.pcall hb Xa0.out)
  have Xb0 := Lib.hid (Box.pcall hb Xb0.out)
  have Xc0 := Lib.hid (Box.pcall hb Xc0.out)
  have HB := Lib.hid (below_call HB.out hb)
  clear hb
  obtain ⟨ca00, ca01, ca02, fa00, fa01, fa02⟩ := Xa0.out.c3
  have la0 := Xa0.out.lt
  obtain ⟨cb00, cb01, cb02, fb00, fb01, fb02⟩ := Xb0.out.c3
  have lb0 := Xb0.out.lt
  go_wp2_with fail
  clear ca00 ca01 ca02 fa00 fa01 fa02 la0 cb00 cb01 cb02 fb00 fb01 fb02 lb0
  (first | (have hcall := zlup_rng Hx0.out Hy1.out Hz1.out Hu.out Ha.out Hb.out (by decide); refine Calls.mono hcall ?_; clear hcall) | refine Calls.mono (zlup_rng Hx0.out Hy1.out Hz1.out Hu.out Ha.out Hb.out (by decide)) ?_)
  rintro e w6 ⟨v6, rfl, rfl, hb⟩
  have Xa0 := Lib.hid (Box.pcall hb Xa0.out)
  have Xb0 := Lib.hid (Box.pcall hb Xb0.out)
  have Xc0 := Lib.hid (Box.pcall hb Xc0.out)
  have HB := Lib.hid (below_call HB.out hb)
  clear hb
  obtain ⟨ca00, ca01, ca02, fa00, fa01, fa02⟩ := Xa0.out.c3
  have la0 := Xa0.out.lt
  obtain ⟨cb00, cb01, cb02, fb00, fb01, fb02⟩ := Xb0.out.c3
  have lb0 := Xb0.out.lt
  go_wp2_with fail
  clear ca00 ca01 ca02 fa00 fa01 fa02 la0 cb00 cb01 cb02 fb00 fb01 fb02 lb0
  refine Calls.mono (rllow_err Hle.out) ?_
  rintro e w7 ⟨v7, rfl, rfl, hb⟩
  have Xa0 := Lib.hid (Box.pcall hb Xa0.out)
  have Xb0 := Lib.hid (Box.pcall hb Xb0.out)
  have Xc0 := Lib.hid (Box.pcall hb Xc0.out)
  have HB := Lib.hid (below_call HB.out hb)
  clear hb
  obtain ⟨ca00, ca01, ca02, fa00, fa01, fa02⟩ := Xa0.out.c3
  have la0 := Xa0.out.lt
  obtain ⟨cb00, cb01, cb02, fb00, fb01, fb02⟩ := Xb0.out.c3
  have lb0 := Xb0.out.lt
  go_wp2_with fail
  clear ca00 ca01 ca02 fa00 fa01 fa02 la0 cb00 cb01 cb02 fb00 fb01 fb02 lb0
  refine Calls.mono (zllow_err Hle.out) ?_
  rintro e w8 ⟨v8, rfl, rfl, hb⟩
  have Xa0 := Lib.hid (Box.pcall hb Xa0.out)
  have Xb0 := Lib.hid (Box.pcall hb Xb0.out)
  have Xc0 := Lib.hid (Box.pcall hb Xc0.out)
  have HB := Lib.hid (below_call HB.out hb)
  clear hb
  obtain ⟨ca00, ca01, ca02, fa00, fa01, fa02⟩ := Xa0.out.c3
  have la0 := Xa0.out.lt
  obtain ⟨cb00, cb01, cb02, fb00, fb01, fb02⟩ := Xb0.out.c3
  have lb0 := Xb0.out.lt
  go_wp2_with fail
  clear ca00 ca01 ca02 fa00 fa01 fa02 la0 cb00 cb01 cb02 fb00 fb01 fb02 lb0
  refine Calls.mono (ms_nil) ?_
  rintro e w9 ⟨v9, rfl, rfl, hb⟩
  have Xa0 := Lib.hid (Box.pcall hb Xa0.out)
  have Xb0 := Lib.hid (Box.pcall hb Xb0.out)
  have Xc0 := Lib.hid (Box.pcall hb Xc0.out)
  have HB := Lib.hid (below_call HB.out hb)
  clear hb
  obtain ⟨ca00, ca01, ca02, fa00, fa01, fa02⟩ := Xa0.out.c3
  have la0 := Xa0.out.lt
  obtain ⟨cb00, cb01, cb02, fb00, fb01, fb02⟩ := Xb0.out.c3
  have lb0 := Xb0.out.lt
  go_wp2_with fail
  clear ca00 ca01 ca02 fa00 fa01 fa02 la0 cb00 cb01 cb02 fb00 fb01 fb02 lb0
  refine Calls.mono (ms_nil) ?_
  rintro e w10 ⟨v10, rfl, rfl, hb⟩
  have Xa0 := Lib.hid (Box.pcall hb Xa0.out)
  have Xb0 := Lib.hid (Box.pcall hb Xb0.out)
  have Xc0 := Lib.hid (Box.pcall hb Xc0.out)
  have HB := Lib.hid (below_call HB.out hb)
  clear hb
  obtain ⟨ca00, ca01, ca02, fa00, fa01, fa02⟩ := Xa0.out.c3
  have la0 := Xa0.out.lt
  obtain ⟨cb00, cb01, cb02, fb00, fb01, fb02⟩ := Xb0.out.c3
  have lb0 := Xb0.out.lt
  go_wp2
  clear ca00 ca01 ca02 fa00 fa01 fa02 la0 cb00 cb01 cb02 fb00 fb01 fb02 lb0
  go_ret
  exact ⟨_, rfl, rfl, HB.out⟩


set_option maxRecDepth 100000 in
set_option maxHeartbeats 4000000 in
theorem lmul_R1 {x z : Int} {qa : Rat} {ba : Bool} {sa ta : Option Addr} {na ca ma ea : Nat} {qb : Rat} {bb : Bool} {sb tb : Option Addr} {nb cb mb eb : Nat}  {w : World} (hx0 : 0 ≤ x) (hy1 : 1 ≤ (1 : Int)) (hz1 : 1 ≤ z) (hu : unst qa qb = false) (hlx : decide (x < 0) = false) (hB8 : ([⟨ba, sa, na, ca, ta, ma, ea⟩, ⟨bb, sb, nb, cb, tb, mb, eb⟩] : List Rw).any Rw.big = false) (ha : AR qa 8 w (.agg #[.bool ba, .slice sa na ca, .slice ta ma ea])) (hb : AR qb 8 w (.agg #[.bool bb, .slice sb nb cb, .slice tb mb eb])) :
    Calls Try.prog 9 #[.int .i64 x, .int .i64 1, .int .i64 z, .agg #[.bool ba, .slice sa na ca, .slice ta ma ea], .agg #[.bool bb, .slice sb nb cb, .slice tb mb eb]] w (Ret w (Val (.bool true))) := by
  have Ha := Lib.hid ha
  have Hb := Lib.hid hb
  have HB8 := Lib.hid hB8
  have Hx0 := Lib.hid hx0
  have Hy1 := Lib.hid hy1
  have Hz1 := Lib.hid hz1
  have Hu := Lib.hid hu
  have Hlx := Lib.hid hlx
  clear ha hb hB8 hx0 hy1 hz1 hu hlx
  go_enter Try.func9, Try.ntmps9
  have HB := Lib.hid (Below.refl w.heap.size w)
  go_wp2_with fail
  obtain ⟨W1, hW⟩ : ∃ W1, W1 = (World.alloc (World.alloc w (.cells #[.bool ba, .slice sa na ca, .slice ta ma ea] 25)) (.cells #[.bool bb, .slice sb nb cb, .slice tb mb eb] 25)) := ⟨_, rfl⟩
  rw [← hW]
  obtain ⟨xa0, xb0, hk, hb⟩ := boxes_2 _ _ _ _ _ hW
  clear hW
  have Ha := Lib.hid (AR.keep Ha.out hk)
  have Hb := Lib.hid (AR.keep Hb.out hk)
  have Ga0 := Lib.hid (show w.heap.size ≤ w.heap.size from Nat.le_trans HB.out.size (by omega))
  have Gb0 := Lib.hid (show w.heap.size ≤ w.heap.size + 1 from Nat.le_trans HB.out.size (by omega))
  have Xa0 := Lib.hid xa0
  have Xb0 := Lib.hid xb0
  have HB := Lib.hid (below_call HB.out hb)
  clear hk hb xa0 xb0
  refine Calls.mono (awake25) ?_
  rintro e w2 ⟨v2, rfl, rfl, hb⟩
  have Ha := Lib.hid (AR.keep Ha.out (Keep.call hb))
  have Hb := Lib.hid (AR.keep Hb.out (Keep.call hb))
  have Xa0 := Lib.hid (Box.pcall hb Xa0.out)
  have Xb0 := Lib.hid (Box.pcall hb Xb0.out)
  have HB := Lib.hid (below_call HB.out hb)
  clear hb
  obtain ⟨ca00, ca01, ca02, fa00, fa01, fa02⟩ := Xa0.out.c3
  have la0 := Xa0.out.lt
  obtain ⟨cb00, cb01, cb02, fb00, fb01, fb02⟩ := Xb0.out.c3
  have lb0 := Xb0.out.lt
  go_wp2_with fail
  clear ca00 ca01 ca02 fa00 fa01 fa02 la0 cb00 cb01 cb02 fb00 fb01 fb02 lb0
  obtain ⟨W3, hW⟩ : ∃ W3, W3 = (World.alloc w2 (.cells #[.bool ba, .slice sa na ca, .slice ta ma ea, .bool bb, .slice sb nb cb, .slice tb mb eb] 25)) := ⟨_, rfl⟩
  rw [← hW]
  obtain ⟨xc0, hk, hb⟩ := boxes_1 _ _ _ hW
  clear hW
  have Ha := Lib.hid (AR.keep Ha.out hk)
  have Hb := Lib.hid (AR.keep Hb.out hk)
  have Na0c0 := Lib.hid (show w.heap.size ≠ w2.heap.size from Nat.ne_of_lt (Nat.lt_of_lt_of_le Xa0.out.lt (by omega)))
  have Nb0c0 := Lib.hid (show w.heap.size + 1 ≠ w2.heap.size from Nat.ne_of_lt (Nat.lt_of_lt_of_le Xb0.out.lt (by omega)))
  have Gc0 := Lib.hid (show w.heap.size ≤ w2.heap.size from Nat.le_trans HB.out.size (by omega))
  have Xa0 := Lib.hid (Box.pcall hb Xa0.out)
  have Xb0 := Lib.hid (Box.pcall hb Xb0.out)
  have Xc0 := Lib.hid xc0
  have HB := Lib.hid (below_call HB.out hb)
  clear hk hb xc0
  refine Calls.mono (large2 Xc0.out HB8.out) ?_
  rintro e w4 ⟨v4, rfl, rfl, hb⟩
  have Ha := Lib.hid (AR.keep Ha.out (Keep.call hb))
  have Hb := Lib.hid (AR.keep Hb.out (Keep.call hb))
  have Xa0 := Lib.hid (Box.pcall hb Xa0.out)
  have Xb0 := Lib.hid (Box.pcall hb Xb0.out)
  have Xc0 := Lib.hid (Box.pcall hb Xc0.out)
  have HB := Lib.hid (below_call HB.out hb)
  clear hb
  obtain ⟨ca00, ca01, ca02, fa00, fa01, fa02⟩ := Xa0.out.c3
  have la0 := Xa0.out.lt
  obtain ⟨cb00, cb01, cb02, fb00, fb01, fb02⟩ := Xb0.out.c3
  have lb0 := Xb0.out.lt
  go_wp2_with fail
  clear ca00 ca01 ca02 fa00 fa01 fa02 la0 cb00 cb01 cb02 fb00 fb01 fb02 lb0
  (first | (have hcall := rlup_rng Hx0.out Hy1.out Hz1.out Hu.out Ha.out Hb.out (by decide); refine Calls.mono hcall ?_; clear hcall) | refine Calls.mono (rlup_rng Hx0.out Hy1.out Hz1.out Hu.out Ha.out Hb.out (by decide)) ?_)
  rintro e w5 ⟨v5, rfl, rfl, hb⟩
  have Ha := Lib.hid (AR.keep Ha.out (Keep.call hb))
  have Hb := Lib.hid (AR.keep Hb.out (Keep.call hb))
  have Xa0 := Lib.hid (Box.pcall hb Xa0.out)
  have Xb0 := Lib.hid (Box.pcall hb Xb0.out)
  have Xc0 := Lib.hid (Box.pcall hb Xc0.out)
  have HB := Lib.hid (below_call HB.out hb)
  clear hb
  obtain ⟨ca00, ca01, ca02, fa00, fa01, fa02⟩ := Xa0.out.c3
  have la0 := Xa0.out.lt
  obtain ⟨cb00, cb01, cb02, fb00, fb01, fb02⟩ := Xb0.out.c3
  have lb0 := Xb0.out.lt
  go_wp2_with fail
  clear ca00 ca01 ca02 fa00 fa01 fa02 la0 cb00 cb01 cb02 fb00 fb01 fb02 lb0
  (first | (have hcall := zlup_rng Hx0.out Hy1.out Hz1.out Hu.out Ha.out Hb.out (by decide); refine Calls.mono hcall ?_; clear hcall) | refine Calls.mono (zlup_rng Hx0.out Hy1.out Hz1.out Hu.out Ha.out Hb.out (by decide)) ?_)
  rintro e w6 ⟨v6, rfl, rfl, hb⟩
  have Xa0 := Lib.hid (Box.pcall hb Xa0.out)
  have Xb0 := Lib.hid (Box.pcall hb Xb0.out)
  have Xc0 := Lib.hid (Box.pcall hb Xc0.out)
  have HB := Lib.hid (below_call HB.out hb)
  clear hb
  obtain ⟨ca00, ca01, ca02, fa00, fa01, fa02⟩ := Xa0.out.c3
  have la0 := Xa0.out.lt
  obtain ⟨cb00, cb01, cb02, fb00, fb01, fb02⟩ := Xb0.out.c3
  have lb0 := Xb0.out.lt
  go_wp2_with fail
  clear ca00 ca01 ca02 fa00 fa01 fa02 la0 cb00 cb01 cb02 fb00 fb01 fb02 lb0
  refine Calls.mono (rllow_1 Hlx.out) ?_
  rintro e w7 ⟨t7, rfl, ⟨gd0, m3_b, m3_a, m3_n, m3_c, m3_d, m3_m, m3_e, rfl, ed0, xd0, hm3⟩, hb⟩
  have Na0d0 := Lib.hid (show w.heap.size ≠ gd0 from Nat.ne_of_lt (Nat.lt_of_lt_of_le Xa0.out.lt ed0))
  have Nb0d0 := Lib.hid (show w.heap.size + 1 ≠ gd0 from Nat.ne_of_lt (Nat.lt_of_lt_of_le Xb0.out.lt ed0))
  have Nc0d0 := Lib.hid (show w2.heap.size ≠ gd0 from Nat.ne_of_lt (Nat.lt_of_lt_of_le Xc0.out.lt ed0))
  have Gd0 := Lib.hid (show w.heap.size ≤ gd0 from Nat.le_trans HB.out.size ed0)
  clear ed0
  have Xa0 := Lib.hid (Box.pcall hb Xa0.out)
  have Xb0 := Lib.hid (Box.pcall hb Xb0.out)
  have Xc0 := Lib.hid (Box.pcall hb Xc0.out)
  have HB := Lib.hid (below_call HB.out hb)
  have Hm3 := Lib.hid hm3
  clear hb hm3
  have Xd0 := Lib.hid xd0
  clear xd0
  obtain ⟨ca00, ca01, ca02, fa00, fa01, fa02⟩ := Xa0.out.c3
  have la0 := Xa0.out.lt
  obtain ⟨cb00, cb01, cb02, fb00, fb01, fb02⟩ := Xb0.out.c3
  have lb0 := Xb0.out.lt
  go_wp2_with fail
  clear ca00 ca01 ca02 fa00 fa01 fa02 la0 cb00 cb01 cb02 fb00 fb01 fb02 lb0
  refine Calls.mono (zllow_1 Hlx.out) ?_
  rintro e w8 ⟨t8, rfl, ⟨ge0, m4_b, m4_a, m4_n, m4_c, m4_d, m4_m, m4_e, rfl, ee0, xe0, hm4⟩, hb⟩
  have Na0e0 := Lib.hid (show w.heap.size ≠ ge0 from Nat.ne_of_lt (Nat.lt_of_lt_of_le Xa0.out.lt ee0))
  have Nb0e0 := Lib.hid (show w.heap.size + 1 ≠ ge0 from Nat.ne_of_lt (Nat.lt_of_lt_of_le Xb0.out.lt ee0))
  have Nc0e0 := Lib.hid (show w2.heap.size ≠ ge0 from Nat.ne_of_lt (Nat.lt_of_lt_of_le Xc0.out.lt ee0))
  have Nd0e0 := Lib.hid (show gd0 ≠ ge0 from Nat.ne_of_lt (Nat.lt_of_lt_of_le Xd0.out.lt ee0))
  have Ge0 := Lib.hid (show w.heap.size ≤ ge0 from Nat.le_trans HB.out.size ee0)
  clear ee0
  have Hm3 := Lib.hid (CR.keep Hm3.out (Keep.call hb))
  have Xa0 := Lib.hid (Box.pcall hb Xa0.out)
  have Xb0 := Lib.hid (Box.pcall hb Xb0.out)
  have Xc0 := Lib.hid (Box.pcall hb Xc0.out)
  have Xd0 := Lib.hid (Box.pcall hb Xd0.out)
  have HB := Lib.hid (below_call HB.out hb)
  have Hm4 := Lib.hid hm4
  clear hb hm4
  have Xe0 := Lib.hid xe0
  clear xe0
  obtain ⟨ca00, ca01, ca02, fa00, fa01, fa02⟩ := Xa0.out.c3
  have la0 := Xa0.out.lt
  obtain ⟨cb00, cb01, cb02, fb00, fb01, fb02⟩ := Xb0.out.c3
  have lb0 := Xb0.out.lt
  go_wp2_with fail
  clear ca00 ca01 ca02 fa00 fa01 fa02 la0 cb00 cb01 cb02 fb00 fb01 fb02 lb0
  refine Calls.mono (ms_nil) ?_
  rintro e w9 ⟨v9, rfl, rfl, hb⟩
  have Hm3 := Lib.hid (CR.keep Hm3.out (Keep.call hb))
  have Hm4 := Lib.hid (CR.keep Hm4.out (Keep.call hb))
  have Xa0 := Lib.hid (Box.pcall hb Xa0.out)
  have Xb0 := Lib.hid (Box.pcall hb Xb0.out)
  have Xc0 := Lib.hid (Box.pcall hb Xc0.out)
  have Xd0 := Lib.hid (Box.pcall hb Xd0.out)
  have Xe0 := Lib.hid (Box.pcall hb Xe0.out)
  have HB := Lib.hid (below_call HB.out hb)
  clear hb
  obtain ⟨ca00, ca01, ca02, fa00, fa01, fa02⟩ := Xa0.out.c3
  have la0 := Xa0.out.lt
  obtain ⟨cb00, cb01, cb02, fb00, fb01, fb02⟩ := Xb0.out.c3
  have lb0 := Xb0.out.lt
  go_wp2_with fail
  clear ca00 ca01 ca02 fa00 fa01 fa02 la0 cb00 cb01 cb02 fb00 fb01 fb02 lb0
  (first | (have hcall := ms_one Xd0.out Xe0.out Hm3.out Hm4.out; refine Calls.mono hcall ?_; clear hcall) | refine Calls.mono (ms_one Xd0.out Xe0.out Hm3.out Hm4.out) ?_)
  rintro e w10 ⟨v10, rfl, rfl, hb⟩
  have Xa0 := Lib.hid (Box.pcall hb Xa0.out)
  have Xb0 := Lib.hid (Box.pcall hb Xb0.out)
  have Xc0 := Lib.hid (Box.pcall hb Xc0.out)
  have Xd0 := Lib.hid (Box.pcall hb Xd0.out)
  have Xe0 := Lib.hid (Box.pcall hb Xe0.out)
  have HB := Lib.hid (below_call HB.out hb)
  clear hb
  obtain ⟨ca00, ca01, ca02, fa00, fa01, fa02⟩ := Xa0.out.c3
  have la0 := Xa0.out.lt
  obtain ⟨cb00, cb01, cb02, fb00, fb01, fb02⟩ := Xb0.out.c3
  have lb0 := Xb0.out.lt
  go_wp2
  clear ca00 ca01 ca02 fa00 fa01 fa02 la0 cb00 cb01 cb02 fb00 fb01 fb02 lb0
  go_ret
  exact ⟨_, rfl, rfl, HB.out⟩


set_option maxRecDepth 100000 in
set_option maxHeartbeats 4000000 in
theorem lmul_KE {x z : Int} {y : Int} {qa : Rat} {ba : Bool} {sa ta : Option Addr} {na ca ma ea : Nat} {qb : Rat} {bb : Bool} {sb tb : Option Addr} {nb cb mb eb : Nat}  {w : World} (hx0 : 0 ≤ x) (hy1 : 1 ≤ y) (hz1 : 1 ≤ z) (hu : unst qa qb = true) (hle : x < 0 ∨ y < 0 ∨ 1 < y) (hB8 : ([⟨ba, sa, na, ca, ta, ma, ea⟩, ⟨bb, sb, nb, cb, tb, mb, eb⟩] : List Rw).any Rw.big = false) (ha : AR qa 8 w (.agg #[.bool ba, .slice sa na ca, .slice ta ma ea])) (hb : AR qb 8 w (.agg #[.bool bb, .slice sb nb cb, .slice tb mb eb])) :
    Calls Try.prog 9 #[.int .i64 x, .int .i64 y, .int .i64 z, .agg #[.bool ba, .slice sa na ca, .slice ta ma ea], .agg #[.bool bb, .slice sb nb cb, .slice tb mb eb]] w (Ret w (Val (.bool true))) := by
  have Ha := Lib.hid ha
  have Hb := Lib.hid hb
  have HB8 := Lib.hid hB8
  have Hx0 := Lib.hid hx0
  have Hy1 := Lib.hid hy1
  have Hz1 := Lib.hid hz1
  have Hu := Lib.hid hu
  have Hle := Lib.hid hle
  clear ha hb hB8 hx0 hy1 hz1 hu hle
  go_enter Try.func9, Try.ntmps9
  have HB := Lib.hid (Below.refl w.heap.size w)
  go_wp2_with fail
  obtain ⟨W1, hW⟩ : ∃ W1, W1 = (World.alloc (World.alloc w (.cells #[.bool ba, .slice sa na ca, .slice ta ma ea] 25)) (.cells #[.bool bb, .slice sb nb cb, .slice tb mb eb] 25)) := ⟨_, rfl⟩
  rw [← hW]
  obtain ⟨xa0, xb0, hk, hb⟩ := boxes_2 _ _ _ _ _ hW
  clear hW
  have Ha := Lib.hid (AR.keep Ha.out hk)
  have Hb := Lib.hid (AR.keep Hb.out hk)
  have Ga0 := Lib.hid (show w.heap.size ≤ w.heap.size from Nat.le_trans HB.out.size (by omega))
  have Gb0 := Lib.hid (show w.heap.size ≤ w.heap.size + 1 from Nat.le_trans HB.out.size (by omega))
  have Xa0 := Lib.hid xa0
  have Xb0 := Lib.hid xb0
  have HB := Lib.hid (below_call HB.out hb)
  clear hk hb xa0 xb0
  refine Calls.mono (awake25) ?_
  rintro e w2 ⟨v2, rfl, rfl, hb⟩
  have Ha := Lib.hid (AR.keep Ha.out (Keep.call hb))
  have Hb := Lib.hid (AR.keep Hb.out (Keep.call hb))
  have Xa0 := Lib.hid (Box.pcall hb Xa0.out)
  have Xb0 := Lib.hid (Box.pcall hb Xb0.out)
  have HB := Lib.hid (below_call HB.out hb)
  clear hb
  obtain ⟨ca00, ca01, ca02, fa00, fa01, fa02⟩ := Xa0.out.c3
  have la0 := Xa0.out.lt
  obtain ⟨cb00, cb01, cb02, fb00, fb01, fb02⟩ := Xb0.out.c3
  have lb0 := Xb0.out.lt
  go_wp2_with fail
  clear ca00 ca01 ca02 fa00 fa01 fa02 la0 cb00 cb01 cb02 fb00 fb01 fb02 lb0
  obtain ⟨W3, hW⟩ : ∃ W3, W3 = (World.alloc w2 (.cells #[.bool ba, .slice sa na ca, .slice ta ma ea, .bool bb, .slice sb nb cb, .slice tb mb eb] 25)) := ⟨_, rfl⟩
  rw [← hW]
  obtain ⟨xc0, hk, hb⟩ := boxes_1 _ _ _ hW
  clear hW
  have Ha := Lib.hid (AR.keep Ha.out hk)
  have Hb := Lib.hid (AR.keep Hb.out hk)
  have Na0c0 := Lib.hid (show w.heap.size ≠ w2.heap.size from Nat.ne_of_lt (Nat.lt_of_lt_of_le Xa0.out.lt (by omega)))
  have Nb0c0 := Lib.hid (show w.heap.size + 1 ≠ w2.heap.size from Nat.ne_of_lt (Nat.lt_of_lt_of_le Xb0.out.lt (by omega)))
  have Gc0 := Lib.hid (show w.heap.size ≤ w2.heap.size from Nat.le_trans HB.out.size (by omega))
  have Xa0 := Lib.hid (Box.pcall hb Xa0.out)
  have Xb0 := Lib.hid (Box.pcall hb Xb0.out)
  have Xc0 := Lib.hid xc0
  have HB := Lib.hid (below_call HB.out hb)
  clear hk hb xc0
  refine Calls.mono (large2 Xc0.out HB8.out) ?_
  rintro e w4 ⟨v4, rfl, rfl, hb⟩
  have Ha := Lib.hid (AR.keep Ha.out (Keep.call hb))
  have Hb := Lib.hid (AR.keep Hb.out (Keep.call hb))
  have Xa0 := Lib.hid (Box.pcall hb Xa0.out)
  have Xb0 := Lib.hid (Box.pcall hb Xb0.out)
  have Xc0 := Lib.hid (Box.pcall hb Xc0.out)
  have HB := Lib.hid (below_call HB.out hb)
  clear hb
  obtain ⟨ca00, ca01, ca02, fa00, fa01, fa02⟩ := Xa0.out.c3
  have la0 := Xa0.out.lt
  obtain ⟨cb00, cb01, cb02, fb00, fb01, fb02⟩ := Xb0.out.c3
  have lb0 := Xb0.out.lt
  go_wp2_with fail
  clear ca00 ca01 ca02 fa00 fa01 fa02 la0 cb00 cb01 cb02 fb00 fb01 fb02 lb0
  (first | (have hcall := rlup_ar Hx0.out Hy1.out Hz1.out Hu.out Ha.out Hb.out (by decide); refine Calls.mono hcall ?_; clear hcall) | refine Calls.mono (rlup_ar Hx0.out Hy1.out Hz1.out Hu.out Ha.out Hb.out (by decide)) ?_)
  rintro e w5 ⟨t5, rfl, ⟨gd0, m1_b, m1_a, m1_n, m1_c, m1_d, m1_m, m1_e, rfl, ed0, xd0, hm1⟩, hb⟩
  have Na0d0 := Lib.hid (show w.heap.size ≠ gd0 from Nat.ne_of_lt (Nat.lt_of_lt_of_le Xa0.out.lt ed0))
  have Nb0d0 := Lib.hid (show w.heap.size + 1 ≠ gd0 from Nat.ne_of_lt (Nat.lt_of_lt_of_le Xb0.out.lt ed0))
  have Nc0d0 := Lib.hid (show w2.heap.size ≠ gd0 from Nat.ne_of_lt (Nat.lt_of_lt_of_le Xc0.out.lt ed0))
  have Gd0 := Lib.hid (show w.heap.size ≤ gd0 from Nat.le_trans HB.out.size ed0)
  clear ed0
  have Ha := Lib.hid (AR.keep Ha.out (Keep.call hb))
  have Hb := Lib.hid (AR.keep Hb.out (Keep.call hb))
  have Xa0 := Lib.hid (Box.pcall hb Xa0.out)
  have Xb0 := Lib.hid (Box.pcall hb Xb0.out)
  have Xc0 := Lib.hid (Box.pcall hb Xc0.out)
  have HB := Lib.hid (below_call HB.out hb)
  have Hm1 := Lib.hid hm1
  clear hb hm1
  have Xd0 := Lib.hid xd0
  clear xd0
  obtain ⟨ca00, ca01, ca02, fa00, fa01, fa02⟩ := Xa0.out.c3
  have la0 := Xa0.out.lt
  obtain ⟨cb00, cb01, cb02, fb00, fb01, fb02⟩ := Xb0.out.c3
  have lb0 := Xb0.out.lt
  go_wp2_with fail
  clear ca00 ca01 ca02 fa00 fa01 fa02 la0 cb00 cb01 cb02 fb00 fb01 fb02 lb0
  (first | (have hcall := zlup_ar Hx0.out Hy1.out Hz1.out Hu.out Ha.out Hb.out (by decide); refine Calls.mono hcall ?_; clear hcall) | refine Calls.mono (zlup_ar Hx0.out Hy1.out Hz1.out Hu.out Ha.out Hb.out (by decide)) ?_)
  rintro e w6 ⟨t6, rfl, ⟨ge0, m2_b, m2_a, m2_n, m2_c, m2_d, m2_m, m2_e, rfl, ee0, xe0, hm2⟩, hb⟩
  have Na0e0 := Lib.hid (show w.heap.size ≠ ge0 from Nat.ne_of_lt (Nat.lt_of_lt_of_le Xa0.out.lt ee0))
  have Nb0e0 := Lib.hid (show w.heap.size + 1 ≠ ge0 from Nat.ne_of_lt (Nat.lt_of_lt_of_le Xb0.out.lt ee0))
  have Nc0e0 := Lib.hid (show w2.heap.size ≠ ge0 from Nat.ne_of_lt (Nat.lt_of_lt_of_le Xc0.out.lt ee0))
  have Nd0e0 := Lib.hid (show gd0 ≠ ge0 from Nat.ne_of_lt (Nat.lt_of_lt_of_le Xd0.out.lt ee0))
  have Ge0 := Lib.hid (show w.heap.size ≤ ge0 from Nat.le_trans HB.out.size ee0)
  clear ee0
  have Hm1 := Lib.hid (CR.keep Hm1.out (Keep.call hb))
  have Xa0 := Lib.hid (Box.pcall hb Xa0.out)
  have Xb0 := Lib.hid (Box.pcall hb Xb0.out)
  have Xc0 := Lib.hid (Box.pcall hb Xc0.out)
  have Xd0 := Lib.hid (Box.pcall hb Xd0.out)
  have HB := Lib.hid (below_call HB.out hb)
  have Hm2 := Lib.hid hm2
  clear hb hm2
  have Xe0 := Lib.hid xe0
  clear xe0
  obtain ⟨ca00, ca01, ca02, fa00, fa01, fa02⟩ := Xa0.out.c3
  have la0 := Xa0.out.lt
  obtain ⟨cb00, cb01, cb02, fb00, fb01, fb02⟩ := Xb0.out.c3
  have lb0 := Xb0.out.lt
  go_wp2_with fail
  clear ca00 ca01 ca02 fa00 fa01 fa02 la0 cb00 cb01 cb02 fb00 fb01 fb02 lb0
  refine Calls.mono (rllow_err Hle.out) ?_
  rintro e w7 ⟨v7, rfl, rfl, hb⟩
  have Hm1 := Lib.hid (CR.keep Hm1.out (Keep.call hb))
  have Hm2 := Lib.hid (CR.keep Hm2.out (Keep.call hb))
  have Xa0 := Lib.hid (Box.pcall hb Xa0.out)
  have Xb0 := Lib.hid (Box.pcall hb Xb0.out)
  have Xc0 := Lib.hid (Box.pcall hb Xc0.out)
  have Xd0 := Lib.hid (Box.pcall hb Xd0.out)
  have Xe0 := Lib.hid (Box.pcall hb Xe0.out)
  have HB := Lib.hid (below_call HB.out hb)
  clear hb
  obtain ⟨ca00, ca01, ca02, fa00, fa01, fa02⟩ := Xa0.out.c3
  have la0 := Xa0.out.lt
  obtain ⟨cb00, cb01, cb02, fb00, fb01, fb02⟩ := Xb0.out.c3
  have lb0 := Xb0.out.lt
  go_wp2_with fail
  clear ca00 ca01 ca02 fa00 fa01 fa02 la0 cb00 cb01 cb02 fb00 fb01 fb02 lb0
  refine Calls.mono (zllow_err Hle.out) ?_
  rintro e w8 ⟨v8, rfl, rfl, hb⟩
  have Hm1 := Lib.hid (CR.keep Hm1.out (Keep.call hb))
  have Hm2 := Lib.hid (CR.keep Hm2.out (Keep.call hb))
  have Xa0 := Lib.hid (Box.pcall hb Xa0.out)
  have Xb0 := Lib.hid (Box.pcall hb Xb0.out)
  have Xc0 := Lib.hid (Box.pcall hb Xc0.out)
  have Xd0 := Lib.hid (Box.pcall hb Xd0.out)
  have Xe0 := Lib.hid (Box.pcall hb Xe0.out)
  have HB := Lib.hid (below_call HB.out hb)
  clear hb
  obtain ⟨ca00, ca01, ca02, fa00, fa01, fa02⟩ := Xa0.out.c3
  have la0 := Xa0.out.lt
  obtain ⟨cb00, cb01, cb02, fb00, fb01, fb02⟩ := Xb0.out.c3
  have lb0 := Xb0.out.lt
  go_wp2_with fail
  clear ca00 ca01 ca02 fa00 fa01 fa02 la0 cb00 cb01 cb02 fb00 fb01 fb02 lb0
  (first | (have hcall := ms_one Xd0.out Xe0.out Hm1.out Hm2.out; refine Calls.mono hcall ?_; clear hcall) | refine Calls.mono (ms_one Xd0.out Xe0.out Hm1.out Hm2.out) ?_)
  rintro e w9 ⟨v9, rfl, rfl, hb⟩
  have Xa0 := Lib.hid (Box.pcall hb Xa0.out)
  have Xb0 := Lib.hid (Box.pcall hb Xb0.out)
  have Xc0 := Lib.hid (Box.pcall hb Xc0.out)
  have Xd0 := Lib.hid (Box.pcall hb Xd0.out)
  have Xe0 := Lib.hid (Box.pcall hb Xe0.out)
  have HB := Lib.hid (below_call HB.out hb)
  clear hb
  obtain ⟨ca00, ca01, ca02, fa00, fa01, fa02⟩ := Xa0.out.c3
  have la0 := Xa0.out.lt
  obtain ⟨cb00, cb01, cb02, fb00, fb01, fb02⟩ := Xb0.out.c3
  have lb0 := Xb0.out.lt
  go_wp2_with fail
  clear ca00 ca01 ca02 fa00 fa01 fa02 la0 cb00 cb01 cb02 fb00 fb01 fb02 lb0
  refine Calls.mono (ms_nil) ?_
  rintro e w10 ⟨v10, rfl, rfl, hb⟩
  have Xa0 := Lib.hid (Box.pcall hb Xa0.out)
  have Xb0 := Lib.hid (Box.pcall hb Xb0.out)
  have Xc0 := Lib.hid (Box.pcall hb Xc0.out)
  have Xd0 := Lib.hid (Box.pcall hb Xd0.out)
  have Xe0 := Lib.hid (Box.pcall hb Xe0.out)
  have HB := Lib.hid (below_call HB.out hb)
  clear hb
  obtain ⟨ca00, ca01, ca02, fa00, fa01, fa02⟩ := Xa0.out.c3
  have la0 := Xa0.out.lt
  obtain ⟨cb00, cb01, cb02, fb00, fb01, fb02⟩ := Xb0.out.c3
  have lb0 := Xb0.out.lt
  go_wp2
  clear ca00 ca01 ca02 fa00 fa01 fa02 la0 cb00 cb01 cb02 fb00 fb01 fb02 lb0
  go_ret
  exact ⟨_, rfl, rfl, HB.out⟩


set_option maxRecDepth 100000 in
set_option maxHeartbeats 4000000 in
theorem lmul_K1 {x z : Int} {qa : Rat} {ba : Bool} {sa ta : Option Addr} {na ca ma ea : Nat} {qb : Rat} {bb : Bool} {sb tb : Option Addr} {nb cb mb eb : Nat}  {w : World} (hx0 : 0 ≤ x) (hy1 : 1 ≤ (1 : Int)) (hz1 : 1 ≤ z) (hu : unst qa qb = true) (hlx : decide (x < 0) = false) (hB8 : ([⟨ba, sa, na, ca, ta, ma, ea⟩, ⟨bb, sb, nb, cb, tb, mb, eb⟩] : List Rw).any Rw.big = false) (ha : AR qa 8 w (.agg #[.bool ba, .slice sa na ca, .slice ta ma ea])) (hb : AR qb 8 w (.agg #[.bool bb, .slice sb nb cb, .slice tb mb eb])) :
    Calls Try.prog 9 #[.int .i64 x, .int .i64 1, .int .i64 z, .agg #[.bool ba, .slice sa na ca, .slice ta ma ea], .agg #[.bool bb, .slice sb nb cb, .slice tb mb eb]] w (Ret w (Val (.bool true))) := by
  have Ha := Lib.hid ha
  have Hb := Lib.hid hb
  have HB8 := Lib.hid hB8
  have Hx0 := Lib.hid hx0
  have Hy1 := Lib.hid hy1
  have Hz1 := Lib.hid hz1
  have Hu := Lib.hid hu
  have Hlx := Lib.hid hlx
  clear ha hb hB8 hx0 hy1 hz1 hu hlx
  go_enter Try.func9, Try.ntmps9
  have HB := Lib.hid (Below.refl w.heap.size w)
  go_wp2_with fail
  obtain ⟨W1, hW⟩ : ∃ W1, W1 = (World.alloc (World.alloc w (.cells #[.bool ba, .slice sa na ca, .slice ta ma ea] 25)) (.cells #[.bool bb, .slice sb nb cb, .slice tb mb eb] 25)) := ⟨_, rfl⟩
  rw [← hW]
  obtain ⟨xa0, xb0, hk, hb⟩ := boxes_2 _ _ _ _ _ hW
  clear hW
  have Ha := Lib.hid (AR.keep Ha.out hk)
  have Hb := Lib.hid (AR.keep Hb.out hk)
  have Ga0 := Lib.hid (show w.heap.size ≤ w.heap.size from Nat.le_trans HB.out.size (by omega))
  have Gb0 := Lib.hid (show w.heap.size ≤ w.heap.size + 1 from Nat.le_trans HB.out.size (by omega))
  have Xa0 := Lib.hid xa0
  have Xb0 := Lib.hid xb0
  have HB := Lib.hid (below_call HB.out hb)
  clear hk hb xa0 xb0
  refine Calls.mono (awake25) ?_
  rintro e w2 ⟨v2, rfl, rfl, hb⟩
  have Ha := Lib.hid (AR.keep Ha.out (Keep.call hb))
  have Hb := Lib.hid (AR.keep Hb.out (Keep.call hb))
  have Xa0 := Lib.hid (Box.pcall hb Xa0.out)
  have Xb0 := Lib.hid (Box.pcall hb Xb0.out)
  have HB := Lib.hid (below_call HB.out hb)
  clear hb
  obtain ⟨ca00, ca01, ca02, fa00, fa01, fa02⟩ := Xa0.out.c3
  have la0 := Xa0.out.lt
  obtain ⟨cb00, cb01, cb02, fb00, fb01, fb02⟩ := Xb0.out.c3
  have lb0 := Xb0.out.lt
  go_wp2_with fail
  clear ca00 ca01 ca02 fa00 fa01 fa02 la0 cb00 cb01 cb02 fb00 fb01 fb02 lb0
  obtain ⟨W3, hW⟩ : ∃ W3, W3 = (World.alloc w2 (.cells #[.bool ba, .slice sa na ca, .slice ta ma ea, .bool bb, .slice sb nb cb, .slice tb mb eb] 25)) := ⟨_, rfl⟩
  rw [← hW]
  obtain ⟨xc0, hk, hb⟩ := boxes_1 _ _ _ hW
  clear hW
  have Ha := Lib.hid (AR.keep Ha.out hk)
  have Hb := Lib.hid (AR.keep Hb.out hk)
  have Na0c0 := Lib.hid (show w.heap.size ≠ w2.heap.size from Nat.ne_of_lt (Nat.lt_of_lt_of_le Xa0.out.lt (by omega)))
  have Nb0c0 := Lib.hid (show w.heap.size + 1 ≠ w2.heap.size from Nat.ne_of_lt (Nat.lt_of_lt_of_le Xb0.out.lt (by omega)))
  have Gc0 := Lib.hid (show w.heap.size ≤ w2.heap.size from Nat.le_trans HB.out.size (by omega))
  have Xa0 := Lib.hid (Box.pcall hb Xa0.out)
  have Xb0 := Lib.hid (Box.pcall hb Xb0.out)
  have Xc0 := Lib.hid xc0
  have HB := Lib.hid (below_call HB.out hb)
  clear hk hb xc0
  refine Calls.mono (large2 Xc0.out HB8.out) ?_
  rintro e w4 ⟨v4, rfl, rfl, hb⟩
  have Ha := Lib.hid (AR.keep Ha.out (Keep.call hb))
  have Hb := Lib.hid (AR.keep Hb.out (Keep.call hb))
  have Xa0 := Lib.hid (Box.pcall hb Xa0.out)
  have Xb0 := Lib.hid (Box.pcall hb Xb0.out)
  have Xc0 := Lib.hid (Box.pcall hb Xc0.out)
  have HB := Lib.hid (below_call HB.out hb)
  clear hb
  obtain ⟨ca00, ca01, ca02, fa00, fa01, fa02⟩ := Xa0.out.c3
  have la0 := Xa0.out.lt
  obtain ⟨cb00, cb01, cb02, fb00, fb01, fb02⟩ := Xb0.out.c3
  have lb0 := Xb0.out.lt
  go_wp2_with fail
  clear ca00 ca01 ca02 fa00 fa01 fa02 la0 cb00 cb01 cb02 fb00 fb01 fb02 lb0
  (first | (have hcall := rlup_ar Hx0.out Hy1.out Hz1.out Hu.out Ha.out Hb.out (by decide); refine Calls.mono hcall ?_; clear hcall) | refine Calls.mono (rlup_ar Hx0.out Hy1.out Hz1.out Hu.out Ha.out Hb.out (by decide)) ?_)
  rintro e w5 ⟨t5, rfl, ⟨gd0, m1_b, m1_a, m1_n, m1_c, m1_d, m1_m, m1_e, rfl, ed0, xd0, hm1⟩, hb⟩
  have Na0d0 := Lib.hid (show w.heap.size ≠ gd0 from Nat.ne_of_lt (Nat.lt_of_lt_of_le Xa0.out.lt ed0))
  have Nb0d0 := Lib.hid (show w.heap.size + 1 ≠ gd0 from Nat.ne_of_lt (Nat.lt_of_lt_of_le Xb0.out.lt ed0))
  have Nc0d0 := Lib.hid (show w2.heap.size ≠ gd0 from Nat.ne_of_lt (Nat.lt_of_lt_of_le Xc0.out.lt ed0))
  have Gd0 := Lib.hid (show w.heap.size ≤ gd0 from Nat.le_trans HB.out.size ed0)
  clear ed0
  have Ha := Lib.hid (AR.keep Ha.out (Keep.call hb))
  have Hb := Lib.hid (AR.keep Hb.out (Keep.call hb))
  have Xa0 := Lib.hid (Box.pcall hb Xa0.out)
  have Xb0 := Lib.hid (Box.pcall hb Xb0.out)
  have Xc0 := Lib.hid (Box.pcall hb Xc0.out)
  have HB := Lib.hid (below_call HB.out hb)
  have Hm1 := Lib.hid hm1
  clear hb hm1
  have Xd0 := Lib.hid xd0
  clear xd0
  obtain ⟨ca00, ca01, ca02, fa00, fa01, fa02⟩ := Xa0.out.c3
  have la0 := Xa0.out.lt
  obtain ⟨cb00, cb01, cb02, fb00, fb01, fb02⟩ := Xb0.out.c3
  have lb0 := Xb0.out.lt
  go_wp2_with fail
  clear ca00 ca01 ca02 fa00 fa01 fa02 la0 cb00 cb01 cb02 fb00 fb01 fb02 lb0
  (first | (have hcall := zlup_ar Hx0.out Hy1.out Hz1.out Hu.out Ha.out Hb.out (by decide); refine Calls.mono hcall ?_; clear hcall) | refine Calls.mono (zlup_ar Hx0.out Hy1.out Hz1.out Hu.out Ha.out Hb.out (by decide)) ?_)
  rintro e w6 ⟨t6, rfl, ⟨ge0, m2_b, m2_a, m2_n, m2_c, m2_d, m2_m, m2_e, rfl, ee0, xe0, hm2⟩, hb⟩
  have Na0e0 := Lib.hid (show w.heap.size ≠ ge0 from Nat.ne_of_lt (Nat.lt_of_lt_of_le Xa0.out.lt ee0))
  have Nb0e0 := Lib.hid (show w.heap.size + 1 ≠ ge0 from Nat.ne_of_lt (Nat.lt_of_lt_of_le Xb0.out.lt ee0))
  have Nc0e0 := Lib.hid (show w2.heap.size ≠ ge0 from Nat.ne_of_lt (Nat.lt_of_lt_of_le Xc0.out.lt ee0))
  have Nd0e0 := Lib.hid (show gd0 ≠ ge0 from Nat.ne_of_lt (Nat.lt_of_lt_of_le Xd0.out.lt ee0))
  have Ge0 := Lib.hid (show w.heap.size ≤ ge0 from Nat.le_trans HB.out.size ee0)
  clear ee0
  have Hm1 := Lib.hid (CR.keep Hm1.out (Keep.call hb))
  have Xa0 := Lib.hid (Box.pcall hb Xa0.out)
  have Xb0 := Lib.hid (Box.pcall hb Xb0.out)
  have Xc0 := Lib.hid (Box.pcall hb Xc0.out)
  have Xd0 := Lib.hid (Box.pcall hb Xd0.out)
  have HB := Lib.hid (below_call HB.out hb)
  have Hm2 := Lib.hid hm2
  clear hb hm2
  have Xe0 := Lib.hid xe0
  clear xe0
  obtain ⟨ca00, ca01, ca02, fa00, fa01, fa02⟩ := Xa0.out.c3
  have la0 := Xa0.out.lt
  obtain ⟨cb00, cb01, cb02, fb00, fb01, fb02⟩ := Xb0.out.c3
  have lb0 := Xb0.out.lt
  go_wp2_with fail
  clear ca00 ca01 ca02 fa00 fa01 fa02 la0 cb00 cb01 cb02 fb00 fb01 fb02 lb0
  refine Calls.mono (rllow_1 Hlx.out) ?_
  rintro e w7 ⟨t7, rfl, ⟨gf0, m3_b, m3_a, m3_n, m3_c, m3_d, m3_m, m3_e, rfl, ef0, xf0, hm3⟩, hb⟩
  have Na0f0 := Lib.hid (show w.heap.size ≠ gf0 from Nat.ne_of_lt (Nat.lt_of_lt_of_le Xa0.out.lt ef0))
  have Nb0f0 := Lib.hid (show w.heap.size + 1 ≠ gf0 from Nat.ne_of_lt (Nat.lt_of_lt_of_le Xb0.out.lt ef0))
  have Nc0f0 := Lib.hid (show w2.heap.size ≠ gf0 from Nat.ne_of_lt (Nat.lt_of_lt_of_le Xc0.out.lt ef0))
  have Nd0f0 := Lib.hid (show gd0 ≠ gf0 from Nat.ne_of_lt (Nat.lt_of_lt_of_le Xd0.out.lt ef0))
  have Ne0f0 := Lib.hid (show ge0 ≠ gf0 from Nat.ne_of_lt (Nat.lt_of_lt_of_le Xe0.out.lt ef0))
  have Gf0 := Lib.hid (show w.heap.size ≤ gf0 from Nat.le_trans HB.out.size ef0)
  clear ef0
  have Hm1 := Lib.hid (CR.keep Hm1.out (Keep.call hb))
  have Hm2 := Lib.hid (CR.keep Hm2.out (Keep.call hb))
  have Xa0 := Lib.hid (Box.pcall hb Xa0.out)
  have Xb0 := Lib.hid (Box.pcall hb Xb0.out)
  have Xc0 := Lib.hid (Box.pcall hb Xc0.out)
  have Xd0 := Lib.hid (Box.pcall hb Xd0.out)
  have Xe0 := Lib.hid (Box.pcall hb Xe0.out)
  have HB := Lib.hid (below_call HB.out hb)
  have Hm3 := Lib.hid hm3
  clear hb hm3
  have Xf0 := Lib.hid xf0
  clear xf0
  obtain ⟨ca00, ca01, ca02, fa00, fa01, fa02⟩ := Xa0.out.c3
  have la0 := Xa0.out.lt
  obtain ⟨cb00, cb01, cb02, fb00, fb01, fb02⟩ := Xb0.out.c3
  have lb0 := Xb0.out.lt
  go_wp2_with fail
  clear ca00 ca01 ca02 fa00 fa01 fa02 la0 cb00 cb01 cb02 fb00 fb01 fb02 lb0
  refine Calls.mono (zllow_1 Hlx.out) ?_
  rintro e w8 ⟨t8, rfl, ⟨gg0, m4_b, m4_a, m4_n, m4_c, m4_d, m4_m, m4_e, rfl, eg0, xg0, hm4⟩, hb⟩
  have Na0g0 := Lib.hid (show w.heap.size ≠ gg0 from Nat.ne_of_lt (Nat.lt_of_lt_of_le Xa0.out.lt eg0))
  have Nb0g0 := Lib.hid (show w.heap.size + 1 ≠ gg0 from Nat.ne_of_lt (Nat.lt_of_lt_of_le Xb0.out.lt eg0))
  have Nc0g0 := Lib.hid (show w2.heap.size ≠ gg0 from Nat.ne_of_lt (Nat.lt_of_lt_of_le Xc0.out.lt eg0))
  have Nd0g0 := Lib.hid (show gd0 ≠ gg0 from Nat.ne_of_lt (Nat.lt_of_lt_of_le Xd0.out.lt eg0))
  have Ne0g0 := Lib.hid (show ge0 ≠ gg0 from Nat.ne_of_lt (Nat.lt_of_lt_of_le Xe0.out.lt eg0))
  have Nf0g0 := Lib.hid (show gf0 ≠ gg0 from Nat.ne_of_lt (Nat.lt_of_lt_of_le Xf0.out.lt eg0))
  have Gg0 := Lib.hid (show w.heap.size ≤ gg0 from Nat.le_trans HB.out.size eg0)
  clear eg0
  have Hm1 := Lib.hid (CR.keep Hm1.out (Keep.call hb))
  have Hm2 := Lib.hid (CR.keep Hm2.out (Keep.call hb))
  have Hm3 := Lib.hid (CR.keep Hm3.out (Keep.call hb))
  have Xa0 := Lib.hid (Box.pcall hb Xa0.out)
  have Xb0 := Lib.hid (Box.pcall hb Xb0.out)
  have Xc0 := Lib.hid (Box.pcall hb Xc0.out)
  have Xd0 := Lib.hid (Box.pcall hb Xd0.out)
  have Xe0 := Lib.hid (Box.pcall hb Xe0.out)
  have Xf0 := Lib.hid (Box.pcall hb Xf0.out)
  have HB := Lib.hid (below_call HB.out hb)
  have Hm4 := Lib.hid hm4
  clear hb hm4
  have Xg0 := Lib.hid xg0
  clear xg0
  obtain ⟨ca00, ca01, ca02, fa00, fa01, fa02⟩ := Xa0.out.c3
  have la0 := Xa0.out.lt
  obtain ⟨cb00, cb01, cb02, fb00, fb01, fb02⟩ := Xb0.out.c3
  have lb0 := Xb0.out.lt
  go_wp2_with fail
  clear ca00 ca01 ca02 fa00 fa01 fa02 la0 cb00 cb01 cb02 fb00 fb01 fb02 lb0
  (first | (have hcall := ms_one Xd0.out Xe0.out Hm1.out Hm2.out; refine Calls.mono hcall ?_; clear hcall) | refine Calls.mono (ms_one Xd0.out Xe0.out Hm1.out Hm2.out) ?_)
  rintro e w9 ⟨v9, rfl, rfl, hb⟩
  have Hm3 := Lib.hid (CR.keep Hm3.out (Keep.call hb))
  have Hm4 := Lib.hid (CR.keep Hm4.out (Keep.call hb))
  have Xa0 := Lib.hid (Box.pcall hb Xa0.out)
  have Xb0 := Lib.hid (Box.pcall hb Xb0.out)
  have Xc0 := Lib.hid (Box.pcall hb Xc0.out)
  have Xd0 := Lib.hid (Box.pcall hb Xd0.out)
  have Xe0 := Lib.hid (Box.pcall hb Xe0.out)
  have Xf0 := Lib.hid (Box.pcall hb Xf0.out)
  have Xg0 := Lib.hid (Box.pcall hb Xg0.out)
  have HB := Lib.hid (below_call HB.out hb)
  clear hb
  obtain ⟨ca00, ca01, ca02, fa00, fa01, fa02⟩ := Xa0.out.c3
  have la0 := Xa0.out.lt
  obtain ⟨cb00, cb01, cb02, fb00, fb01, fb02⟩ := Xb0.out.c3
  have lb0 := Xb0.out.lt
  go_wp2_with fail
  clear ca00 ca01 ca02 fa00 fa01 fa02 la0 cb00 cb01 cb02 fb00 fb01 fb02 lb0
  (first | (have hcall := ms_one Xf0.out Xg0.out Hm3.out Hm4.out; refine Calls.mono hcall ?_; clear hcall) | refine Calls.mono (ms_one Xf0.out Xg0.out Hm3.out Hm4.out) ?_)
  rintro e w10 ⟨v10, rfl, rfl, hb⟩
  have Xa0 := Lib.hid (Box.pcall hb Xa0.out)
  have Xb0 := Lib.hid (Box.pcall hb Xb0.out)
  have Xc0 := Lib.hid (Box.pcall hb Xc0.out)
  have Xd0 := Lib.hid (Box.pcall hb Xd0.out)
  have Xe0 := Lib.hid (Box.pcall hb Xe0.out)
  have Xf0 := Lib.hid (Box.pcall hb Xf0.out)
  have Xg0 := Lib.hid (Box.pcall hb Xg0.out)
  have HB := Lib.hid (below_call HB.out hb)
  clear hb
  obtain ⟨ca00, ca01, ca02, fa00, fa01, fa02⟩ := Xa0.out.c3
  have la0 := Xa0.out.lt
  obtain ⟨cb00, cb01, cb02, fb00, fb01, fb02⟩ := Xb0.out.c3
  have lb0 := Xb0.out.lt
  go_wp2
  clear ca00 ca01 ca02 fa00 fa01 fa02 la0 cb00 cb01 cb02 fb00 fb01 fb02 lb0
  go_ret
  exact ⟨_, rfl, rfl, HB.out⟩


theorem RelaxMults_all (x y z : Int) (ba : Bool) (sa : Option Addr) (na ca : Nat) (ta : Option Addr) (ma ea : Nat) (bb : Bool) (sb : Option Addr) (nb cb : Nat) (tb : Option Addr) (mb eb : Nat) (w : World) (ra : Row w (.slice sa na ca) na) (ua : Row w (.slice ta ma ea) ma) (rb : Row w (.slice sb nb cb) nb) (ub : Row w (.slice tb mb eb) mb) :
    Calls Try.prog 9 #[.int .i64 x, .int .i64 y, .int .i64 z, .agg #[.bool ba, .slice sa na ca, .slice ta ma ea], .agg #[.bool bb, .slice sb nb cb, .slice tb mb eb]] w (Ret w (Val (.bool true))) := by
  cases hB : ([⟨ba, sa, na, ca, ta, ma, ea⟩, ⟨bb, sb, nb, cb, tb, mb, eb⟩] : List Rw).any Rw.big
  case true => exact lmul_big hB
  have hs : na ≤ 8 ∧ ma ≤ 8 ∧ nb ≤ 8 ∧ mb ≤ 8 := by
    simp [Rw.big] at hB
    omega
  obtain ⟨qa, ha⟩ := ra.ar (b := ba) ua 8 (by omega) (by omega) (by decide)
  obtain ⟨qb, hb⟩ := rb.ar (b := bb) ub 8 (by omega) (by omega) (by decide)
  by_cases hl : x < 0 ∨ y < 0 ∨ 1 < y
  · by_cases hu : x < 0 ∨ y < 1 ∨ z < 1
    · exact lmul_AE hu hl hB ha hb
    · cases h : unst qa qb
      · exact lmul_RE (by omega) (by omega) (by omega) h hl hB ha hb
      · exact lmul_KE (by omega) (by omega) (by omega) h hl hB ha hb
  · rcases (show y = 0 ∨ y = 1 by omega) with rfl | rfl
    · exact lmul_A0 (by omega) (decide_eq_false (by omega)) hB ha hb
    · by_cases hu : x < 0 ∨ (1 : Int) < 1 ∨ z < 1
      · exact lmul_A1 hu (decide_eq_false (by omega)) hB ha hb
      · cases h : unst qa qb
        · exact lmul_R1 (by omega) (by omega) (by omega) h (decide_eq_false (by omega)) hB ha hb
        · exact lmul_K1 (by omega) (by omega) (by omega) h (decide_eq_false (by omega)) hB ha hb

end Go.Proofs.Ytlpjgncaedffoaa
