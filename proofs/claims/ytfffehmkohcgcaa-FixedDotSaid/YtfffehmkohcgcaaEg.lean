/- Texts FixF, in this order. -/
import Derived.Test.YtfffehmkohcgcaaEe
import Derived.Test.YtfffehmkohcgcaaEf
namespace Go.Proofs.Ytfffehmkohcgcaa
open Go.RowKit Nt
set_option linter.unusedVariables false
theorem ret_none {fn : Func} {a : Act} {W : World} {Q : Ending → World → Prop} (hres : fn.results = #[]) (hd : a.defers = []) (h : Q (.returned (.tuple #[])) W) : bodyPost Try.prog fn Q .ret a W :=
  bodyPost_ret (by simp [results, hres]) hd h
theorem ret_noneN {fn : Func} {a : Act} {W : World} {Q : Ending → World → Prop} (hres : fn.results = #[]) (hd : a.defers = []) (h : Q (.returned (.tuple #[])) W) : bodyPost Try.prog fn Q .normal a W :=
  bodyPost_end (by simp [results, hres]) hd h

set_option maxRecDepth 100000 in
set_option maxHeartbeats 4000000 in
theorem sum_p {g : Nat} {T : TypeId} {x0 x1 x2 h l y0 y1 y2 c0 c1 c2 : Int}  {w : World} (hXa0 : Box w g T #[.int .u64 x0, .int .u64 x1, .int .u64 x2]) (he0 : ∀ w : World, (callFunc 44 #[.int .u64 x0, .int .u64 l, .int .u64 0]).run Try.prog w = .ok (.value (.tuple #[.int .u64 y0, .int .u64 c0])) w) (he1 : ∀ w : World, (callFunc 44 #[.int .u64 x1, .int .u64 h, .int .u64 c0]).run Try.prog w = .ok (.value (.tuple #[.int .u64 y1, .int .u64 c1])) w) (he2 : ∀ w : World, (callFunc 44 #[.int .u64 x2, .int .u64 0, .int .u64 c1]).run Try.prog w = .ok (.value (.tuple #[.int .u64 y2, .int .u64 c2])) w)  :
    Calls Try.prog 47 #[.pointer (some ⟨g, 0, none⟩), .int .u64 h, .int .u64 l, .bool false] w (fun e w' => e = .returned (.tuple #[]) ∧ Box w' g T #[.int .u64 y0, .int .u64 y1, .int .u64 y2] ∧ Wr g w w') := by
  have Xa0 := Lib.hid hXa0
  clear hXa0
  go_enter Try.func47, Try.ntmps47
  have HB := Lib.hid (Wr.refl g w)
  go_wp2_with fail
  have Xa0 := Lib.hid (Box.drew Xa0.out)
  have HB := Lib.hid (Wr.drew HB.out)
  refine wp_region_float [g] [] (by kernel_rfl) (by kernel_rfl) 84 (by kernel_rfl) Flok.nil ?_
  intro ok
  have Hok := Lib.hid ok
  clear ok
  have HG := Lib.hid (Below.refl (w.drew).heap.size (w.drew))
  refine good_pureX 0 (some 48) (Go.Op.move (Go.Operand.tmp 0)) (none) (.pointer (some ⟨g, 0, none⟩)) (by kernel_rfl) (by kernel_rfl) (by kernel_rfl) (fun _ _ _ h => h) (fun w' hw' => ?_) ?_
  · first | (go_simp; done) | (go_simp; simp_all; done) | (go_simp; rfl)
  simp only [Act.put, List.setIfInBounds_toArray, List.set_cons_zero, List.set_cons_succ]
  refine good_pureX 1 (some 49) (Go.Op.move (Go.Operand.tmp 0)) (none) (.pointer (some ⟨g, 0, none⟩)) (by kernel_rfl) (by kernel_rfl) (by kernel_rfl) (fun _ _ _ h => h) (fun w' hw' => ?_) ?_
  · first | (go_simp; done) | (go_simp; simp_all; done) | (go_simp; rfl)
  simp only [Act.put, List.setIfInBounds_toArray, List.set_cons_zero, List.set_cons_succ]
  refine good_pureX 2 (some 50) (Go.Op.nilCheck (Go.Operand.tmp 49)) (none) (.pointer (some ⟨g, 0, none⟩)) (by kernel_rfl) (by kernel_rfl) (by kernel_rfl) (fun _ _ _ h => h) (fun w' hw' => ?_) ?_
  · first | (go_simp; done) | (go_simp; simp_all; done) | (go_simp; rfl)
  simp only [Act.put, List.setIfInBounds_toArray, List.set_cons_zero, List.set_cons_succ]
  refine good_pureX 3 (some 51) (Go.Op.indexAddr 64 (Go.Operand.tmp 50) (Go.Operand.const (Go.Value.int Go.IntKind.i64 0))) (none) (.pointer (some ⟨g, 0, none⟩)) (by kernel_rfl) (by kernel_rfl) (by kernel_rfl) (fun _ _ _ h => h) (fun w' hw' => ?_) ?_
  · first | (go_simp; done) | (go_simp; simp_all; done) | (go_simp; rfl)
  simp only [Act.put, List.setIfInBounds_toArray, List.set_cons_zero, List.set_cons_succ]
  refine good_pureX 5 (some 53) (Go.Op.move (Go.Operand.tmp 2)) (none) (.int .u64 l) (by kernel_rfl) (by kernel_rfl) (by kernel_rfl) (fun _ _ _ h => h) (fun w' hw' => ?_) ?_
  · first | (go_simp; done) | (go_simp; simp_all; done) | (go_simp; rfl)
  simp only [Act.put, List.setIfInBounds_toArray, List.set_cons_zero, List.set_cons_succ]
  refine good_pureX 10 (some 57) (Go.Op.nilCheck (Go.Operand.tmp 48)) (none) (.pointer (some ⟨g, 0, none⟩)) (by kernel_rfl) (by kernel_rfl) (by kernel_rfl) (fun _ _ _ h => h) (fun w' hw' => ?_) ?_
  · first | (go_simp; done) | (go_simp; simp_all; done) | (go_simp; rfl)
  simp only [Act.put, List.setIfInBounds_toArray, List.set_cons_zero, List.set_cons_succ]
  refine good_end0 8 (by kernel_rfl) (fun _ w1 hb => ?_)
  have HG := Lib.hid (below_call HG.out hb)
  clear hb
  have Xa0 := Lib.hid (Box.pcall HG.out Xa0.out)
  have HB := Lib.hid (Wr.call HB.out HG.out)
  have HS := Lib.hid (SE.of (E := [g]) HG.out)
  refine held_oneV 4 (some 52) (Go.Op.load 56 (Go.Operand.tmp 51)) (none) (.int .u64 x0) (by kernel_rfl) (by kernel_rfl) (by kernel_rfl) (by kernel_rfl) ?_ HS.out ?_
  · obtain ⟨ca00, ca01, ca02, fa00, fa01, fa02⟩ := Xa0.out.c3
    first | (go_simp; done) | (go_simp; simp_all; done) | (go_simp; rfl)
  simp only [Act.put, List.setIfInBounds_toArray, List.set_cons_zero, List.set_cons_succ]
  refine held_extX 6 44 (some 54) #[Go.Operand.tmp 52, Go.Operand.tmp 53, Go.Operand.const (Go.Value.int Go.IntKind.u64 0)] #[56, 56, 56] (none) #[.int .u64 x0, .int .u64 l, .int .u64 0] (.tuple #[.int .u64 y0, .int .u64 c0]) (by kernel_rfl) (by kernel_rfl) (by kernel_rfl) (fun _ _ _ h => h) (by kernel_rfl) (fun w1 => ?_) HS.out ?_
  · simp_all
  simp only [Act.put, List.setIfInBounds_toArray, List.set_cons_zero, List.set_cons_succ]
  refine held_pureX 7 (some 47) (Go.Op.move (Go.Operand.tmp 54)) (none) (.tuple #[.int .u64 y0, .int .u64 c0]) (by kernel_rfl) (by kernel_rfl) (by kernel_rfl) (fun _ _ _ h => h) (fun w' => by first | (go_simp; done) | (go_simp; simp_all; done) | (go_simp; rfl)) HS.out ?_
  simp only [Act.put, List.setIfInBounds_toArray, List.set_cons_zero, List.set_cons_succ]
  refine held_pureX 8 (some 55) (Go.Op.extract (Go.Operand.tmp 47) 0) (none) (.int .u64 y0) (by kernel_rfl) (by kernel_rfl) (by kernel_rfl) (fun _ _ _ h => h) (fun w' => by first | (go_simp; done) | (go_simp; simp_all; done) | (go_simp; rfl)) HS.out ?_
  simp only [Act.put, List.setIfInBounds_toArray, List.set_cons_zero, List.set_cons_succ]
  refine held_pureX 9 (some 56) (Go.Op.extract (Go.Operand.tmp 47) 1) (none) (.int .u64 c0) (by kernel_rfl) (by kernel_rfl) (by kernel_rfl) (fun _ _ _ h => h) (fun w' => by first | (go_simp; done) | (go_simp; simp_all; done) | (go_simp; rfl)) HS.out ?_
  simp only [Act.put, List.setIfInBounds_toArray, List.set_cons_zero, List.set_cons_succ]
  refine held_pureX 11 (some 58) (Go.Op.indexAddr 64 (Go.Operand.tmp 57) (Go.Operand.const (Go.Value.int Go.IntKind.i64 0))) (none) (.pointer (some ⟨g, 0, none⟩)) (by kernel_rfl) (by kernel_rfl) (by kernel_rfl) (fun _ _ _ h => h) (fun w' => by first | (go_simp; done) | (go_simp; simp_all; done) | (go_simp; rfl)) HS.out ?_
  simp only [Act.put, List.setIfInBounds_toArray, List.set_cons_zero, List.set_cons_succ]
  refine held_oneX 12 (Go.Op.store 56 (Go.Operand.tmp 58) (Go.Operand.tmp 55)) (none) (World.setCell w1 ⟨g, 0, none⟩ (.int .u64 y0)) (by kernel_rfl) (by kernel_rfl) (by kernel_rfl) (by kernel_rfl) ?_ (HS.out.store in1) ?_
  · obtain ⟨ca00, ca01, ca02, fa00, fa01, fa02⟩ := Xa0.out.c3
    first | (go_simp; done) | (go_simp; simp_all; done) | (go_simp; rfl)
  obtain ⟨W2, hW⟩ : ∃ W2, W2 = (World.setCell w1 ⟨g, 0, none⟩ (.int .u64 y0)) := ⟨_, rfl⟩
  rw [← hW]
  obtain ⟨xa0, hk, hf, hbb, hz⟩ := suw3_0 hW Xa0.out 
  have Xa0 := Lib.hid xa0
  have HB := Lib.hid (hbb _ HB.out trivial)
  have HS := Lib.hid (show SE (w.drew) [g] W2 from by rw [hW]; exact HS.out.store in1)
  clear hW hk hf hbb xa0
  clear hz
  refine held_pureX 13 (some 8) (Go.Op.assign (Go.Operand.tmp 56)) (none) (.int .u64 c0) (by kernel_rfl) (by kernel_rfl) (by kernel_rfl) (fun _ _ _ h => h) (fun w' => by first | (go_simp; done) | (go_simp; simp_all; done) | (go_simp; rfl)) HS.out ?_
  simp only [Act.put, List.setIfInBounds_toArray, List.set_cons_zero, List.set_cons_succ]
  refine wpAnyH_done (by kernel_rfl) ?_ _
  clear HG HS Hok 
  obtain ⟨ca00, ca01, ca02, fa00, fa01, fa02⟩ := Xa0.out.c3
  have la0 := Xa0.out.lt
  go_wp2_with fail
  clear ca00 ca01 ca02 fa00 fa01 fa02 la0
  have Xa0 := Lib.hid (Box.drew Xa0.out)
  have HB := Lib.hid (Wr.drew HB.out)
  refine wp_region_float [g] [] (by kernel_rfl) (by kernel_rfl) 84 (by kernel_rfl) Flok.nil ?_
  intro ok
  have Hok := Lib.hid ok
  clear ok
  have HG := Lib.hid (Below.refl (W2.drew).heap.size (W2.drew))
  refine good_pureX 0 (some 60) (Go.Op.move (Go.Operand.tmp 0)) (none) (.pointer (some ⟨g, 0, none⟩)) (by kernel_rfl) (by kernel_rfl) (by kernel_rfl) (fun _ _ _ h => h) (fun w' hw' => ?_) ?_
  · first | (go_simp; done) | (go_simp; simp_all; done) | (go_simp; rfl)
  simp only [Act.put, List.setIfInBounds_toArray, List.set_cons_zero, List.set_cons_succ]
  refine good_pureX 1 (some 61) (Go.Op.move (Go.Operand.tmp 0)) (none) (.pointer (some ⟨g, 0, none⟩)) (by kernel_rfl) (by kernel_rfl) (by kernel_rfl) (fun _ _ _ h => h) (fun w' hw' => ?_) ?_
  · first | (go_simp; done) | (go_simp; simp_all; done) | (go_simp; rfl)
  simp only [Act.put, List.setIfInBounds_toArray, List.set_cons_zero, List.set_cons_succ]
  refine good_pureX 2 (some 62) (Go.Op.nilCheck (Go.Operand.tmp 61)) (none) (.pointer (some ⟨g, 0, none⟩)) (by kernel_rfl) (by kernel_rfl) (by kernel_rfl) (fun _ _ _ h => h) (fun w' hw' => ?_) ?_
  · first | (go_simp; done) | (go_simp; simp_all; done) | (go_simp; rfl)
  simp only [Act.put, List.setIfInBounds_toArray, List.set_cons_zero, List.set_cons_succ]
  refine good_pureX 3 (some 63) (Go.Op.indexAddr 64 (Go.Operand.tmp 62) (Go.Operand.const (Go.Value.int Go.IntKind.i64 1))) (none) (.pointer (some ⟨g, 1, none⟩)) (by kernel_rfl) (by kernel_rfl) (by kernel_rfl) (fun _ _ _ h => h) (fun w' hw' => ?_) ?_
  · first | (go_simp; done) | (go_simp; simp_all; done) | (go_simp; rfl)
  simp only [Act.put, List.setIfInBounds_toArray, List.set_cons_zero, List.set_cons_succ]
  refine good_pureX 5 (some 65) (Go.Op.move (Go.Operand.tmp 1)) (none) (.int .u64 h) (by kernel_rfl) (by kernel_rfl) (by kernel_rfl) (fun _ _ _ h => h) (fun w' hw' => ?_) ?_
  · first | (go_simp; done) | (go_simp; simp_all; done) | (go_simp; rfl)
  simp only [Act.put, List.setIfInBounds_toArray, List.set_cons_zero, List.set_cons_succ]
  refine good_pureX 6 (some 66) (Go.Op.move (Go.Operand.tmp 8)) (none) (.int .u64 c0) (by kernel_rfl) (by kernel_rfl) (by kernel_rfl) (fun _ _ _ h => h) (fun w' hw' => ?_) ?_
  · first | (go_simp; done) | (go_simp; simp_all; done) | (go_simp; rfl)
  simp only [Act.put, List.setIfInBounds_toArray, List.set_cons_zero, List.set_cons_succ]
  refine good_pureX 11 (some 70) (Go.Op.nilCheck (Go.Operand.tmp 60)) (none) (.pointer (some ⟨g, 0, none⟩)) (by kernel_rfl) (by kernel_rfl) (by kernel_rfl) (fun _ _ _ h => h) (fun w' hw' => ?_) ?_
  · first | (go_simp; done) | (go_simp; simp_all; done) | (go_simp; rfl)
  simp only [Act.put, List.setIfInBounds_toArray, List.set_cons_zero, List.set_cons_succ]
  refine good_end0 8 (by kernel_rfl) (fun _ w3 hb => ?_)
  have HG := Lib.hid (below_call HG.out hb)
  clear hb
  have Xa0 := Lib.hid (Box.pcall HG.out Xa0.out)
  have HB := Lib.hid (Wr.call HB.out HG.out)
  have HS := Lib.hid (SE.of (E := [g]) HG.out)
  refine held_oneV 4 (some 64) (Go.Op.load 56 (Go.Operand.tmp 63)) (none) (.int .u64 x1) (by kernel_rfl) (by kernel_rfl) (by kernel_rfl) (by kernel_rfl) ?_ HS.out ?_
  · obtain ⟨ca00, ca01, ca02, fa00, fa01, fa02⟩ := Xa0.out.c3
    first | (go_simp; done) | (go_simp; simp_all; done) | (go_simp; rfl)
  simp only [Act.put, List.setIfInBounds_toArray, List.set_cons_zero, List.set_cons_succ]
  refine held_extX 7 44 (some 67) #[Go.Operand.tmp 64, Go.Operand.tmp 65, Go.Operand.tmp 66] #[56, 56, 56] (none) #[.int .u64 x1, .int .u64 h, .int .u64 c0] (.tuple #[.int .u64 y1, .int .u64 c1]) (by kernel_rfl) (by kernel_rfl) (by kernel_rfl) (fun _ _ _ h => h) (by kernel_rfl) (fun w1 => ?_) HS.out ?_
  · simp_all
  simp only [Act.put, List.setIfInBounds_toArray, List.set_cons_zero, List.set_cons_succ]
  refine held_pureX 8 (some 59) (Go.Op.move (Go.Operand.tmp 67)) (none) (.tuple #[.int .u64 y1, .int .u64 c1]) (by kernel_rfl) (by kernel_rfl) (by kernel_rfl) (fun _ _ _ h => h) (fun w' => by first | (go_simp; done) | (go_simp; simp_all; done) | (go_simp; rfl)) HS.out ?_
  simp only [Act.put, List.setIfInBounds_toArray, List.set_cons_zero, List.set_cons_succ]
  refine held_pureX 9 (some 68) (Go.Op.extract (Go.Operand.tmp 59) 0) (none) (.int .u64 y1) (by kernel_rfl) (by kernel_rfl) (by kernel_rfl) (fun _ _ _ h => h) (fun w' => by first | (go_simp; done) | (go_simp; simp_all; done) | (go_simp; rfl)) HS.out ?_
  simp only [Act.put, List.setIfInBounds_toArray, List.set_cons_zero, List.set_cons_succ]
  refine held_pureX 10 (some 69) (Go.Op.extract (Go.Operand.tmp 59) 1) (none) (.int .u64 c1) (by kernel_rfl) (by kernel_rfl) (by kernel_rfl) (fun _ _ _ h => h) (fun w' => by first | (go_simp; done) | (go_simp; simp_all; done) | (go_simp; rfl)) HS.out ?_
  simp only [Act.put, List.setIfInBounds_toArray, List.set_cons_zero, List.set_cons_succ]
  refine held_pureX 12 (some 71) (Go.Op.indexAddr 64 (Go.Operand.tmp 70) (Go.Operand.const (Go.Value.int Go.IntKind.i64 1))) (none) (.pointer (some ⟨g, 1, none⟩)) (by kernel_rfl) (by kernel_rfl) (by kernel_rfl) (fun _ _ _ h => h) (fun w' => by first | (go_simp; done) | (go_simp; simp_all; done) | (go_simp; rfl)) HS.out ?_
  simp only [Act.put, List.setIfInBounds_toArray, List.set_cons_zero, List.set_cons_succ]
  refine held_oneX 13 (Go.Op.store 56 (Go.Operand.tmp 71) (Go.Operand.tmp 68)) (none) (World.setCell w3 ⟨g, 1, none⟩ (.int .u64 y1)) (by kernel_rfl) (by kernel_rfl) (by kernel_rfl) (by kernel_rfl) ?_ (HS.out.store in1) ?_
  · obtain ⟨ca00, ca01, ca02, fa00, fa01, fa02⟩ := Xa0.out.c3
    first | (go_simp; done) | (go_simp; simp_all; done) | (go_simp; rfl)
  obtain ⟨W4, hW⟩ : ∃ W4, W4 = (World.setCell w3 ⟨g, 1, none⟩ (.int .u64 y1)) := ⟨_, rfl⟩
  rw [← hW]
  obtain ⟨xa0, hk, hf, hbb, hz⟩ := suw3_1 hW Xa0.out 
  have Xa0 := Lib.hid xa0
  have HB := Lib.hid (hbb _ HB.out trivial)
  have HS := Lib.hid (show SE (W2.drew) [g] W4 from by rw [hW]; exact HS.out.store in1)
  clear hW hk hf hbb xa0
  clear hz
  refine held_pureX 14 (some 8) (Go.Op.assign (Go.Operand.tmp 69)) (none) (.int .u64 c1) (by kernel_rfl) (by kernel_rfl) (by kernel_rfl) (fun _ _ _ h => h) (fun w' => by first | (go_simp; done) | (go_simp; simp_all; done) | (go_simp; rfl)) HS.out ?_
  simp only [Act.put, List.setIfInBounds_toArray, List.set_cons_zero, List.set_cons_succ]
  refine wpAnyH_done (by kernel_rfl) ?_ _
  clear HG HS Hok 
  obtain ⟨ca00, ca01, ca02, fa00, fa01, fa02⟩ := Xa0.out.c3
  have la0 := Xa0.out.lt
  go_wp2_with fail
  clear ca00 ca01 ca02 fa00 fa01 fa02 la0
  have Xa0 := Lib.hid (Box.drew Xa0.out)
  have HB := Lib.hid (Wr.drew HB.out)
  refine wp_region_float [g] [] (by kernel_rfl) (by kernel_rfl) 84 (by kernel_rfl) Flok.nil ?_
  intro ok
  have Hok := Lib.hid ok
  clear ok
  have HG := Lib.hid (Below.refl (W4.drew).heap.size (W4.drew))
  refine good_pureX 0 (some 73) (Go.Op.move (Go.Operand.tmp 0)) (none) (.pointer (some ⟨g, 0, none⟩)) (by kernel_rfl) (by kernel_rfl) (by kernel_rfl) (fun _ _ _ h => h) (fun w' hw' => ?_) ?_
  · first | (go_simp; done) | (go_simp; simp_all; done) | (go_simp; rfl)
  simp only [Act.put, List.setIfInBounds_toArray, List.set_cons_zero, List.set_cons_succ]
  refine good_pureX 1 (some 74) (Go.Op.move (Go.Operand.tmp 0)) (none) (.pointer (some ⟨g, 0, none⟩)) (by kernel_rfl) (by kernel_rfl) (by kernel_rfl) (fun _ _ _ h => h) (fun w' hw' => ?_) ?_
  · first | (go_simp; done) | (go_simp; simp_all; done) | (go_simp; rfl)
  simp only [Act.put, List.setIfInBounds_toArray, List.set_cons_zero, List.set_cons_succ]
  refine good_pureX 2 (some 75) (Go.Op.nilCheck (Go.Operand.tmp 74)) (none) (.pointer (some ⟨g, 0, none⟩)) (by kernel_rfl) (by kernel_rfl) (by kernel_rfl) (fun _ _ _ h => h) (fun w' hw' => ?_) ?_
  · first | (go_simp; done) | (go_simp; simp_all; done) | (go_simp; rfl)
  simp only [Act.put, List.setIfInBounds_toArray, List.set_cons_zero, List.set_cons_succ]
  refine good_pureX 3 (some 76) (Go.Op.indexAddr 64 (Go.Operand.tmp 75) (Go.Operand.const (Go.Value.int Go.IntKind.i64 2))) (none) (.pointer (some ⟨g, 2, none⟩)) (by kernel_rfl) (by kernel_rfl) (by kernel_rfl) (fun _ _ _ h => h) (fun w' hw' => ?_) ?_
  · first | (go_simp; done) | (go_simp; simp_all; done) | (go_simp; rfl)
  simp only [Act.put, List.setIfInBounds_toArray, List.set_cons_zero, List.set_cons_succ]
  refine good_pureX 5 (some 78) (Go.Op.move (Go.Operand.tmp 8)) (none) (.int .u64 c1) (by kernel_rfl) (by kernel_rfl) (by kernel_rfl) (fun _ _ _ h => h) (fun w' hw' => ?_) ?_
  · first | (go_simp; done) | (go_simp; simp_all; done) | (go_simp; rfl)
  simp only [Act.put, List.setIfInBounds_toArray, List.set_cons_zero, List.set_cons_succ]
  refine good_pureX 10 (some 82) (Go.Op.nilCheck (Go.Operand.tmp 73)) (none) (.pointer (some ⟨g, 0, none⟩)) (by kernel_rfl) (by kernel_rfl) (by kernel_rfl) (fun _ _ _ h => h) (fun w' hw' => ?_) ?_
  · first | (go_simp; done) | (go_simp; simp_all; done) | (go_simp; rfl)
  simp only [Act.put, List.setIfInBounds_toArray, List.set_cons_zero, List.set_cons_succ]
  refine good_end0 7 (by kernel_rfl) (fun _ w5 hb => ?_)
  have HG := Lib.hid (below_call HG.out hb)
  clear hb
  have Xa0 := Lib.hid (Box.pcall HG.out Xa0.out)
  have HB := Lib.hid (Wr.call HB.out HG.out)
  have HS := Lib.hid (SE.of (E := [g]) HG.out)
  refine held_oneV 4 (some 77) (Go.Op.load 56 (Go.Operand.tmp 76)) (none) (.int .u64 x2) (by kernel_rfl) (by kernel_rfl) (by kernel_rfl) (by kernel_rfl) ?_ HS.out ?_
  · obtain ⟨ca00, ca01, ca02, fa00, fa01, fa02⟩ := Xa0.out.c3
    first | (go_simp; done) | (go_simp; simp_all; done) | (go_simp; rfl)
  simp only [Act.put, List.setIfInBounds_toArray, List.set_cons_zero, List.set_cons_succ]
  refine held_extX 6 44 (some 79) #[Go.Operand.tmp 77, Go.Operand.const (Go.Value.int Go.IntKind.u64 0), Go.Operand.tmp 78] #[56, 56, 56] (none) #[.int .u64 x2, .int .u64 0, .int .u64 c1] (.tuple #[.int .u64 y2, .int .u64 c2]) (by kernel_rfl) (by kernel_rfl) (by kernel_rfl) (fun _ _ _ h => h) (by kernel_rfl) (fun w1 => ?_) HS.out ?_
  · simp_all
  simp only [Act.put, List.setIfInBounds_toArray, List.set_cons_zero, List.set_cons_succ]
  refine held_pureX 7 (some 72) (Go.Op.move (Go.Operand.tmp 79)) (none) (.tuple #[.int .u64 y2, .int .u64 c2]) (by kernel_rfl) (by kernel_rfl) (by kernel_rfl) (fun _ _ _ h => h) (fun w' => by first | (go_simp; done) | (go_simp; simp_all; done) | (go_simp; rfl)) HS.out ?_
  simp only [Act.put, List.setIfInBounds_toArray, List.set_cons_zero, List.set_cons_succ]
  refine held_pureX 8 (some 80) (Go.Op.extract (Go.Operand.tmp 72) 0) (none) (.int .u64 y2) (by kernel_rfl) (by kernel_rfl) (by kernel_rfl) (fun _ _ _ h => h) (fun w' => by first | (go_simp; done) | (go_simp; simp_all; done) | (go_simp; rfl)) HS.out ?_
  simp only [Act.put, List.setIfInBounds_toArray, List.set_cons_zero, List.set_cons_succ]
  refine held_pureX 9 (some 81) (Go.Op.extract (Go.Operand.tmp 72) 1) (none) (.int .u64 c2) (by kernel_rfl) (by kernel_rfl) (by kernel_rfl) (fun _ _ _ h => h) (fun w' => by first | (go_simp; done) | (go_simp; simp_all; done) | (go_simp; rfl)) HS.out ?_
  simp only [Act.put, List.setIfInBounds_toArray, List.set_cons_zero, List.set_cons_succ]
  refine held_pureX 11 (some 83) (Go.Op.indexAddr 64 (Go.Operand.tmp 82) (Go.Operand.const (Go.Value.int Go.IntKind.i64 2))) (none) (.pointer (some ⟨g, 2, none⟩)) (by kernel_rfl) (by kernel_rfl) (by kernel_rfl) (fun _ _ _ h => h) (fun w' => by first | (go_simp; done) | (go_simp; simp_all; done) | (go_simp; rfl)) HS.out ?_
  simp only [Act.put, List.setIfInBounds_toArray, List.set_cons_zero, List.set_cons_succ]
  refine held_oneX 12 (Go.Op.store 56 (Go.Operand.tmp 83) (Go.Operand.tmp 80)) (none) (World.setCell w5 ⟨g, 2, none⟩ (.int .u64 y2)) (by kernel_rfl) (by kernel_rfl) (by kernel_rfl) (by kernel_rfl) ?_ (HS.out.store in1) ?_
  · obtain ⟨ca00, ca01, ca02, fa00, fa01, fa02⟩ := Xa0.out.c3
    first | (go_simp; done) | (go_simp; simp_all; done) | (go_simp; rfl)
  obtain ⟨W6, hW⟩ : ∃ W6, W6 = (World.setCell w5 ⟨g, 2, none⟩ (.int .u64 y2)) := ⟨_, rfl⟩
  rw [← hW]
  obtain ⟨xa0, hk, hf, hbb, hz⟩ := suw3_2 hW Xa0.out 
  have Xa0 := Lib.hid xa0
  have HB := Lib.hid (hbb _ HB.out trivial)
  have HS := Lib.hid (show SE (W4.drew) [g] W6 from by rw [hW]; exact HS.out.store in1)
  clear hW hk hf hbb xa0
  clear hz
  refine wpAnyH_done (by kernel_rfl) ?_ _
  clear HG HS Hok 
  obtain ⟨ca00, ca01, ca02, fa00, fa01, fa02⟩ := Xa0.out.c3
  have la0 := Xa0.out.lt
  go_wp2
  clear ca00 ca01 ca02 fa00 fa01 fa02 la0
  first | exact ret_none rfl rfl ⟨rfl, Xa0.out, HB.out⟩ | exact ret_noneN rfl rfl ⟨rfl, Xa0.out, HB.out⟩


set_option maxRecDepth 100000 in
set_option maxHeartbeats 4000000 in
theorem sum_n {g : Nat} {T : TypeId} {x0 x1 x2 h l y0 y1 y2 c0 c1 c2 : Int}  {w : World} (hXa0 : Box w g T #[.int .u64 x0, .int .u64 x1, .int .u64 x2]) (he0 : ∀ w : World, (callFunc 71 #[.int .u64 x0, .int .u64 l, .int .u64 0]).run Try.prog w = .ok (.value (.tuple #[.int .u64 y0, .int .u64 c0])) w) (he1 : ∀ w : World, (callFunc 71 #[.int .u64 x1, .int .u64 h, .int .u64 c0]).run Try.prog w = .ok (.value (.tuple #[.int .u64 y1, .int .u64 c1])) w) (he2 : ∀ w : World, (callFunc 71 #[.int .u64 x2, .int .u64 0, .int .u64 c1]).run Try.prog w = .ok (.value (.tuple #[.int .u64 y2, .int .u64 c2])) w)  :
    Calls Try.prog 47 #[.pointer (some ⟨g, 0, none⟩), .int .u64 h, .int .u64 l, .bool true] w (fun e w' => e = .returned (.tuple #[]) ∧ Box w' g T #[.int .u64 y0, .int .u64 y1, .int .u64 y2] ∧ Wr g w w') := by
  have Xa0 := Lib.hid hXa0
  clear hXa0
  go_enter Try.func47, Try.ntmps47
  have HB := Lib.hid (Wr.refl g w)
  go_wp2_with fail
  have Xa0 := Lib.hid (Box.drew Xa0.out)
  have HB := Lib.hid (Wr.drew HB.out)
  refine wp_region_float [g] [] (by kernel_rfl) (by kernel_rfl) 84 (by kernel_rfl) Flok.nil ?_
  intro ok
  have Hok := Lib.hid ok
  clear ok
  have HG := Lib.hid (Below.refl (w.drew).heap.size (w.drew))
  refine good_pureX 0 (some 11) (Go.Op.move (Go.Operand.tmp 0)) (none) (.pointer (some ⟨g, 0, none⟩)) (by kernel_rfl) (by kernel_rfl) (by kernel_rfl) (fun _ _ _ h => h) (fun w' hw' => ?_) ?_
  · first | (go_simp; done) | (go_simp; simp_all; done) | (go_simp; rfl)
  simp only [Act.put, List.setIfInBounds_toArray, List.set_cons_zero, List.set_cons_succ]
  refine good_pureX 1 (some 12) (Go.Op.move (Go.Operand.tmp 0)) (none) (.pointer (some ⟨g, 0, none⟩)) (by kernel_rfl) (by kernel_rfl) (by kernel_rfl) (fun _ _ _ h => h) (fun w' hw' => ?_) ?_
  · first | (go_simp; done) | (go_simp; simp_all; done) | (go_simp; rfl)
  simp only [Act.put, List.setIfInBounds_toArray, List.set_cons_zero, List.set_cons_succ]
  refine good_pureX 2 (some 13) (Go.Op.nilCheck (Go.Operand.tmp 12)) (none) (.pointer (some ⟨g, 0, none⟩)) (by kernel_rfl) (by kernel_rfl) (by kernel_rfl) (fun _ _ _ h => h) (fun w' hw' => ?_) ?_
  · first | (go_simp; done) | (go_simp; simp_all; done) | (go_simp; rfl)
  simp only [Act.put, List.setIfInBounds_toArray, List.set_cons_zero, List.set_cons_succ]
  refine good_pureX 3 (some 14) (Go.Op.indexAddr 64 (Go.Operand.tmp 13) (Go.Operand.const (Go.Value.int Go.IntKind.i64 0))) (none) (.pointer (some ⟨g, 0, none⟩)) (by kernel_rfl) (by kernel_rfl) (by kernel_rfl) (fun _ _ _ h => h) (fun w' hw' => ?_) ?_
  · first | (go_simp; done) | (go_simp; simp_all; done) | (go_simp; rfl)
  simp only [Act.put, List.setIfInBounds_toArray, List.set_cons_zero, List.set_cons_succ]
  refine good_pureX 5 (some 16) (Go.Op.move (Go.Operand.tmp 2)) (none) (.int .u64 l) (by kernel_rfl) (by kernel_rfl) (by kernel_rfl) (fun _ _ _ h => h) (fun w' hw' => ?_) ?_
  · first | (go_simp; done) | (go_simp; simp_all; done) | (go_simp; rfl)
  simp only [Act.put, List.setIfInBounds_toArray, List.set_cons_zero, List.set_cons_succ]
  refine good_pureX 10 (some 20) (Go.Op.nilCheck (Go.Operand.tmp 11)) (none) (.pointer (some ⟨g, 0, none⟩)) (by kernel_rfl) (by kernel_rfl) (by kernel_rfl) (fun _ _ _ h => h) (fun w' hw' => ?_) ?_
  · first | (go_simp; done) | (go_simp; simp_all; done) | (go_simp; rfl)
  simp only [Act.put, List.setIfInBounds_toArray, List.set_cons_zero, List.set_cons_succ]
  refine good_end0 8 (by kernel_rfl) (fun _ w1 hb => ?_)
  have HG := Lib.hid (below_call HG.out hb)
  clear hb
  have Xa0 := Lib.hid (Box.pcall HG.out Xa0.out)
  have HB := Lib.hid (Wr.call HB.out HG.out)
  have HS := Lib.hid (SE.of (E := [g]) HG.out)
  refine held_oneV 4 (some 15) (Go.Op.load 56 (Go.Operand.tmp 14)) (none) (.int .u64 x0) (by kernel_rfl) (by kernel_rfl) (by kernel_rfl) (by kernel_rfl) ?_ HS.out ?_
  · obtain ⟨ca00, ca01, ca02, fa00, fa01, fa02⟩ := Xa0.out.c3
    first | (go_simp; done) | (go_simp; simp_all; done) | (go_simp; rfl)
  simp only [Act.put, List.setIfInBounds_toArray, List.set_cons_zero, List.set_cons_succ]
  refine held_extX 6 71 (some 17) #[Go.Operand.tmp 15, Go.Operand.tmp 16, Go.Operand.const (Go.Value.int Go.IntKind.u64 0)] #[56, 56, 56] (none) #[.int .u64 x0, .int .u64 l, .int .u64 0] (.tuple #[.int .u64 y0, .int .u64 c0]) (by kernel_rfl) (by kernel_rfl) (by kernel_rfl) (fun _ _ _ h => h) (by kernel_rfl) (fun w1 => ?_) HS.out ?_
  · simp_all
  simp only [Act.put, List.setIfInBounds_toArray, List.set_cons_zero, List.set_cons_succ]
  refine held_pureX 7 (some 10) (Go.Op.move (Go.Operand.tmp 17)) (none) (.tuple #[.int .u64 y0, .int .u64 c0]) (by kernel_rfl) (by kernel_rfl) (by kernel_rfl) (fun _ _ _ h => h) (fun w' => by first | (go_simp; done) | (go_simp; simp_all; done) | (go_simp; rfl)) HS.out ?_
  simp only [Act.put, List.setIfInBounds_toArray, List.set_cons_zero, List.set_cons_succ]
  refine held_pureX 8 (some 18) (Go.Op.extract (Go.Operand.tmp 10) 0) (none) (.int .u64 y0) (by kernel_rfl) (by kernel_rfl) (by kernel_rfl) (fun _ _ _ h => h) (fun w' => by first | (go_simp; done) | (go_simp; simp_all; done) | (go_simp; rfl)) HS.out ?_
  simp only [Act.put, List.setIfInBounds_toArray, List.set_cons_zero, List.set_cons_succ]
  refine held_pureX 9 (some 19) (Go.Op.extract (Go.Operand.tmp 10) 1) (none) (.int .u64 c0) (by kernel_rfl) (by kernel_rfl) (by kernel_rfl) (fun _ _ _ h => h) (fun w' => by first | (go_simp; done) | (go_simp; simp_all; done) | (go_simp; rfl)) HS.out ?_
  simp only [Act.put, List.setIfInBounds_toArray, List.set_cons_zero, List.set_cons_succ]
  refine held_pureX 11 (some 21) (Go.Op.indexAddr 64 (Go.Operand.tmp 20) (Go.Operand.const (Go.Value.int Go.IntKind.i64 0))) (none) (.pointer (some ⟨g, 0, none⟩)) (by kernel_rfl) (by kernel_rfl) (by kernel_rfl) (fun _ _ _ h => h) (fun w' => by first | (go_simp; done) | (go_simp; simp_all; done) | (go_simp; rfl)) HS.out ?_
  simp only [Act.put, List.setIfInBounds_toArray, List.set_cons_zero, List.set_cons_succ]
  refine held_oneX 12 (Go.Op.store 56 (Go.Operand.tmp 21) (Go.Operand.tmp 18)) (none) (World.setCell w1 ⟨g, 0, none⟩ (.int .u64 y0)) (by kernel_rfl) (by kernel_rfl) (by kernel_rfl) (by kernel_rfl) ?_ (HS.out.store in1) ?_
  · obtain ⟨ca00, ca01, ca02, fa00, fa01, fa02⟩ := Xa0.out.c3
    first | (go_simp; done) | (go_simp; simp_all; done) | (go_simp; rfl)
  obtain ⟨W2, hW⟩ : ∃ W2, W2 = (World.setCell w1 ⟨g, 0, none⟩ (.int .u64 y0)) := ⟨_, rfl⟩
  rw [← hW]
  obtain ⟨xa0, hk, hf, hbb, hz⟩ := suw3_0 hW Xa0.out 
  have Xa0 := Lib.hid xa0
  have HB := Lib.hid (hbb _ HB.out trivial)
  have HS := Lib.hid (show SE (w.drew) [g] W2 from by rw [hW]; exact HS.out.store in1)
  clear hW hk hf hbb xa0
  clear hz
  refine held_pureX 13 (some 8) (Go.Op.assign (Go.Operand.tmp 19)) (none) (.int .u64 c0) (by kernel_rfl) (by kernel_rfl) (by kernel_rfl) (fun _ _ _ h => h) (fun w' => by first | (go_simp; done) | (go_simp; simp_all; done) | (go_simp; rfl)) HS.out ?_
  simp only [Act.put, List.setIfInBounds_toArray, List.set_cons_zero, List.set_cons_succ]
  refine wpAnyH_done (by kernel_rfl) ?_ _
  clear HG HS Hok 
  obtain ⟨ca00, ca01, ca02, fa00, fa01, fa02⟩ := Xa0.out.c3
  have la0 := Xa0.out.lt
  go_wp2_with fail
  clear ca00 ca01 ca02 fa00 fa01 fa02 la0
  have Xa0 := Lib.hid (Box.drew Xa0.out)
  have HB := Lib.hid (Wr.drew HB.out)
  refine wp_region_float [g] [] (by kernel_rfl) (by kernel_rfl) 84 (by kernel_rfl) Flok.nil ?_
  intro ok
  have Hok := Lib.hid ok
  clear ok
  have HG := Lib.hid (Below.refl (W2.drew).heap.size (W2.drew))
  refine good_pureX 0 (some 23) (Go.Op.move (Go.Operand.tmp 0)) (none) (.pointer (some ⟨g, 0, none⟩)) (by kernel_rfl) (by kernel_rfl) (by kernel_rfl) (fun _ _ _ h => h) (fun w' hw' => ?_) ?_
  · first | (go_simp; done) | (go_simp; simp_all; done) | (go_simp; rfl)
  simp only [Act.put, List.setIfInBounds_toArray, List.set_cons_zero, List.set_cons_succ]
  refine good_pureX 1 (some 24) (Go.Op.move (Go.Operand.tmp 0)) (none) (.pointer (some ⟨g, 0, none⟩)) (by kernel_rfl) (by kernel_rfl) (by kernel_rfl) (fun _ _ _ h => h) (fun w' hw' => ?_) ?_
  · first | (go_simp; done) | (go_simp; simp_all; done) | (go_simp; rfl)
  simp only [Act.put, List.setIfInBounds_toArray, List.set_cons_zero, List.set_cons_succ]
  refine good_pureX 2 (some 25) (Go.Op.nilCheck (Go.Operand.tmp 24)) (none) (.pointer (some ⟨g, 0, none⟩)) (by kernel_rfl) (by kernel_rfl) (by kernel_rfl) (fun _ _ _ h => h) (fun w' hw' => ?_) ?_
  · first | (go_simp; done) | (go_simp; simp_all; done) | (go_simp; rfl)
  simp only [Act.put, List.setIfInBounds_toArray, List.set_cons_zero, List.set_cons_succ]
  refine good_pureX 3 (some 26) (Go.Op.indexAddr 64 (Go.Operand.tmp 25) (Go.Operand.const (Go.Value.int Go.IntKind.i64 1))) (none) (.pointer (some ⟨g, 1, none⟩)) (by kernel_rfl) (by kernel_rfl) (by kernel_rfl) (fun _ _ _ h => h) (fun w' hw' => ?_) ?_
  · first | (go_simp; done) | (go_simp; simp_all; done) | (go_simp; rfl)
  simp only [Act.put, List.setIfInBounds_toArray, List.set_cons_zero, List.set_cons_succ]
  refine good_pureX 5 (some 28) (Go.Op.move (Go.Operand.tmp 1)) (none) (.int .u64 h) (by kernel_rfl) (by kernel_rfl) (by kernel_rfl) (fun _ _ _ h => h) (fun w' hw' => ?_) ?_
  · first | (go_simp; done) | (go_simp; simp_all; done) | (go_simp; rfl)
  simp only [Act.put, List.setIfInBounds_toArray, List.set_cons_zero, List.set_cons_succ]
  refine good_pureX 6 (some 29) (Go.Op.move (Go.Operand.tmp 8)) (none) (.int .u64 c0) (by kernel_rfl) (by kernel_rfl) (by kernel_rfl) (fun _ _ _ h => h) (fun w' hw' => ?_) ?_
  · first | (go_simp; done) | (go_simp; simp_all; done) | (go_simp; rfl)
  simp only [Act.put, List.setIfInBounds_toArray, List.set_cons_zero, List.set_cons_succ]
  refine good_pureX 11 (some 33) (Go.Op.nilCheck (Go.Operand.tmp 23)) (none) (.pointer (some ⟨g, 0, none⟩)) (by kernel_rfl) (by kernel_rfl) (by kernel_rfl) (fun _ _ _ h => h) (fun w' hw' => ?_) ?_
  · first | (go_simp; done) | (go_simp; simp_all; done) | (go_simp; rfl)
  simp only [Act.put, List.setIfInBounds_toArray, List.set_cons_zero, List.set_cons_succ]
  refine good_end0 8 (by kernel_rfl) (fun _ w3 hb => ?_)
  have HG := Lib.hid (below_call HG.out hb)
  clear hb
  have Xa0 := Lib.hid (Box.pcall HG.out Xa0.out)
  have HB := Lib.hid (Wr.call HB.out HG.out)
  have HS := Lib.hid (SE.of (E := [g]) HG.out)
  refine held_oneV 4 (some 27) (Go.Op.load 56 (Go.Operand.tmp 26)) (none) (.int .u64 x1) (by kernel_rfl) (by kernel_rfl) (by kernel_rfl) (by kernel_rfl) ?_ HS.out ?_
  · obtain ⟨ca00, ca01, ca02, fa00, fa01, fa02⟩ := Xa0.out.c3
    first | (go_simp; done) | (go_simp; simp_all; done) | (go_simp; rfl)
  simp only [Act.put, List.setIfInBounds_toArray, List.set_cons_zero, List.set_cons_succ]
  refine held_extX 7 71 (some 30) #[Go.Operand.tmp 27, Go.Operand.tmp 28, Go.Operand.tmp 29] #[56, 56, 56] (none) #[.int .u64 x1, .int .u64 h, .int .u64 c0] (.tuple #[.int .u64 y1, .int .u64 c1]) (by kernel_rfl) (by kernel_rfl) (by kernel_rfl) (fun _ _ _ h => h) (by kernel_rfl) (fun w1 => ?_) HS.out ?_
  · simp_all
  simp only [Act.put, List.setIfInBounds_toArray, List.set_cons_zero, List.set_cons_succ]
  refine held_pureX 8 (some 22) (Go.Op.move (Go.Operand.tmp 30)) (none) (.tuple #[.int .u64 y1, .int .u64 c1]) (by kernel_rfl) (by kernel_rfl) (by kernel_rfl) (fun _ _ _ h => h) (fun w' => by first | (go_simp; done) | (go_simp; simp_all; done) | (go_simp; rfl)) HS.out ?_
  simp only [Act.put, List.setIfInBounds_toArray, List.set_cons_zero, List.set_cons_succ]
  refine held_pureX 9 (some 31) (Go.Op.extract (Go.Operand.tmp 22) 0) (none) (.int .u64 y1) (by kernel_rfl) (by kernel_rfl) (by kernel_rfl) (fun _ _ _ h => h) (fun w' => by first | (go_simp; done) | (go_simp; simp_all; done) | (go_simp; rfl)) HS.out ?_
  simp only [Act.put, List.setIfInBounds_toArray, List.set_cons_zero, List.set_cons_succ]
  refine held_pureX 10 (some 32) (Go.Op.extract (Go.Operand.tmp 22) 1) (none) (.int .u64 c1) (by kernel_rfl) (by kernel_rfl) (by kernel_rfl) (fun _ _ _ h => h) (fun w' => by first | (go_simp; done) | (go_simp; simp_all; done) | (go_simp; rfl)) HS.out ?_
  simp only [Act.put, List.setIfInBounds_toArray, List.set_cons_zero, List.set_cons_succ]
  refine held_pureX 12 (some 34) (Go.Op.indexAddr 64 (Go.Operand.tmp 33) (Go.Operand.const (Go.Value.int Go.IntKind.i64 1))) (none) (.pointer (some ⟨g, 1, none⟩)) (by kernel_rfl) (by kernel_rfl) (by kernel_rfl) (fun _ _ _ h => h) (fun w' => by first | (go_simp; done) | (go_simp; simp_all; done) | (go_simp; rfl)) HS.out ?_
  simp only [Act.put, List.setIfInBounds_toArray, List.set_cons_zero, List.set_cons_succ]
  refine held_oneX 13 (Go.Op.store 56 (Go.Operand.tmp 34) (Go.Operand.tmp 31)) (none) (World.setCell w3 ⟨g, 1, none⟩ (.int .u64 y1)) (by kernel_rfl) (by kernel_rfl) (by kernel_rfl) (by kernel_rfl) ?_ (HS.out.store in1) ?_
  · obtain ⟨ca00, ca01, ca02, fa00, fa01, fa02⟩ := Xa0.out.c3
    first | (go_simp; done) | (go_simp; simp_all; done) | (go_simp; rfl)
  obtain ⟨W4, hW⟩ : ∃ W4, W4 = (World.setCell w3 ⟨g, 1, none⟩ (.int .u64 y1)) := ⟨_, rfl⟩
  rw [← hW]
  obtain ⟨xa0, hk, hf, hbb, hz⟩ := suw3_1 hW Xa0.out 
  have Xa0 := Lib.hid xa0
  have HB := Lib.hid (hbb _ HB.out trivial)
  have HS := Lib.hid (show SE (W2.drew) [g] W4 from by rw [hW]; exact HS.out.store in1)
  clear hW hk hf hbb xa0
  clear hz
  refine held_pureX 14 (some 8) (Go.Op.assign (Go.Operand.tmp 32)) (none) (.int .u64 c1) (by kernel_rfl) (by kernel_rfl) (by kernel_rfl) (fun _ _ _ h => h) (fun w' => by first | (go_simp; done) | (go_simp; simp_all; done) | (go_simp; rfl)) HS.out ?_
  simp only [Act.put, List.setIfInBounds_toArray, List.set_cons_zero, List.set_cons_succ]
  refine wpAnyH_done (by kernel_rfl) ?_ _
  clear HG HS Hok 
  obtain ⟨ca00, ca01, ca02, fa00, fa01, fa02⟩ := Xa0.out.c3
  have la0 := Xa0.out.lt
  go_wp2_with fail
  clear ca00 ca01 ca02 fa00 fa01 fa02 la0
  have Xa0 := Lib.hid (Box.drew Xa0.out)
  have HB := Lib.hid (Wr.drew HB.out)
  refine wp_region_float [g] [] (by kernel_rfl) (by kernel_rfl) 84 (by kernel_rfl) Flok.nil ?_
  intro ok
  have Hok := Lib.hid ok
  clear ok
  have HG := Lib.hid (Below.refl (W4.drew).heap.size (W4.drew))
  refine good_pureX 0 (some 36) (Go.Op.move (Go.Operand.tmp 0)) (none) (.pointer (some ⟨g, 0, none⟩)) (by kernel_rfl) (by kernel_rfl) (by kernel_rfl) (fun _ _ _ h => h) (fun w' hw' => ?_) ?_
  · first | (go_simp; done) | (go_simp; simp_all; done) | (go_simp; rfl)
  simp only [Act.put, List.setIfInBounds_toArray, List.set_cons_zero, List.set_cons_succ]
  refine good_pureX 1 (some 37) (Go.Op.move (Go.Operand.tmp 0)) (none) (.pointer (some ⟨g, 0, none⟩)) (by kernel_rfl) (by kernel_rfl) (by kernel_rfl) (fun _ _ _ h => h) (fun w' hw' => ?_) ?_
  · first | (go_simp; done) | (go_simp; simp_all; done) | (go_simp; rfl)
  simp only [Act.put, List.setIfInBounds_toArray, List.set_cons_zero, List.set_cons_succ]
  refine good_pureX 2 (some 38) (Go.Op.nilCheck (Go.Operand.tmp 37)) (none) (.pointer (some ⟨g, 0, none⟩)) (by kernel_rfl) (by kernel_rfl) (by kernel_rfl) (fun _ _ _ h => h) (fun w' hw' => ?_) ?_
  · first | (go_simp; done) | (go_simp; simp_all; done) | (go_simp; rfl)
  simp only [Act.put, List.setIfInBounds_toArray, List.set_cons_zero, List.set_cons_succ]
  refine good_pureX 3 (some 39) (Go.Op.indexAddr 64 (Go.Operand.tmp 38) (Go.Operand.const (Go.Value.int Go.IntKind.i64 2))) (none) (.pointer (some ⟨g, 2, none⟩)) (by kernel_rfl) (by kernel_rfl) (by kernel_rfl) (fun _ _ _ h => h) (fun w' hw' => ?_) ?_
  · first | (go_simp; done) | (go_simp; simp_all; done) | (go_simp; rfl)
  simp only [Act.put, List.setIfInBounds_toArray, List.set_cons_zero, List.set_cons_succ]
  refine good_pureX 5 (some 41) (Go.Op.move (Go.Operand.tmp 8)) (none) (.int .u64 c1) (by kernel_rfl) (by kernel_rfl) (by kernel_rfl) (fun _ _ _ h => h) (fun w' hw' => ?_) ?_
  · first | (go_simp; done) | (go_simp; simp_all; done) | (go_simp; rfl)
  simp only [Act.put, List.setIfInBounds_toArray, List.set_cons_zero, List.set_cons_succ]
  refine good_pureX 10 (some 45) (Go.Op.nilCheck (Go.Operand.tmp 36)) (none) (.pointer (some ⟨g, 0, none⟩)) (by kernel_rfl) (by kernel_rfl) (by kernel_rfl) (fun _ _ _ h => h) (fun w' hw' => ?_) ?_
  · first | (go_simp; done) | (go_simp; simp_all; done) | (go_simp; rfl)
  simp only [Act.put, List.setIfInBounds_toArray, List.set_cons_zero, List.set_cons_succ]
  refine good_end0 7 (by kernel_rfl) (fun _ w5 hb => ?_)
  have HG := Lib.hid (below_call HG.out hb)
  clear hb
  have Xa0 := Lib.hid (Box.pcall HG.out Xa0.out)
  have HB := Lib.hid (Wr.call HB.out HG.out)
  have HS := Lib.hid (SE.of (E := [g]) HG.out)
  refine held_oneV 4 (some 40) (Go.Op.load 56 (Go.Operand.tmp 39)) (none) (.int .u64 x2) (by kernel_rfl) (by kernel_rfl) (by kernel_rfl) (by kernel_rfl) ?_ HS.out ?_
  · obtain ⟨ca00, ca01, ca02, fa00, fa01, fa02⟩ := Xa0.out.c3
    first | (go_simp; done) | (go_simp; simp_all; done) | (go_simp; rfl)
  simp only [Act.put, List.setIfInBounds_toArray, List.set_cons_zero, List.set_cons_succ]
  refine held_extX 6 71 (some 42) #[Go.Operand.tmp 40, Go.Operand.const (Go.Value.int Go.IntKind.u64 0), Go.Operand.tmp 41] #[56, 56, 56] (none) #[.int .u64 x2, .int .u64 0, .int .u64 c1] (.tuple #[.int .u64 y2, .int .u64 c2]) (by kernel_rfl) (by kernel_rfl) (by kernel_rfl) (fun _ _ _ h => h) (by kernel_rfl) (fun w1 => ?_) HS.out ?_
  · simp_all
  simp only [Act.put, List.setIfInBounds_toArray, List.set_cons_zero, List.set_cons_succ]
  refine held_pureX 7 (some 35) (Go.Op.move (Go.Operand.tmp 42)) (none) (.tuple #[.int .u64 y2, .int .u64 c2]) (by kernel_rfl) (by kernel_rfl) (by kernel_rfl) (fun _ _ _ h => h) (fun w' => by first | (go_simp; done) | (go_simp; simp_all; done) | (go_simp; rfl)) HS.out ?_
  simp only [Act.put, List.setIfInBounds_toArray, List.set_cons_zero, List.set_cons_succ]
  refine held_pureX 8 (some 43) (Go.Op.extract (Go.Operand.tmp 35) 0) (none) (.int .u64 y2) (by kernel_rfl) (by kernel_rfl) (by kernel_rfl) (fun _ _ _ h => h) (fun w' => by first | (go_simp; done) | (go_simp; simp_all; done) | (go_simp; rfl)) HS.out ?_
  simp only [Act.put, List.setIfInBounds_toArray, List.set_cons_zero, List.set_cons_succ]
  refine held_pureX 9 (some 44) (Go.Op.extract (Go.Operand.tmp 35) 1) (none) (.int .u64 c2) (by kernel_rfl) (by kernel_rfl) (by kernel_rfl) (fun _ _ _ h => h) (fun w' => by first | (go_simp; done) | (go_simp; simp_all; done) | (go_simp; rfl)) HS.out ?_
  simp only [Act.put, List.setIfInBounds_toArray, List.set_cons_zero, List.set_cons_succ]
  refine held_pureX 11 (some 46) (Go.Op.indexAddr 64 (Go.Operand.tmp 45) (Go.Operand.const (Go.Value.int Go.IntKind.i64 2))) (none) (.pointer (some ⟨g, 2, none⟩)) (by kernel_rfl) (by kernel_rfl) (by kernel_rfl) (fun _ _ _ h => h) (fun w' => by first | (go_simp; done) | (go_simp; simp_all; done) | (go_simp; rfl)) HS.out ?_
  simp only [Act.put, List.setIfInBounds_toArray, List.set_cons_zero, List.set_cons_succ]
  refine held_oneX 12 (Go.Op.store 56 (Go.Operand.tmp 46) (Go.Operand.tmp 43)) (none) (World.setCell w5 ⟨g, 2, none⟩ (.int .u64 y2)) (by kernel_rfl) (by kernel_rfl) (by kernel_rfl) (by kernel_rfl) ?_ (HS.out.store in1) ?_
  · obtain ⟨ca00, ca01, ca02, fa00, fa01, fa02⟩ := Xa0.out.c3
    first | (go_simp; done) | (go_simp; simp_all; done) | (go_simp; rfl)
  obtain ⟨W6, hW⟩ : ∃ W6, W6 = (World.setCell w5 ⟨g, 2, none⟩ (.int .u64 y2)) := ⟨_, rfl⟩
  rw [← hW]
  obtain ⟨xa0, hk, hf, hbb, hz⟩ := suw3_2 hW Xa0.out 
  have Xa0 := Lib.hid xa0
  have HB := Lib.hid (hbb _ HB.out trivial)
  have HS := Lib.hid (show SE (W4.drew) [g] W6 from by rw [hW]; exact HS.out.store in1)
  clear hW hk hf hbb xa0
  clear hz
  refine wpAnyH_done (by kernel_rfl) ?_ _
  clear HG HS Hok 
  obtain ⟨ca00, ca01, ca02, fa00, fa01, fa02⟩ := Xa0.out.c3
  have la0 := Xa0.out.lt
  go_wp2
  clear ca00 ca01 ca02 fa00 fa01 fa02 la0
  first | exact ret_none rfl rfl ⟨rfl, Xa0.out, HB.out⟩ | exact ret_noneN rfl rfl ⟨rfl, Xa0.out, HB.out⟩


def V3 (x0 x1 x2 : Nat) : Nat := x0 + x1 * 18446744073709551616 + x2 * 340282366920938463463374607431768211456
abbrev B1 : Nat := 18446744073709551616
abbrev B3 : Int := 6277101735386680763835789423207666416102355444464034512896
theorem add_words {x0 x1 x2 h l : Nat} (a0 : x0 < 18446744073709551616) (a1 : x1 < 18446744073709551616) (a2 : x2 < 18446744073709551616) (a3 : h < 18446744073709551616) (a4 : l < 18446744073709551616) {c0 c1 : Nat} (e0 : c0 = (x0 + l + 0) / 18446744073709551616) (e1 : c1 = (x1 + h + c0) / 18446744073709551616) :
    ∃ k : Int, (V3 x0 x1 x2 : Int) + ((l : Int) + h * 18446744073709551616) = (V3 ((x0 + l + 0) % 18446744073709551616) ((x1 + h + c0) % 18446744073709551616) ((x2 + 0 + c1) % 18446744073709551616) : Int) + k * B3 := by
  refine ⟨(((x2 + 0 + c1) / 18446744073709551616 : Nat) : Int), ?_⟩
  unfold V3 B3
  omega
theorem sub_words {x0 x1 x2 h l : Nat} (a0 : x0 < 18446744073709551616) (a1 : x1 < 18446744073709551616) (a2 : x2 < 18446744073709551616) (a3 : h < 18446744073709551616) (a4 : l < 18446744073709551616) {c0 c1 : Nat} (e0 : c0 = if x0 < l + 0 then 1 else 0) (e1 : c1 = if x1 < h + c0 then 1 else 0) :
    ∃ k : Int, (V3 x0 x1 x2 : Int) - ((l : Int) + h * 18446744073709551616) = (V3 ((x0 + 18446744073709551616 - l - 0) % 18446744073709551616) ((x1 + 18446744073709551616 - h - c0) % 18446744073709551616) ((x2 + 18446744073709551616 - 0 - c1) % 18446744073709551616) : Int) + k * B3 := by
  refine ⟨if x2 < 0 + c1 then -1 else 0, ?_⟩
  unfold V3 B3
  split at e0 <;> split at e1 <;> split <;> omega
def U3 (x0 x1 x2 : Nat) : Array Value := #[.int .u64 (x0 : Int), .int .u64 (x1 : Int), .int .u64 (x2 : Int)]
/-- What add leaves. -/
def Sum3 (g : Nat) (T : TypeId) (z : Int) (w' : World) : Prop := ∃ y0 y1 y2 : Nat, y0 < 18446744073709551616 ∧ y1 < 18446744073709551616 ∧ y2 < 18446744073709551616 ∧ Box w' g T (U3 y0 y1 y2) ∧ ∃ k : Int, z = (V3 y0 y1 y2 : Int) + k * B3
theorem ite_le1 (p : Prop) [Decidable p] : (if p then 1 else 0 : Nat) ≤ 1 := by split <;> decide
theorem sum_any {g : Nat} {T : TypeId} {x0 x1 x2 h l : Nat} {neg : Bool} {w : World} (X : Box w g T (U3 x0 x1 x2)) (a0 : x0 < 18446744073709551616) (a1 : x1 < 18446744073709551616) (a2 : x2 < 18446744073709551616) (a3 : h < 18446744073709551616) (a4 : l < 18446744073709551616) :
    Calls Try.prog 47 #[.pointer (some ⟨g, 0, none⟩), .int .u64 (h : Int), .int .u64 (l : Int), .bool neg] w (fun e w' => e = .returned (.tuple #[]) ∧ Wr g w w' ∧ Sum3 g T ((V3 x0 x1 x2 : Int) + (if neg then -((l : Int) + h * 18446744073709551616) else (l : Int) + h * 18446744073709551616)) w') := by
  have hm : ∀ n : Nat, n % 18446744073709551616 < 18446744073709551616 := fun n => Nat.mod_lt _ (by decide)
  cases neg
  · have e1 := add64_run x0 l 0 a0 a4 (by decide)
    have c0 : (x0 + l + 0) / 18446744073709551616 ≤ 1 := by omega
    have e2 := add64_run x1 h _ a1 a3 c0
    have c1 : (x1 + h + (x0 + l + 0) / 18446744073709551616) / 18446744073709551616 ≤ 1 := by omega
    have e3 := add64_run x2 0 _ a2 (by decide) c1
    refine (sum_p X e1 e2 e3).mono ?_
    rintro e w' ⟨rfl, h1, h2⟩
    obtain ⟨k, hk⟩ := add_words a0 a1 a2 a3 a4 rfl rfl
    exact ⟨rfl, h2, _, _, _, hm _, hm _, hm _, h1, k, by simpa using hk⟩
  · have e1 := sub64_run x0 l 0 (by decide)
    have c0 : (if x0 < l + 0 then 1 else 0) ≤ 1 := ite_le1 _
    have e2 := sub64_run x1 h _ c0
    have c1 : (if x1 < h + (if x0 < l + 0 then 1 else 0) then 1 else 0) ≤ 1 := ite_le1 _
    have e3 := sub64_run x2 0 _ c1
    refine (sum_n X e1 e2 e3).mono ?_
    rintro e w' ⟨rfl, h1, h2⟩
    obtain ⟨k, hk⟩ := sub_words a0 a1 a2 a3 a4 rfl rfl
    exact ⟨rfl, h2, _, _, _, hm _, hm _, hm _, h1, k, by rw [← hk]; simp [Int.sub_eq_add_neg]⟩
theorem borrow_any {x0 x1 x2 : Nat} {w : World} (a0 : x0 < 18446744073709551616) (a1 : x1 < 18446744073709551616) : Calls Try.prog 48 #[.agg (U3 x0 x1 x2)] w (Ret w (Val (.int .u64 (if x0 = 0 ∧ x1 = 0 then 0 else 1)))) := by
  obtain ⟨o, ho⟩ : ∃ o : Int, o = bits .or .u64 (x0 : Int) (x1 : Int) := ⟨_, rfl⟩
  have hz : o = 0 ↔ (x0 = 0 ∧ x1 = 0) := by
    rw [ho, bits_or_u64_nat _ _ a0 a1]
    constructor
    · intro h
      have h' : x0 ||| x1 = 0 := by omega
      exact ⟨(Nat.or_eq_zero_iff.1 h').1, (Nat.or_eq_zero_iff.1 h').2⟩
    · rintro ⟨rfl, rfl⟩; rfl
  have ho' := ho.symm
  by_cases h : o = 0
  · rw [if_pos (hz.1 h)]
    have d1 : (o != 0) = false := by rw [h]; rfl
    unfold U3
    clear hz ho a0 a1
    go_enter Try.func48, Try.ntmps48
    go_wp2
    go_ret
    exact ⟨_, rfl, rfl, (Below.refl _ _).alloc (Nat.le_refl _) _⟩
  · rw [if_neg (mt hz.2 h)]
    have d1 : (o != 0) = true := by simpa using h
    unfold U3
    clear hz ho a0 a1
    go_enter Try.func48, Try.ntmps48
    go_wp2
    go_ret
    exact ⟨_, rfl, rfl, (Below.refl _ _).alloc (Nat.le_refl _) _⟩

end Go.Proofs.Ytfffehmkohcgcaa
