/- CacheRuns: the closed sentence, walked. -/
import Derived.Test.YtnieambhpmnliaaDoorSt
import Derived.Deep.DeepCutAuto
namespace Go.Proofs.YtnieambhpmnliaaDoor
set_option linter.all false
set_option linter.unusedVariables false
set_option linter.unusedSimpArgs false
open Go Go.RowKit

noncomputable def rc0 : Ca := newC 0 1 1 2
noncomputable def rc1 : Ca := (wantC rc0 3 1 0 0).2.2
noncomputable def rc2 : Ca := (answerC rc1 (dataM 3 2 7 0 0 0)).2.2
noncomputable def rc3 : Ca := (readC rc2 3 0).2
noncomputable def rc4 : Ca := (writeC rc3 3 1 9).2
noncomputable def rc5 : Ca := (forwardC rc4 ⟨5, 0, 3, 0, 0, 0, 0, 0, 0, 0, 0, 0, false⟩).2.2
noncomputable def rc6 : Ca := (wantC rc5 4 1 0 0).2.2
noncomputable def rc7 : Ca := (forwardC rc6 ⟨10, 0, 3, 0, 0, 0, 0, 0, 0, 0, 0, 0, false⟩).2.2
theorem run1 : wantC rc0 3 1 0 0 = (⟨1, 0, 3, 0, 0, 0, 0, 0, 0, 0, 0, 0, false⟩, .ok, rc1) := by kernel_rfl
theorem run1' : wantC rc1 3 2 0 0 = (⟨0, 0, 0, 0, 0, 0, 0, 0, 0, 0, 0, 0, false⟩, .one 7, rc1) := by kernel_rfl
theorem run2 : answerC rc1 (dataM 3 2 7 0 0 0) = (⟨12, 0, 3, 0, 0, 0, 0, 0, 0, 0, 0, 0, false⟩, true, rc2) := by kernel_rfl
theorem run3 : readC rc2 3 0 = ((7, true), rc3) := by kernel_rfl
theorem run4 : writeC rc3 3 1 9 = (true, rc4) := by kernel_rfl
theorem run5 : forwardC rc4 ⟨5, 0, 3, 0, 0, 0, 0, 0, 0, 0, 0, 0, false⟩ = (⟨11, 0, 3, 1, 0, 0, 0, 0, 7, 9, 0, 0, true⟩, true, rc5) := by kernel_rfl
theorem run6 : wantC rc5 4 1 0 0 = (⟨4, 0, 3, 0, 0, 0, 0, 0, 0, 0, 0, 0, false⟩, .ok, rc6) := by kernel_rfl
theorem run7 : forwardC rc6 ⟨10, 0, 3, 0, 0, 0, 0, 0, 0, 0, 0, 0, false⟩ = (⟨11, 0, 3, 0, 0, 0, 0, 0, 0, 0, 0, 0, false⟩, true, rc7) := by kernel_rfl
theorem run8 : (listA rc7.A).length = 0 := by kernel_rfl
theorem run9 : rc7.M.length = 0 := by kernel_rfl

set_option maxRecDepth 100000 in
set_option maxHeartbeats 8000000 in
theorem runs_calls (p : Nat → Addr) (w : World) (hg : Sent w.heap.size w p) :
    Calls Tryd.prog 3 #[] w fun e w' => e = .returned (.bool true) ∧ Below w.heap.size w w' := by
  have HN := Lib.hid (show Calls Tryd.prog 10 #[.agg #[.int .i64 1, .int .i64 8, .int .i64 1, .int .i64 1, .int .i64 2, .int .i64 1, .int .i64 1, .int .i64 1, .int .i64 0], .int .i64 0] w fun e w' => ∃ cb, e = .returned (.tuple #[.pointer (some ⟨cb, 0, none⟩), .nilIface]) ∧ St w p cb rc0 [] w' from
    new_st 1 8 2 1 1 1 0 0 1 1 w hg (Below.refl _ _) (by decide) (of_decide_eq_true (by kernel_rfl)) (by decide) (by kernel_rfl) (by kernel_rfl) (by decide))
  clear hg
  go_enter Tryd.func3, Tryd.ntmps3
  go_wp2_with fail
  refine HN.out.mono ?_
  rintro e w1 ⟨cb, rfl, hs1⟩
  have H1 := Lib.hid hs1
  clear hs1
  go_wp2_with fail
  refine (want_ok H1.out 3 1 0 0 run1).mono ?_
  rintro e w2 ⟨rfl, hs2⟩
  have H2 := Lib.hid (hs2.alloc 33 (Msg.cells ⟨1, 0, 3, 0, 0, 0, 0, 0, 0, 0, 0, 0, false⟩))
  clear hs2
  go_wp2_with fail
  refine (want_one H2.out 3 2 0 0 run1').mono ?_
  rintro e w3 ⟨rfl, hs3⟩
  have H3 := Lib.hid (hs3.alloc 33 (Msg.cells ⟨0, 0, 0, 0, 0, 0, 0, 0, 0, 0, 0, 0, false⟩))
  clear hs3
  go_wp2_with fail
  refine (data_calls 3 2 7 0 0 0 _).mono ?_
  rintro e w4 ⟨rfl, hb4⟩
  have H4 := Lib.hid (H3.out.below hb4)
  clear hb4
  go_wp2_with fail
  refine (answer_lit H4.out (dataM 3 2 7 0 0 0) run2).mono ?_
  rintro e w5 ⟨rfl, hs5⟩
  have H5 := Lib.hid (hs5.alloc 33 (Msg.cells ⟨12, 0, 3, 0, 0, 0, 0, 0, 0, 0, 0, 0, false⟩))
  clear hs5
  go_wp2_with fail
  refine (read_st H5.out 3 0 run3).mono ?_
  rintro e w6 ⟨rfl, hs6⟩
  have H6 := Lib.hid hs6
  clear hs6
  go_wp2_with fail
  refine (write_st H6.out 3 1 9 run4).mono ?_
  rintro e w7 ⟨rfl, hs7⟩
  have H7 := Lib.hid hs7
  clear hs7
  go_wp2_with fail
  refine (forward_lit H7.out ⟨5, 0, 3, 0, 0, 0, 0, 0, 0, 0, 0, 0, false⟩ run5).mono ?_
  rintro e w8 ⟨rfl, hs8⟩
  have H8 := Lib.hid (hs8.alloc 33 (Msg.cells ⟨11, 0, 3, 1, 0, 0, 0, 0, 7, 9, 0, 0, true⟩))
  clear hs8
  go_wp2_with fail
  refine (want_ok H8.out 4 1 0 0 run6).mono ?_
  rintro e w9 ⟨rfl, hs9⟩
  have H9 := Lib.hid (hs9.alloc 33 (Msg.cells ⟨4, 0, 3, 0, 0, 0, 0, 0, 0, 0, 0, 0, false⟩))
  clear hs9
  go_wp2_with fail
  refine (forward_lit H9.out ⟨10, 0, 3, 0, 0, 0, 0, 0, 0, 0, 0, 0, false⟩ run7).mono ?_
  rintro e w10 ⟨rfl, hs10⟩
  have H10 := Lib.hid (hs10.alloc 33 (Msg.cells ⟨11, 0, 3, 0, 0, 0, 0, 0, 0, 0, 0, 0, false⟩))
  clear hs10
  go_upto_region 12 with (fail)
  have H10' : Hid (St w p cb rc7 _ (w10.alloc (.cells #[.int .i64 11, .int .i64 0, .int .i64 3, .int .i64 0, .int .i64 0, .int .i64 0, .int .i64 0, .int .u32 0, .int .u32 0, .int .u32 0, .int .u32 0, .int .u32 0, .bool false] 33))) := H10
  clear H10
  have H10 := H10'
  clear H10'
  generalize w10.alloc (.cells #[.int .i64 11, .int .i64 0, .int .i64 3, .int .i64 0, .int .i64 0, .int .i64 0, .int .i64 0, .int .u32 0, .int .u32 0, .int .u32 0, .int .u32 0, .int .u32 0, .bool false] 33) = W at H10 ⊢
  have s1 : ∀ w : World, (binOp .eql 33 (.agg #[.int .i64 1, .int .i64 0, .int .i64 3, .int .i64 0, .int .i64 0, .int .i64 0, .int .i64 0, .int .u32 0, .int .u32 0, .int .u32 0, .int .u32 0, .int .u32 0, .bool false]) (.agg #[.int .i64 1, .int .i64 0, .int .i64 3, .int .i64 0, .int .i64 0, .int .i64 0, .int .i64 0, .int .u32 0, .int .u32 0, .int .u32 0, .int .u32 0, .int .u32 0, .bool false])).run Tryd.prog w = .ok (.bool true) w := msg_same ⟨1, 0, 3, 0, 0, 0, 0, 0, 0, 0, 0, 0, false⟩
  obtain ⟨x0, x1, x2, x3, x4, x5, x6, x7, x8, x9, x10, x11, x12⟩ := msgAt (m := ⟨1, 0, 3, 0, 0, 0, 0, 0, 0, 0, 0, 0, false⟩) (H10.out.get 5 rfl)
  simp only at x0 x1 x2 x3 x4 x5 x6 x7 x8 x9 x10 x11 x12
  go_wp2_with fail
  refine (kis_one w.heap.size p wantOp 3 3 7 7 _ H10.out.sent (by decide) (by decide)).mono ?_
  rintro e w11 ⟨rfl, hb11⟩
  have H11 := Lib.hid (H10.out.below hb11)
  clear hb11 s1
  clear x0 x1 x2 x3 x4 x5 x6 x7 x8 x9 x10 x11 x12
  have s2 : ∀ w : World, (binOp .eql 33 (.agg #[.int .i64 12, .int .i64 0, .int .i64 3, .int .i64 0, .int .i64 0, .int .i64 0, .int .i64 0, .int .u32 0, .int .u32 0, .int .u32 0, .int .u32 0, .int .u32 0, .bool false]) (.agg #[.int .i64 12, .int .i64 0, .int .i64 3, .int .i64 0, .int .i64 0, .int .i64 0, .int .i64 0, .int .u32 0, .int .u32 0, .int .u32 0, .int .u32 0, .int .u32 0, .bool false])).run Tryd.prog w = .ok (.bool true) w := msg_same ⟨12, 0, 3, 0, 0, 0, 0, 0, 0, 0, 0, 0, false⟩
  have s3 : ∀ w : World, (binOp .eql 33 (.agg #[.int .i64 11, .int .i64 0, .int .i64 3, .int .i64 1, .int .i64 0, .int .i64 0, .int .i64 0, .int .u32 0, .int .u32 7, .int .u32 9, .int .u32 0, .int .u32 0, .bool true]) (.agg #[.int .i64 11, .int .i64 0, .int .i64 3, .int .i64 1, .int .i64 0, .int .i64 0, .int .i64 0, .int .u32 0, .int .u32 7, .int .u32 9, .int .u32 0, .int .u32 0, .bool true])).run Tryd.prog w = .ok (.bool true) w := msg_same ⟨11, 0, 3, 1, 0, 0, 0, 0, 7, 9, 0, 0, true⟩
  have s4 : ∀ w : World, (binOp .eql 33 (.agg #[.int .i64 4, .int .i64 0, .int .i64 3, .int .i64 0, .int .i64 0, .int .i64 0, .int .i64 0, .int .u32 0, .int .u32 0, .int .u32 0, .int .u32 0, .int .u32 0, .bool false]) (.agg #[.int .i64 4, .int .i64 0, .int .i64 3, .int .i64 0, .int .i64 0, .int .i64 0, .int .i64 0, .int .u32 0, .int .u32 0, .int .u32 0, .int .u32 0, .int .u32 0, .bool false])).run Tryd.prog w = .ok (.bool true) w := msg_same ⟨4, 0, 3, 0, 0, 0, 0, 0, 0, 0, 0, 0, false⟩
  have s5 : ∀ w : World, (binOp .eql 33 (.agg #[.int .i64 11, .int .i64 0, .int .i64 3, .int .i64 0, .int .i64 0, .int .i64 0, .int .i64 0, .int .u32 0, .int .u32 0, .int .u32 0, .int .u32 0, .int .u32 0, .bool false]) (.agg #[.int .i64 11, .int .i64 0, .int .i64 3, .int .i64 0, .int .i64 0, .int .i64 0, .int .i64 0, .int .u32 0, .int .u32 0, .int .u32 0, .int .u32 0, .int .u32 0, .bool false])).run Tryd.prog w = .ok (.bool true) w := msg_same ⟨11, 0, 3, 0, 0, 0, 0, 0, 0, 0, 0, 0, false⟩
  obtain ⟨y0, y1, y2, y3, y4, y5, y6, y7, y8, y9, y10, y11, y12⟩ := msgAt (m := ⟨12, 0, 3, 0, 0, 0, 0, 0, 0, 0, 0, 0, false⟩) (H11.out.get 3 rfl)
  simp only at y0 y1 y2 y3 y4 y5 y6 y7 y8 y9 y10 y11 y12
  obtain ⟨u0, u1, u2, u3, u4, u5, u6, u7, u8, u9, u10, u11, u12⟩ := msgAt (m := ⟨11, 0, 3, 1, 0, 0, 0, 0, 7, 9, 0, 0, true⟩) (H11.out.get 2 rfl)
  simp only at u0 u1 u2 u3 u4 u5 u6 u7 u8 u9 u10 u11 u12
  obtain ⟨v0, v1, v2, v3, v4, v5, v6, v7, v8, v9, v10, v11, v12⟩ := msgAt (m := ⟨4, 0, 3, 0, 0, 0, 0, 0, 0, 0, 0, 0, false⟩) (H11.out.get 1 rfl)
  simp only at v0 v1 v2 v3 v4 v5 v6 v7 v8 v9 v10 v11 v12
  obtain ⟨z0, z1, z2, z3, z4, z5, z6, z7, z8, z9, z10, z11, z12⟩ := msgAt (m := ⟨11, 0, 3, 0, 0, 0, 0, 0, 0, 0, 0, 0, false⟩) (H11.out.get 0 rfl)
  simp only at z0 z1 z2 z3 z4 z5 z6 z7 z8 z9 z10 z11 z12
  have HEN := Lib.hid (fun ls w1 (h : St w p cb rc7 ls w1) => entries_st h)
  have HMI := Lib.hid (fun ls w1 (h : St w p cb rc7 ls w1) => misses_st h)
  rw [run8] at HEN
  rw [run9] at HMI
  go_wp2_with fail
  refine (HEN.out _ _ H11.out).mono ?_
  rintro e w12 ⟨lv, cap, rfl, hsl, hs12⟩
  have H12 := Lib.hid hs12
  clear hsl hs12
  go_wp2_with fail
  refine (HMI.out _ _ H12.out).mono ?_
  rintro e w13 ⟨lv2, cap2, rfl, hsl, hs13⟩
  have H13 := Lib.hid hs13
  clear hsl hs13
  go_wp2
  go_ret
  exact ⟨rfl, H13.out.bel⟩

end Go.Proofs.YtnieambhpmnliaaDoor
