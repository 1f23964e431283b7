/- A cache: Want, where the table of misses is full. Printed by gen_want.py. -/
import Derived.Test.YtnieambhpmnliaaDoorAsk
namespace Go.Proofs.YtnieambhpmnliaaDoor
set_option linter.all false
set_option linter.unusedVariables false
set_option linter.unusedSimpArgs false
open Go Go.RowKit

set_option maxRecDepth 100000 in
set_option maxHeartbeats 2000000 in
theorem want_full_a (B : Nat) (c : Ca) (line kind word v : Int) (p : Nat → Addr) (cb : Nat) (F : List Nat) (w : World) (h : CAt B w cb c F) (hg : Sent B w p) (hbad : badWant line kind word = false) (hm : (missOf c.M line).2 = false) (ht : (getA c.A line).isSome = true) (hk : kind = 2) (hfull : c.most ≤ c.M.length) :
    Calls Tryd.prog 11 #[.pointer (some ⟨cb, 0, none⟩), .int .i64 line, .int .i64 kind, .int .i64 word, .int .u32 v] w fun e w' => e = .returned (.tuple #[Msg.zero.val, erv p line (.two line)]) ∧ CStep B w cb F w' c := by
  have HF := Lib.hid (fun w1 (hb : Below w.heap.size w w1) => CStep.same h hb)
  have HLT := Lib.hid h.lt
  have hB := hg.size
  have HG := Lib.hid (fun w1 (hb : Below w.heap.size w w1) => hg.below hb)
  obtain ⟨ab, sb, tb, wbs, L, h, rfl⟩ := h
  have h8 := h.ok.m.most8
  have hlen := h.ok.m.len
  have HC := Lib.hid (fun w1 (hb : Below w.heap.size w w1) => h.below hb)
  have HMS := Lib.hid (fun w1 (hb : Below w.heap.size w w1) => get_calls c.M line c.most tb w1 (by omega) (h.tab.below hb).tab)
  have HAG := Lib.hid (fun w1 (hb : Below w.heap.size w w1) => aget_calls B c.n c.k c.A line ab sb wbs w1 h.ok.a (h.ar.below hb))
  have HOK := Lib.hid h.ok
  have hbc := h.bc.lt
  simp only [badWant, Bool.or_eq_false_iff, decide_eq_false_iff_not, Int.not_lt, Int.not_le] at hbad
  obtain ⟨⟨⟨⟨⟨b0, b1⟩, b2⟩, b3⟩, b4⟩, b5⟩ := hbad
  have hl : within line 0 31 = true := by simp [within]; omega
  have hb0 := (Below.refl w.heap.size w).alloc (Nat.le_refl _) (.cells Msg.zero.cells.toArray 33)
  have HM0 := Lib.hid (blk_new w Msg.zero.cells 33 _ rfl)
  have hz0 : (w.alloc (.cells Msg.zero.cells.toArray 33)).heap.size = w.heap.size + 1 := by simp
  have HB0 := Lib.hid hb0
  simp only [Msg.cells, Msg.zero] at hz0 HB0 HM0
  clear hb0
  have c3 := (HC.out _ HB0.out).bc.cell 3
  simp at c3
  have HMC := Lib.hid (HMS.out _ HB0.out)
  rw [hm] at HMC
  unfold getV at HAG
  generalize (missOf c.M line).1 = mk at HMC
  subst hk
  have HN := Lib.hid (missOf_no hm)
  rw [ht] at HAG
  clear h hg hm ht
  generalize (getA c.A line).getD .zero = x at HAG
  obtain ⟨x0, x1, x2, x3, x4, x5, x6, x7, x8, x9⟩ := x
  simp only [Ent.val] at HAG
  go_enter Tryd.func11, Tryd.ntmps11
  go_wp2_with fail
  generalize w.alloc (.cells #[.int .i64 0, .int .i64 0, .int .i64 0, .int .i64 0, .int .i64 0, .int .i64 0, .int .i64 0, .int .u32 0, .int .u32 0, .int .u32 0, .int .u32 0, .int .u32 0, .bool false] 33) = W at *
  refine HMC.out.mono ?_
  rintro e w1 ⟨rfl, hb1⟩
  have HB1 := Lib.hid (HB0.out.trans (hb1.mono HB0.out.size))
  have HM1 := Lib.hid (HM0.out.below hb1 HM0.out.lt)
  have c2 := (HC.out _ HB1.out).bc.cell 2
  simp at c2
  have HAC := Lib.hid (HAG.out _ HB1.out)
  clear hb1
  go_wp2_with fail
  refine HAC.out.mono ?_
  rintro e w2 ⟨rfl, hb2⟩
  have HB2 := Lib.hid (HB1.out.trans (hb2.mono HB1.out.size))
  have HM2 := Lib.hid (HM1.out.below hb2 HM1.out.lt)
  clear hb2 c2
  have hb3 := HB2.out.alloc HB2.out.size (.cells #[.int .i64 x0, .int .i64 x1, .int .i64 x2, .int .i64 x3, .int .u32 x4, .int .u32 x5, .int .u32 x6, .int .u32 x7, .bool x8, .bool x9] 69)
  have HM3 := Lib.hid (HM2.out.below ((Below.refl w2.heap.size w2).alloc (Nat.le_refl _) (.cells #[.int .i64 x0, .int .i64 x1, .int .i64 x2, .int .i64 x3, .int .u32 x4, .int .u32 x5, .int .u32 x6, .int .u32 x7, .bool x8, .bool x9] 69)) HM2.out.lt)
  have HB3 := Lib.hid hb3
  clear hb3
  have c3 := (HC.out _ HB3.out).bc.cell 3
  simp at c3
  go_wp2_with fail
  refine (add_full B L c.M line 2 c.most p tb _ HOK.out.m (HG.out _ HB3.out) (HC.out _ HB3.out).tab ⟨b0, by omega⟩ (by decide) HN.out hfull).mono ?_
  rintro e w6 ⟨rfl, hb6⟩
  unfold errv faultv
  have HB6 := Lib.hid (HB3.out.trans (hb6.mono HB3.out.size))
  have HM6 := Lib.hid (HM3.out.below hb6 HM3.out.lt)
  clear hb6
  go_wp2_with (first | (go_at_call 22; refine (wrap_calls _ _ _ _ _).mono ?_; rintro e wq ⟨rfl, rfl⟩) | (refine wl_store rfl (.tmp 10) (.tmp 117) 33 rfl w.heap.size 0 33 Msg.zero.cells rfl rfl msgSize _ HM6.out (msgOne _) (by simp [Msg.cells]) ?d1))
  case d1 =>
    intro wz hoz hblk
    have HK := Lib.hid (msgOver (m := Msg.zero) (m' := Msg.zero) hblk)
    have HBz := Lib.hid (HB6.out.trans (hoz.below.mono (Nat.le_refl _)))
    clear hoz hblk
    go_wp2
    exact bodyPost_ret (v := .tuple #[Msg.zero.val, erv p line (.two line)]) (results_msg2 Tryd.results11 Msg.zero _ rfl rfl HK.out) rfl ⟨rfl, HF.out _ HBz.out⟩

set_option maxRecDepth 100000 in
set_option maxHeartbeats 2000000 in
theorem want_full_b (B : Nat) (c : Ca) (line kind word v : Int) (p : Nat → Addr) (cb : Nat) (F : List Nat) (w : World) (h : CAt B w cb c F) (hg : Sent B w p) (hbad : badWant line kind word = false) (hm : (missOf c.M line).2 = false) (ht : (getA c.A line).isSome = false) (hk : kind = 1) (hab : absentC c line = false) (hro : roomA c.A line = true) (hfull : c.most ≤ c.M.length) :
    Calls Tryd.prog 11 #[.pointer (some ⟨cb, 0, none⟩), .int .i64 line, .int .i64 kind, .int .i64 word, .int .u32 v] w fun e w' => e = .returned (.tuple #[Msg.zero.val, erv p line (.two line)]) ∧ CStep B w cb F w' c := by
  have HF := Lib.hid (fun w1 (hb : Below w.heap.size w w1) => CStep.same h hb)
  have HLT := Lib.hid h.lt
  have hB := hg.size
  have HG := Lib.hid (fun w1 (hb : Below w.heap.size w w1) => hg.below hb)
  have HAB := Lib.hid (fun w1 (hb : Below w.heap.size w w1) => absent_calls B c line cb F w1 (h.below hb))
  obtain ⟨ab, sb, tb, wbs, L, h, rfl⟩ := h
  have h8 := h.ok.m.most8
  have hlen := h.ok.m.len
  have HC := Lib.hid (fun w1 (hb : Below w.heap.size w w1) => h.below hb)
  have HMS := Lib.hid (fun w1 (hb : Below w.heap.size w w1) => get_calls c.M line c.most tb w1 (by omega) (h.tab.below hb).tab)
  have HAG := Lib.hid (fun w1 (hb : Below w.heap.size w w1) => aget_calls B c.n c.k c.A line ab sb wbs w1 h.ok.a (h.ar.below hb))
  have HOK := Lib.hid h.ok
  have hbc := h.bc.lt
  simp only [badWant, Bool.or_eq_false_iff, decide_eq_false_iff_not, Int.not_lt, Int.not_le] at hbad
  obtain ⟨⟨⟨⟨⟨b0, b1⟩, b2⟩, b3⟩, b4⟩, b5⟩ := hbad
  have hl : within line 0 31 = true := by simp [within]; omega
  have HRO := Lib.hid (fun w1 (hb : Below w.heap.size w w1) => room_calls B c.n c.k c.A line ab sb wbs w1 h.ok.a (h.ar.below hb) hl)
  have hb0 := (Below.refl w.heap.size w).alloc (Nat.le_refl _) (.cells Msg.zero.cells.toArray 33)
  have HM0 := Lib.hid (blk_new w Msg.zero.cells 33 _ rfl)
  have hz0 : (w.alloc (.cells Msg.zero.cells.toArray 33)).heap.size = w.heap.size + 1 := by simp
  have HB0 := Lib.hid hb0
  simp only [Msg.cells, Msg.zero] at hz0 HB0 HM0
  clear hb0
  have c3 := (HC.out _ HB0.out).bc.cell 3
  simp at c3
  have HMC := Lib.hid (HMS.out _ HB0.out)
  rw [hm] at HMC
  unfold getV at HAG
  generalize (missOf c.M line).1 = mk at HMC
  subst hk
  rw [hab] at HAB
  rw [hro] at HRO
  have HN := Lib.hid (missOf_no hm)
  rw [ht] at HAG
  clear h hg hm ht
  generalize (getA c.A line).getD .zero = x at HAG
  obtain ⟨x0, x1, x2, x3, x4, x5, x6, x7, x8, x9⟩ := x
  simp only [Ent.val] at HAG
  go_enter Tryd.func11, Tryd.ntmps11
  go_wp2_with fail
  generalize w.alloc (.cells #[.int .i64 0, .int .i64 0, .int .i64 0, .int .i64 0, .int .i64 0, .int .i64 0, .int .i64 0, .int .u32 0, .int .u32 0, .int .u32 0, .int .u32 0, .int .u32 0, .bool false] 33) = W at *
  refine HMC.out.mono ?_
  rintro e w1 ⟨rfl, hb1⟩
  have HB1 := Lib.hid (HB0.out.trans (hb1.mono HB0.out.size))
  have HM1 := Lib.hid (HM0.out.below hb1 HM0.out.lt)
  have c2 := (HC.out _ HB1.out).bc.cell 2
  simp at c2
  have HAC := Lib.hid (HAG.out _ HB1.out)
  clear hb1
  go_wp2_with fail
  refine HAC.out.mono ?_
  rintro e w2 ⟨rfl, hb2⟩
  have HB2 := Lib.hid (HB1.out.trans (hb2.mono HB1.out.size))
  have HM2 := Lib.hid (HM1.out.below hb2 HM1.out.lt)
  clear hb2 c2
  have hb3 := HB2.out.alloc HB2.out.size (.cells #[.int .i64 x0, .int .i64 x1, .int .i64 x2, .int .i64 x3, .int .u32 x4, .int .u32 x5, .int .u32 x6, .int .u32 x7, .bool x8, .bool x9] 69)
  have HM3 := Lib.hid (HM2.out.below ((Below.refl w2.heap.size w2).alloc (Nat.le_refl _) (.cells #[.int .i64 x0, .int .i64 x1, .int .i64 x2, .int .i64 x3, .int .u32 x4, .int .u32 x5, .int .u32 x6, .int .u32 x7, .bool x8, .bool x9] 69)) HM2.out.lt)
  have HB3 := Lib.hid hb3
  clear hb3
  go_wp2_with fail
  refine (HAB.out _ HB3.out).mono ?_
  rintro e w4 ⟨rfl, hb4⟩
  have HB4 := Lib.hid (HB3.out.trans (hb4.mono HB3.out.size))
  have HM4 := Lib.hid (HM3.out.below hb4 HM3.out.lt)
  have c2 := (HC.out _ HB4.out).bc.cell 2
  simp at c2
  clear hb4
  go_wp2_with fail
  refine (HRO.out _ HB4.out).mono ?_
  rintro e w5 ⟨rfl, hb5⟩
  have HB5 := Lib.hid (HB4.out.trans (hb5.mono HB4.out.size))
  have HM5 := Lib.hid (HM4.out.below hb5 HM4.out.lt)
  clear hb5 c2
  have c3 := (HC.out _ HB5.out).bc.cell 3
  simp at c3
  go_wp2_with fail
  refine (add_full B L c.M line 1 c.most p tb _ HOK.out.m (HG.out _ HB5.out) (HC.out _ HB5.out).tab ⟨b0, by omega⟩ (by decide) HN.out hfull).mono ?_
  rintro e w6 ⟨rfl, hb6⟩
  unfold errv faultv
  have HB6 := Lib.hid (HB5.out.trans (hb6.mono HB5.out.size))
  have HM6 := Lib.hid (HM5.out.below hb6 HM5.out.lt)
  clear hb6
  go_wp2_with (first | (go_at_call 22; refine (wrap_calls _ _ _ _ _).mono ?_; rintro e wq ⟨rfl, rfl⟩) | (refine wl_store rfl (.tmp 10) (.tmp 117) 33 rfl w.heap.size 0 33 Msg.zero.cells rfl rfl msgSize _ HM6.out (msgOne _) (by simp [Msg.cells]) ?d1))
  case d1 =>
    intro wz hoz hblk
    have HK := Lib.hid (msgOver (m := Msg.zero) (m' := Msg.zero) hblk)
    have HBz := Lib.hid (HB6.out.trans (hoz.below.mono (Nat.le_refl _)))
    clear hoz hblk
    go_wp2
    exact bodyPost_ret (v := .tuple #[Msg.zero.val, erv p line (.two line)]) (results_msg2 Tryd.results11 Msg.zero _ rfl rfl HK.out) rfl ⟨rfl, HF.out _ HBz.out⟩

set_option maxRecDepth 100000 in
set_option maxHeartbeats 2000000 in
theorem want_full_c (B : Nat) (c : Ca) (line kind word v : Int) (p : Nat → Addr) (cb : Nat) (F : List Nat) (w : World) (h : CAt B w cb c F) (hg : Sent B w p) (hbad : badWant line kind word = false) (hm : (missOf c.M line).2 = false) (ht : (getA c.A line).isSome = false) (hk : kind = 2) (hab : absentC c line = false) (hro : roomA c.A line = true) (hfull : c.most ≤ c.M.length) :
    Calls Tryd.prog 11 #[.pointer (some ⟨cb, 0, none⟩), .int .i64 line, .int .i64 kind, .int .i64 word, .int .u32 v] w fun e w' => e = .returned (.tuple #[Msg.zero.val, erv p line (.two line)]) ∧ CStep B w cb F w' c := by
  have HF := Lib.hid (fun w1 (hb : Below w.heap.size w w1) => CStep.same h hb)
  have HLT := Lib.hid h.lt
  have hB := hg.size
  have HG := Lib.hid (fun w1 (hb : Below w.heap.size w w1) => hg.below hb)
  have HAB := Lib.hid (fun w1 (hb : Below w.heap.size w w1) => absent_calls B c line cb F w1 (h.below hb))
  obtain ⟨ab, sb, tb, wbs, L, h, rfl⟩ := h
  have h8 := h.ok.m.most8
  have hlen := h.ok.m.len
  have HC := Lib.hid (fun w1 (hb : Below w.heap.size w w1) => h.below hb)
  have HMS := Lib.hid (fun w1 (hb : Below w.heap.size w w1) => get_calls c.M line c.most tb w1 (by omega) (h.tab.below hb).tab)
  have HAG := Lib.hid (fun w1 (hb : Below w.heap.size w w1) => aget_calls B c.n c.k c.A line ab sb wbs w1 h.ok.a (h.ar.below hb))
  have HOK := Lib.hid h.ok
  have hbc := h.bc.lt
  simp only [badWant, Bool.or_eq_false_iff, decide_eq_false_iff_not, Int.not_lt, Int.not_le] at hbad
  obtain ⟨⟨⟨⟨⟨b0, b1⟩, b2⟩, b3⟩, b4⟩, b5⟩ := hbad
  have hl : within line 0 31 = true := by simp [within]; omega
  have HRO := Lib.hid (fun w1 (hb : Below w.heap.size w w1) => room_calls B c.n c.k c.A line ab sb wbs w1 h.ok.a (h.ar.below hb) hl)
  have hb0 := (Below.refl w.heap.size w).alloc (Nat.le_refl _) (.cells Msg.zero.cells.toArray 33)
  have HM0 := Lib.hid (blk_new w Msg.zero.cells 33 _ rfl)
  have hz0 : (w.alloc (.cells Msg.zero.cells.toArray 33)).heap.size = w.heap.size + 1 := by simp
  have HB0 := Lib.hid hb0
  simp only [Msg.cells, Msg.zero] at hz0 HB0 HM0
  clear hb0
  have c3 := (HC.out _ HB0.out).bc.cell 3
  simp at c3
  have HMC := Lib.hid (HMS.out _ HB0.out)
  rw [hm] at HMC
  unfold getV at HAG
  generalize (missOf c.M line).1 = mk at HMC
  subst hk
  rw [hab] at HAB
  rw [hro] at HRO
  have HN := Lib.hid (missOf_no hm)
  rw [ht] at HAG
  clear h hg hm ht
  generalize (getA c.A line).getD .zero = x at HAG
  obtain ⟨x0, x1, x2, x3, x4, x5, x6, x7, x8, x9⟩ := x
  simp only [Ent.val] at HAG
  go_enter Tryd.func11, Tryd.ntmps11
  go_wp2_with fail
  generalize w.alloc (.cells #[.int .i64 0, .int .i64 0, .int .i64 0, .int .i64 0, .int .i64 0, .int .i64 0, .int .i64 0, .int .u32 0, .int .u32 0, .int .u32 0, .int .u32 0, .int .u32 0, .bool false] 33) = W at *
  refine HMC.out.mono ?_
  rintro e w1 ⟨rfl, hb1⟩
  have HB1 := Lib.hid (HB0.out.trans (hb1.mono HB0.out.size))
  have HM1 := Lib.hid (HM0.out.below hb1 HM0.out.lt)
  have c2 := (HC.out _ HB1.out).bc.cell 2
  simp at c2
  have HAC := Lib.hid (HAG.out _ HB1.out)
  clear hb1
  go_wp2_with fail
  refine HAC.out.mono ?_
  rintro e w2 ⟨rfl, hb2⟩
  have HB2 := Lib.hid (HB1.out.trans (hb2.mono HB1.out.size))
  have HM2 := Lib.hid (HM1.out.below hb2 HM1.out.lt)
  clear hb2 c2
  have hb3 := HB2.out.alloc HB2.out.size (.cells #[.int .i64 x0, .int .i64 x1, .int .i64 x2, .int .i64 x3, .int .u32 x4, .int .u32 x5, .int .u32 x6, .int .u32 x7, .bool x8, .bool x9] 69)
  have HM3 := Lib.hid (HM2.out.below ((Below.refl w2.heap.size w2).alloc (Nat.le_refl _) (.cells #[.int .i64 x0, .int .i64 x1, .int .i64 x2, .int .i64 x3, .int .u32 x4, .int .u32 x5, .int .u32 x6, .int .u32 x7, .bool x8, .bool x9] 69)) HM2.out.lt)
  have HB3 := Lib.hid hb3
  clear hb3
  go_wp2_with fail
  refine (HAB.out _ HB3.out).mono ?_
  rintro e w4 ⟨rfl, hb4⟩
  have HB4 := Lib.hid (HB3.out.trans (hb4.mono HB3.out.size))
  have HM4 := Lib.hid (HM3.out.below hb4 HM3.out.lt)
  have c2 := (HC.out _ HB4.out).bc.cell 2
  simp at c2
  clear hb4
  go_wp2_with fail
  refine (HRO.out _ HB4.out).mono ?_
  rintro e w5 ⟨rfl, hb5⟩
  have HB5 := Lib.hid (HB4.out.trans (hb5.mono HB4.out.size))
  have HM5 := Lib.hid (HM4.out.below hb5 HM4.out.lt)
  clear hb5 c2
  have c3 := (HC.out _ HB5.out).bc.cell 3
  simp at c3
  go_wp2_with fail
  refine (add_full B L c.M line 2 c.most p tb _ HOK.out.m (HG.out _ HB5.out) (HC.out _ HB5.out).tab ⟨b0, by omega⟩ (by decide) HN.out hfull).mono ?_
  rintro e w6 ⟨rfl, hb6⟩
  unfold errv faultv
  have HB6 := Lib.hid (HB5.out.trans (hb6.mono HB5.out.size))
  have HM6 := Lib.hid (HM5.out.below hb6 HM5.out.lt)
  clear hb6
  go_wp2_with (first | (go_at_call 22; refine (wrap_calls _ _ _ _ _).mono ?_; rintro e wq ⟨rfl, rfl⟩) | (refine wl_store rfl (.tmp 10) (.tmp 117) 33 rfl w.heap.size 0 33 Msg.zero.cells rfl rfl msgSize _ HM6.out (msgOne _) (by simp [Msg.cells]) ?d1))
  case d1 =>
    intro wz hoz hblk
    have HK := Lib.hid (msgOver (m := Msg.zero) (m' := Msg.zero) hblk)
    have HBz := Lib.hid (HB6.out.trans (hoz.below.mono (Nat.le_refl _)))
    clear hoz hblk
    go_wp2
    exact bodyPost_ret (v := .tuple #[Msg.zero.val, erv p line (.two line)]) (results_msg2 Tryd.results11 Msg.zero _ rfl rfl HK.out) rfl ⟨rfl, HF.out _ HBz.out⟩

set_option maxRecDepth 100000 in
set_option maxHeartbeats 2000000 in
theorem want_full_d (B : Nat) (c : Ca) (line kind word v : Int) (p : Nat → Addr) (cb : Nat) (F : List Nat) (w : World) (h : CAt B w cb c F) (hg : Sent B w p) (hbad : badWant line kind word = false) (hm : (missOf c.M line).2 = false) (ht : (getA c.A line).isSome = false) (hk : kind = 3) (hab : absentC c line = false) (hro : roomA c.A line = true) (hfull : c.most ≤ c.M.length) :
    Calls Tryd.prog 11 #[.pointer (some ⟨cb, 0, none⟩), .int .i64 line, .int .i64 kind, .int .i64 word, .int .u32 v] w fun e w' => e = .returned (.tuple #[Msg.zero.val, erv p line (.two line)]) ∧ CStep B w cb F w' c := by
  have HF := Lib.hid (fun w1 (hb : Below w.heap.size w w1) => CStep.same h hb)
  have HLT := Lib.hid h.lt
  have hB := hg.size
  have HG := Lib.hid (fun w1 (hb : Below w.heap.size w w1) => hg.below hb)
  have HAB := Lib.hid (fun w1 (hb : Below w.heap.size w w1) => absent_calls B c line cb F w1 (h.below hb))
  obtain ⟨ab, sb, tb, wbs, L, h, rfl⟩ := h
  have h8 := h.ok.m.most8
  have hlen := h.ok.m.len
  have HC := Lib.hid (fun w1 (hb : Below w.heap.size w w1) => h.below hb)
  have HMS := Lib.hid (fun w1 (hb : Below w.heap.size w w1) => get_calls c.M line c.most tb w1 (by omega) (h.tab.below hb).tab)
  have HAG := Lib.hid (fun w1 (hb : Below w.heap.size w w1) => aget_calls B c.n c.k c.A line ab sb wbs w1 h.ok.a (h.ar.below hb))
  have HOK := Lib.hid h.ok
  have hbc := h.bc.lt
  simp only [badWant, Bool.or_eq_false_iff, decide_eq_false_iff_not, Int.not_lt, Int.not_le] at hbad
  obtain ⟨⟨⟨⟨⟨b0, b1⟩, b2⟩, b3⟩, b4⟩, b5⟩ := hbad
  have hl : within line 0 31 = true := by simp [within]; omega
  have HRO := Lib.hid (fun w1 (hb : Below w.heap.size w w1) => room_calls B c.n c.k c.A line ab sb wbs w1 h.ok.a (h.ar.below hb) hl)
  have hb0 := (Below.refl w.heap.size w).alloc (Nat.le_refl _) (.cells Msg.zero.cells.toArray 33)
  have HM0 := Lib.hid (blk_new w Msg.zero.cells 33 _ rfl)
  have hz0 : (w.alloc (.cells Msg.zero.cells.toArray 33)).heap.size = w.heap.size + 1 := by simp
  have HB0 := Lib.hid hb0
  simp only [Msg.cells, Msg.zero] at hz0 HB0 HM0
  clear hb0
  have c3 := (HC.out _ HB0.out).bc.cell 3
  simp at c3
  have HMC := Lib.hid (HMS.out _ HB0.out)
  rw [hm] at HMC
  unfold getV at HAG
  generalize (missOf c.M line).1 = mk at HMC
  subst hk
  rw [hab] at HAB
  rw [hro] at HRO
  have HN := Lib.hid (missOf_no hm)
  rw [ht] at HAG
  clear h hg hm ht
  generalize (getA c.A line).getD .zero = x at HAG
  obtain ⟨x0, x1, x2, x3, x4, x5, x6, x7, x8, x9⟩ := x
  simp only [Ent.val] at HAG
  go_enter Tryd.func11, Tryd.ntmps11
  go_wp2_with fail
  generalize w.alloc (.cells #[.int .i64 0, .int .i64 0, .int .i64 0, .int .i64 0, .int .i64 0, .int .i64 0, .int .i64 0, .int .u32 0, .int .u32 0, .int .u32 0, .int .u32 0, .int .u32 0, .bool false] 33) = W at *
  refine HMC.out.mono ?_
  rintro e w1 ⟨rfl, hb1⟩
  have HB1 := Lib.hid (HB0.out.trans (hb1.mono HB0.out.size))
  have HM1 := Lib.hid (HM0.out.below hb1 HM0.out.lt)
  have c2 := (HC.out _ HB1.out).bc.cell 2
  simp at c2
  have HAC := Lib.hid (HAG.out _ HB1.out)
  clear hb1
  go_wp2_with fail
  refine HAC.out.mono ?_
  rintro e w2 ⟨rfl, hb2⟩
  have HB2 := Lib.hid (HB1.out.trans (hb2.mono HB1.out.size))
  have HM2 := Lib.hid (HM1.out.below hb2 HM1.out.lt)
  clear hb2 c2
  have hb3 := HB2.out.alloc HB2.out.size (.cells #[.int .i64 x0, .int .i64 x1, .int .i64 x2, .int .i64 x3, .int .u32 x4, .int .u32 x5, .int .u32 x6, .int .u32 x7, .bool x8, .bool x9] 69)
  have HM3 := Lib.hid (HM2.out.below ((Below.refl w2.heap.size w2).alloc (Nat.le_refl _) (.cells #[.int .i64 x0, .int .i64 x1, .int .i64 x2, .int .i64 x3, .int .u32 x4, .int .u32 x5, .int .u32 x6, .int .u32 x7, .bool x8, .bool x9] 69)) HM2.out.lt)
  have HB3 := Lib.hid hb3
  clear hb3
  go_wp2_with fail
  refine (HAB.out _ HB3.out).mono ?_
  rintro e w4 ⟨rfl, hb4⟩
  have HB4 := Lib.hid (HB3.out.trans (hb4.mono HB3.out.size))
  have HM4 := Lib.hid (HM3.out.below hb4 HM3.out.lt)
  have c2 := (HC.out _ HB4.out).bc.cell 2
  simp at c2
  clear hb4
  go_wp2_with fail
  refine (HRO.out _ HB4.out).mono ?_
  rintro e w5 ⟨rfl, hb5⟩
  have HB5 := Lib.hid (HB4.out.trans (hb5.mono HB4.out.size))
  have HM5 := Lib.hid (HM4.out.below hb5 HM4.out.lt)
  clear hb5 c2
  have c3 := (HC.out _ HB5.out).bc.cell 3
  simp at c3
  go_wp2_with fail
  refine (add_full B L c.M line 2 c.most p tb _ HOK.out.m (HG.out _ HB5.out) (HC.out _ HB5.out).tab ⟨b0, by omega⟩ (by decide) HN.out hfull).mono ?_
  rintro e w6 ⟨rfl, hb6⟩
  unfold errv faultv
  have HB6 := Lib.hid (HB5.out.trans (hb6.mono HB5.out.size))
  have HM6 := Lib.hid (HM5.out.below hb6 HM5.out.lt)
  clear hb6
  go_wp2_with (first | (go_at_call 22; refine (wrap_calls _ _ _ _ _).mono ?_; rintro e wq ⟨rfl, rfl⟩) | (refine wl_store rfl (.tmp 10) (.tmp 117) 33 rfl w.heap.size 0 33 Msg.zero.cells rfl rfl msgSize _ HM6.out (msgOne _) (by simp [Msg.cells]) ?d1))
  case d1 =>
    intro wz hoz hblk
    have HK := Lib.hid (msgOver (m := Msg.zero) (m' := Msg.zero) hblk)
    have HBz := Lib.hid (HB6.out.trans (hoz.below.mono (Nat.le_refl _)))
    clear hoz hblk
    go_wp2
    exact bodyPost_ret (v := .tuple #[Msg.zero.val, erv p line (.two line)]) (results_msg2 Tryd.results11 Msg.zero _ rfl rfl HK.out) rfl ⟨rfl, HF.out _ HBz.out⟩

set_option maxRecDepth 100000 in
set_option maxHeartbeats 2000000 in
theorem want_full_e (B : Nat) (c : Ca) (line kind word v : Int) (p : Nat → Addr) (cb : Nat) (F : List Nat) (w : World) (h : CAt B w cb c F) (hg : Sent B w p) (hbad : badWant line kind word = false) (hm : (missOf c.M line).2 = false) (ht : (getA c.A line).isSome = true) (hk : kind = 3) (hmo : (entC c line).mode ≠ 2) (hfull : c.most ≤ c.M.length) :
    Calls Tryd.prog 11 #[.pointer (some ⟨cb, 0, none⟩), .int .i64 line, .int .i64 kind, .int .i64 word, .int .u32 v] w fun e w' => e = .returned (.tuple #[Msg.zero.val, erv p line (.two line)]) ∧ CStep B w cb F w' c := by
  have HF := Lib.hid (fun w1 (hb : Below w.heap.size w w1) => CStep.same h hb)
  have HLT := Lib.hid h.lt
  have hB := hg.size
  have HG := Lib.hid (fun w1 (hb : Below w.heap.size w w1) => hg.below hb)
  obtain ⟨ab, sb, tb, wbs, L, h, rfl⟩ := h
  have h8 := h.ok.m.most8
  have hlen := h.ok.m.len
  have HC := Lib.hid (fun w1 (hb : Below w.heap.size w w1) => h.below hb)
  have HMS := Lib.hid (fun w1 (hb : Below w.heap.size w w1) => get_calls c.M line c.most tb w1 (by omega) (h.tab.below hb).tab)
  have HAG := Lib.hid (fun w1 (hb : Below w.heap.size w w1) => aget_calls B c.n c.k c.A line ab sb wbs w1 h.ok.a (h.ar.below hb))
  have HOK := Lib.hid h.ok
  have hbc := h.bc.lt
  simp only [badWant, Bool.or_eq_false_iff, decide_eq_false_iff_not, Int.not_lt, Int.not_le] at hbad
  obtain ⟨⟨⟨⟨⟨b0, b1⟩, b2⟩, b3⟩, b4⟩, b5⟩ := hbad
  have hl : within line 0 31 = true := by simp [within]; omega
  have hb0 := (Below.refl w.heap.size w).alloc (Nat.le_refl _) (.cells Msg.zero.cells.toArray 33)
  have HM0 := Lib.hid (blk_new w Msg.zero.cells 33 _ rfl)
  have hz0 : (w.alloc (.cells Msg.zero.cells.toArray 33)).heap.size = w.heap.size + 1 := by simp
  have HB0 := Lib.hid hb0
  simp only [Msg.cells, Msg.zero] at hz0 HB0 HM0
  clear hb0
  have c3 := (HC.out _ HB0.out).bc.cell 3
  simp at c3
  have HMC := Lib.hid (HMS.out _ HB0.out)
  rw [hm] at HMC
  unfold getV at HAG
  generalize (missOf c.M line).1 = mk at HMC
  subst hk
  have HN := Lib.hid (missOf_no hm)
  rw [ht] at HAG
  unfold entC at hmo
  clear h hg hm ht
  generalize (getA c.A line).getD .zero = x at HAG hmo
  obtain ⟨x0, x1, x2, x3, x4, x5, x6, x7, x8, x9⟩ := x
  simp only [Ent.val] at HAG hmo
  have hmo1 : (x2 == 2) = false := by simpa using hmo
  have hmo2 : (x2 != 2) = true := by simpa using hmo
  clear hmo
  go_enter Tryd.func11, Tryd.ntmps11
  go_wp2_with fail
  generalize w.alloc (.cells #[.int .i64 0, .int .i64 0, .int .i64 0, .int .i64 0, .int .i64 0, .int .i64 0, .int .i64 0, .int .u32 0, .int .u32 0, .int .u32 0, .int .u32 0, .int .u32 0, .bool false] 33) = W at *
  refine HMC.out.mono ?_
  rintro e w1 ⟨rfl, hb1⟩
  have HB1 := Lib.hid (HB0.out.trans (hb1.mono HB0.out.size))
  have HM1 := Lib.hid (HM0.out.below hb1 HM0.out.lt)
  have c2 := (HC.out _ HB1.out).bc.cell 2
  simp at c2
  have HAC := Lib.hid (HAG.out _ HB1.out)
  clear hb1
  go_wp2_with fail
  refine HAC.out.mono ?_
  rintro e w2 ⟨rfl, hb2⟩
  have HB2 := Lib.hid (HB1.out.trans (hb2.mono HB1.out.size))
  have HM2 := Lib.hid (HM1.out.below hb2 HM1.out.lt)
  clear hb2 c2
  have hb3 := HB2.out.alloc HB2.out.size (.cells #[.int .i64 x0, .int .i64 x1, .int .i64 x2, .int .i64 x3, .int .u32 x4, .int .u32 x5, .int .u32 x6, .int .u32 x7, .bool x8, .bool x9] 69)
  have HM3 := Lib.hid (HM2.out.below ((Below.refl w2.heap.size w2).alloc (Nat.le_refl _) (.cells #[.int .i64 x0, .int .i64 x1, .int .i64 x2, .int .i64 x3, .int .u32 x4, .int .u32 x5, .int .u32 x6, .int .u32 x7, .bool x8, .bool x9] 69)) HM2.out.lt)
  have HB3 := Lib.hid hb3
  clear hb3
  have c3 := (HC.out _ HB3.out).bc.cell 3
  simp at c3
  go_wp2_with fail
  refine (add_full B L c.M line 2 c.most p tb _ HOK.out.m (HG.out _ HB3.out) (HC.out _ HB3.out).tab ⟨b0, by omega⟩ (by decide) HN.out hfull).mono ?_
  rintro e w6 ⟨rfl, hb6⟩
  unfold errv faultv
  have HB6 := Lib.hid (HB3.out.trans (hb6.mono HB3.out.size))
  have HM6 := Lib.hid (HM3.out.below hb6 HM3.out.lt)
  clear hb6
  go_wp2_with (first | (go_at_call 22; refine (wrap_calls _ _ _ _ _).mono ?_; rintro e wq ⟨rfl, rfl⟩) | (refine wl_store rfl (.tmp 10) (.tmp 117) 33 rfl w.heap.size 0 33 Msg.zero.cells rfl rfl msgSize _ HM6.out (msgOne _) (by simp [Msg.cells]) ?d1))
  case d1 =>
    intro wz hoz hblk
    have HK := Lib.hid (msgOver (m := Msg.zero) (m' := Msg.zero) hblk)
    have HBz := Lib.hid (HB6.out.trans (hoz.below.mono (Nat.le_refl _)))
    clear hoz hblk
    go_wp2
    exact bodyPost_ret (v := .tuple #[Msg.zero.val, erv p line (.two line)]) (results_msg2 Tryd.results11 Msg.zero _ rfl rfl HK.out) rfl ⟨rfl, HF.out _ HBz.out⟩

set_option maxRecDepth 100000 in
set_option maxHeartbeats 2000000 in
theorem want_full_f (B : Nat) (c : Ca) (line kind word v : Int) (p : Nat → Addr) (cb : Nat) (F : List Nat) (w : World) (h : CAt B w cb c F) (hg : Sent B w p) (hbad : badWant line kind word = false) (hm : (missOf c.M line).2 = false) (ht : (getA c.A line).isSome = true) (hk : kind = 3) (hmo : (entC c line).mode = 2) (hfull : c.most ≤ c.M.length) :
    Calls Tryd.prog 11 #[.pointer (some ⟨cb, 0, none⟩), .int .i64 line, .int .i64 kind, .int .i64 word, .int .u32 v] w fun e w' => e = .returned (.tuple #[Msg.zero.val, erv p line (.two line)]) ∧ CStep B w cb F w' c := by
  have HF := Lib.hid (fun w1 (hb : Below w.heap.size w w1) => CStep.same h hb)
  have HLT := Lib.hid h.lt
  have hB := hg.size
  have HG := Lib.hid (fun w1 (hb : Below w.heap.size w w1) => hg.below hb)
  obtain ⟨ab, sb, tb, wbs, L, h, rfl⟩ := h
  have h8 := h.ok.m.most8
  have hlen := h.ok.m.len
  have HC := Lib.hid (fun w1 (hb : Below w.heap.size w w1) => h.below hb)
  have HMS := Lib.hid (fun w1 (hb : Below w.heap.size w w1) => get_calls c.M line c.most tb w1 (by omega) (h.tab.below hb).tab)
  have HAG := Lib.hid (fun w1 (hb : Below w.heap.size w w1) => aget_calls B c.n c.k c.A line ab sb wbs w1 h.ok.a (h.ar.below hb))
  have HOK := Lib.hid h.ok
  have hbc := h.bc.lt
  simp only [badWant, Bool.or_eq_false_iff, decide_eq_false_iff_not, Int.not_lt, Int.not_le] at hbad
  obtain ⟨⟨⟨⟨⟨b0, b1⟩, b2⟩, b3⟩, b4⟩, b5⟩ := hbad
  have hl : within line 0 31 = true := by simp [within]; omega
  have hb0 := (Below.refl w.heap.size w).alloc (Nat.le_refl _) (.cells Msg.zero.cells.toArray 33)
  have HM0 := Lib.hid (blk_new w Msg.zero.cells 33 _ rfl)
  have hz0 : (w.alloc (.cells Msg.zero.cells.toArray 33)).heap.size = w.heap.size + 1 := by simp
  have HB0 := Lib.hid hb0
  simp only [Msg.cells, Msg.zero] at hz0 HB0 HM0
  clear hb0
  have c3 := (HC.out _ HB0.out).bc.cell 3
  simp at c3
  have HMC := Lib.hid (HMS.out _ HB0.out)
  rw [hm] at HMC
  unfold getV at HAG
  generalize (missOf c.M line).1 = mk at HMC
  subst hk
  have HN := Lib.hid (missOf_no hm)
  rw [ht] at HAG
  unfold entC at hmo
  clear h hg hm ht
  generalize (getA c.A line).getD .zero = x at HAG hmo
  obtain ⟨x0, x1, x2, x3, x4, x5, x6, x7, x8, x9⟩ := x
  simp only [Ent.val] at HAG hmo
  subst hmo
  go_enter Tryd.func11, Tryd.ntmps11
  go_wp2_with fail
  generalize w.alloc (.cells #[.int .i64 0, .int .i64 0, .int .i64 0, .int .i64 0, .int .i64 0, .int .i64 0, .int .i64 0, .int .u32 0, .int .u32 0, .int .u32 0, .int .u32 0, .int .u32 0, .bool false] 33) = W at *
  refine HMC.out.mono ?_
  rintro e w1 ⟨rfl, hb1⟩
  have HB1 := Lib.hid (HB0.out.trans (hb1.mono HB0.out.size))
  have HM1 := Lib.hid (HM0.out.below hb1 HM0.out.lt)
  have c2 := (HC.out _ HB1.out).bc.cell 2
  simp at c2
  have HAC := Lib.hid (HAG.out _ HB1.out)
  clear hb1
  go_wp2_with fail
  refine HAC.out.mono ?_
  rintro e w2 ⟨rfl, hb2⟩
  have HB2 := Lib.hid (HB1.out.trans (hb2.mono HB1.out.size))
  have HM2 := Lib.hid (HM1.out.below hb2 HM1.out.lt)
  clear hb2 c2
  have hb3 := HB2.out.alloc HB2.out.size (.cells #[.int .i64 x0, .int .i64 x1, .int .i64 2, .int .i64 x3, .int .u32 x4, .int .u32 x5, .int .u32 x6, .int .u32 x7, .bool x8, .bool x9] 69)
  have HM3 := Lib.hid (HM2.out.below ((Below.refl w2.heap.size w2).alloc (Nat.le_refl _) (.cells #[.int .i64 x0, .int .i64 x1, .int .i64 2, .int .i64 x3, .int .u32 x4, .int .u32 x5, .int .u32 x6, .int .u32 x7, .bool x8, .bool x9] 69)) HM2.out.lt)
  have HB3 := Lib.hid hb3
  clear hb3
  have c3 := (HC.out _ HB3.out).bc.cell 3
  simp at c3
  go_wp2_with fail
  refine (add_full B L c.M line 3 c.most p tb _ HOK.out.m (HG.out _ HB3.out) (HC.out _ HB3.out).tab ⟨b0, by omega⟩ (by decide) HN.out hfull).mono ?_
  rintro e w6 ⟨rfl, hb6⟩
  unfold errv faultv
  have HB6 := Lib.hid (HB3.out.trans (hb6.mono HB3.out.size))
  have HM6 := Lib.hid (HM3.out.below hb6 HM3.out.lt)
  clear hb6
  go_wp2_with (first | (go_at_call 22; refine (wrap_calls _ _ _ _ _).mono ?_; rintro e wq ⟨rfl, rfl⟩) | (refine wl_store rfl (.tmp 10) (.tmp 117) 33 rfl w.heap.size 0 33 Msg.zero.cells rfl rfl msgSize _ HM6.out (msgOne _) (by simp [Msg.cells]) ?d1))
  case d1 =>
    intro wz hoz hblk
    have HK := Lib.hid (msgOver (m := Msg.zero) (m' := Msg.zero) hblk)
    have HBz := Lib.hid (HB6.out.trans (hoz.below.mono (Nat.le_refl _)))
    clear hoz hblk
    go_wp2
    exact bodyPost_ret (v := .tuple #[Msg.zero.val, erv p line (.two line)]) (results_msg2 Tryd.results11 Msg.zero _ rfl rfl HK.out) rfl ⟨rfl, HF.out _ HBz.out⟩

end Go.Proofs.YtnieambhpmnliaaDoor
