/- A cache: Forward: a line that is not there. Printed by gen_fwd.py. -/
import Derived.Test.YtnieambhpmnliaaDoorFwd
import Derived.Deep.DeepCutAuto
import Derived.Deep.RegionHeld3
namespace Go.Proofs.YtnieambhpmnliaaDoor
set_option linter.all false
set_option linter.unusedVariables false
set_option linter.unusedSimpArgs false
open Go Go.RowKit Go.Sort

set_option maxRecDepth 100000 in
set_option maxHeartbeats 4000000 in
theorem fwd_gone_keep (B : Nat) (c : Ca) (m : Msg) (p : Nat → Addr) (cb : Nat) (F : List Nat) (w : World) (h : CAt B w cb c F) (hB : B ≤ w.heap.size) (hmi : mineC c m 1 = true) (hs : (getA c.A m.line).isSome = false) (hd : m.kind = 10 → (missOf c.M m.line).1 ≠ 4) :
    Calls Tryd.prog 16 #[.pointer (some ⟨cb, 0, none⟩), m.val] w fun e w' => e = .returned (.tuple #[Msg.val { Msg.zero with kind := 11, core := c.core, line := m.line }, .bool true]) ∧ CStep B w cb F w' c := by
  have HF := Lib.hid (fun w1 (hb : Below w.heap.size w w1) => CStep.same h hb)
  have HLT := Lib.hid h.lt
  have HMI := Lib.hid (fun w1 (hb : Below w.heap.size w w1) => mine_calls B c m 1 cb F w1 (h.below hb))
  have HRI := Lib.hid (mine_right hmi)
  obtain ⟨hl', hwd, hst, hmd, hep⟩ := right_facts HRI.out.1
  have HWL := Lib.hid hl'
  clear hl'
  obtain ⟨ab, sb, tb, wbs, L, h, rfl⟩ := h
  have h8 := h.ok.m.most8
  have hlen := h.ok.m.len
  have HC := Lib.hid (fun w1 (hb : Below w.heap.size w w1) => h.below hb)
  have HMS := Lib.hid (fun w1 (hb : Below w.heap.size w w1) => get_calls c.M m.line c.most tb w1 (by omega) (h.tab.below hb).tab)
  have HAG := Lib.hid (fun w1 (hb : Below w.heap.size w w1) => aget_calls B c.n c.k c.A m.line ab sb wbs w1 h.ok.a (h.ar.below hb))
  have HOK := Lib.hid h.ok
  have hbc := h.bc.lt
  rw [hmi] at HMI
  unfold getV at HAG
  rw [hs] at HAG
  generalize (getA c.A m.line).getD .zero = x at HAG
  obtain ⟨x0, x1, x2, x3, x4, x5, x6, x7, x8, x9⟩ := x
  simp only [Ent.val] at HAG
  generalize (missOf c.M m.line).1 = mk at HMS hd
  generalize (missOf c.M m.line).2 = mb at HMS
  have hkd : (m.kind == 10) = false ∨ ((m.kind == 10) = true ∧ (mk == 4) = false) := by
    cases hq : (m.kind == 10)
    · exact Or.inl rfl
    · exact Or.inr ⟨rfl, by simpa using hd (by simpa using hq)⟩
  have HKD := Lib.hid hkd
  clear h hmi hs hd hkd
  have HMB := Lib.hid (blk_new w m.cells 33 _ rfl)
  have hb0 := ((Below.refl w.heap.size w).alloc (Nat.le_refl _) (.cells m.cells.toArray 33)).alloc (by simp) (.cells Msg.zero.cells.toArray 33)
  have HMB0 := Lib.hid (HMB.out.below ((Below.refl _ _).alloc (Nat.le_refl _) (.cells Msg.zero.cells.toArray 33)) HMB.out.lt)
  have HRB0 := Lib.hid (blk_new (w.alloc (.cells m.cells.toArray 33)) Msg.zero.cells 33 (w.heap.size + 1) (by simp))
  have hz0 : ((w.alloc (.cells m.cells.toArray 33)).alloc (.cells Msg.zero.cells.toArray 33)).heap.size = w.heap.size + 2 := by simp
  have HB0 := Lib.hid hb0
  clear HMB hb0
  obtain ⟨r1, r2, r3, r4, r5, r6, r7, r8, r9, r10, r11, r12, r13⟩ := m
  simp only [Msg.cells, Msg.val, Msg.zero] at *
  go_enter Tryd.func16, Tryd.ntmps16
  go_wp2_with fail
  generalize (w.alloc (.cells #[.int .i64 r1, .int .i64 r2, .int .i64 r3, .int .i64 r4, .int .i64 r5, .int .i64 r6, .int .i64 r7, .int .u32 r8, .int .u32 r9, .int .u32 r10, .int .u32 r11, .int .u32 r12, .bool r13] 33)).alloc (.cells #[.int .i64 0, .int .i64 0, .int .i64 0, .int .i64 0, .int .i64 0, .int .i64 0, .int .i64 0, .int .u32 0, .int .u32 0, .int .u32 0, .int .u32 0, .int .u32 0, .bool false] 33) = W at *
  refine (HMI.out _ HB0.out).mono ?_
  rintro e w1 ⟨rfl, hb1⟩
  have HB1 := Lib.hid (HB0.out.trans (hb1.mono HB0.out.size))
  have HMB1 := Lib.hid (HMB0.out.below hb1 HMB0.out.lt)
  have HRB1 := Lib.hid (HRB0.out.below hb1 HRB0.out.lt)
  clear hb1
  have c2 := (HC.out _ HB1.out).bc.cell 2
  simp at c2
  have m2 := (msgAt (m := ⟨r1, r2, r3, r4, r5, r6, r7, r8, r9, r10, r11, r12, r13⟩) HMB1.out).c2
  have hz1 : w.heap.size + 2 ≤ w1.heap.size := by have := HRB1.out.lt; omega
  simp only at m2
  have hcb1 : cb < w1.heap.size := by omega
  have hcm1 : w.heap.size < w1.heap.size := by omega
  go_wp2_with fail
  go_cut [6, 7] (fun s6 s7 wx => ∃ g : Nat, s6 = .pointer (some ⟨g, 0, none⟩) ∧ s7 = .bool false ∧ Below w1.heap.size w1 wx ∧ w1.heap.size ≤ g ∧ Hid (Blk wx g 69 (Ent.cells ⟨x0, x1, x2, x3, x4, x5, x6, x7, x8, x9⟩)))
  case first =>
    go_region_held3 (fun w' => w'.cell? ⟨cb, 2, none⟩ = some (.pointer (some ⟨ab, 0, none⟩)) ∧ w'.cell? ⟨w.heap.size, 2, none⟩ = some (.int .i64 r3)) (first | (go_keep; done) | (refine ⟨?_, ?_⟩ <;> first | (go_keep; done) | (simp [World.cell?_setCell_other, *]; done))) ((go_at_call 26; refine (HAG.out _ (by first | exact HB1.out.drew | exact (Below.alloc HB1.out HB1.out.size _).drew)).mono ?_; rintro e w3 ⟨rfl, hb3⟩; have q1 := hb3.cell (p := ⟨cb, 2, none⟩) (by simp; omega); have q2 := hb3.cell (p := ⟨w.heap.size, 2, none⟩) (by simp; try omega); simp [World.cell?_alloc_lt, hcb1, hcm1, Nat.ne_of_lt hcb1, Nat.ne_of_lt hcm1, c2, m2] at q1 q2; first | (have hz : Blk w3 w1.heap.size 69 Ent.zero.cells := Blk.below (blk_newd _ Ent.zero.cells _ _ (by simp)) hb3 (by simp); obtain ⟨z0, z1, z2, z3, z4, z5, z6, z7, z8, z9⟩ := entAt0 hz; obtain ⟨y0, y1, y2, y3, y4, y5, y6, y7, y8, y9⟩ := entFree hz; simp only [Nat.zero_add] at z1 z2 z3 z4 z5 z6 z7 z8 z9; have HZ := Lib.hid hz; clear hz) | skip))
    · have hw3 : Below w1.heap.size w1 w3 := ((Below.refl _ w1).drew).trans (hb3.mono (by simp))
      have HAl := Lib.hid (fun o : Obj => Below.alloc hw3 hw3.size o)
      have hz3 := hw3.size
      clear hb3 hw3 q1 q2
      go_wp2_with fail
      go_meet
      exact ⟨w3.heap.size, rfl, rfl, HAl.out _, hz3, blk_new _ (Ent.cells ⟨x0, x1, x2, x3, x4, x5, x6, x7, x8, x9⟩) _ _ rfl⟩
    · have hw3 : Below w1.heap.size w1 w3 := (((Below.refl _ w1).alloc (Nat.le_refl _) _).drew).trans (hb3.mono (by simp))
      have HW3 := Lib.hid hw3
      clear hb3 hw3 q1 q2
      go_wp2_with fail
      go_meet
      obtain ⟨po, pb⟩ := put10 HZ.out x0 x1 x2 x3 x4 x5 x6 x7 x8 x9
      exact ⟨_, rfl, rfl, HW3.out.trans (po.below.mono (Nat.le_refl _)), Nat.le_refl _, pb⟩
  case rest =>
  obtain ⟨ge, rfl, rfl, hwx, hge, HE2⟩ := hcut
  have HB2 := Lib.hid (HB1.out.trans (hwx.mono HB1.out.size))
  have HMB2 := Lib.hid (HMB1.out.below hwx HMB1.out.lt)
  have HRB2 := Lib.hid (HRB1.out.below hwx HRB1.out.lt)
  clear hwx c2 m2
  have c3 := (HC.out _ HB2.out).bc.cell 3
  simp at c3
  have m0 := (msgAt (m := ⟨r1, r2, r3, r4, r5, r6, r7, r8, r9, r10, r11, r12, r13⟩) HMB2.out).c2
  simp only at m0
  have k3 := cell_regrown c3
  have km := cell_regrown m0
  have HG6 := Lib.hid (fun d os => Calls.regrown_of (w := wc) (d := d) (os := os) (HMS.out _ (HB2.out.trans ((below_regrown wc d os).mono HB2.out.size))))
  clear c3 m0
  go_wp2_with fail
  refine wp_region_quiet_below (by kernel_rfl) (by kernel_rfl) ?_
  repeat (go_big_quiet_step (exact HG6.out _ _))
  refine wpQuiet_nil ?_
  intro _ hw'
  obtain ⟨⟨dq, osq⟩, hw''⟩ := hw'
  subst hw''
  have hb4 := below_regrown wc dq osq
  clear k3 km
  generalize grow (redrawn wc dq) osq = w4 at hb4 ⊢
  have HB4 := Lib.hid (HB2.out.trans (hb4.mono HB2.out.size))
  have HMB4 := Lib.hid (HMB2.out.below hb4 HMB2.out.lt)
  have HRB4 := Lib.hid (HRB2.out.below hb4 HRB2.out.lt)
  have HE4 := Lib.hid (HE2.out.below hb4 HE2.out.lt)
  clear hb4
  have m0 := (msgAt (m := ⟨r1, r2, r3, r4, r5, r6, r7, r8, r9, r10, r11, r12, r13⟩) HMB4.out).c0
  simp only at m0
  rcases HKD.out with hk | ⟨hk, hk4⟩
  all_goals
    have c0 := (HC.out _ HB4.out).bc.cell 0
    simp at c0
    have m2 := (msgAt (m := ⟨r1, r2, r3, r4, r5, r6, r7, r8, r9, r10, r11, r12, r13⟩) HMB4.out).c2
    simp only at m2
    have hcb9 := (HC.out _ HB4.out).bc.lt
    have hcm9 := HMB4.out.lt
    have hrb9 := HRB4.out.lt
    go_wp2_with fail
    go_region_held3 (fun w' => w'.cell? ⟨cb, 0, none⟩ = some (.int .i64 c.core) ∧ w'.cell? ⟨w.heap.size, 2, none⟩ = some (.int .i64 r3)) (first | (go_keep; done) | (refine ⟨?_, ?_⟩ <;> first | (go_keep; done) | (simp [World.cell?_setCell_other, *]; done))) (fail)
    clear c0 m2
    go_wp2_with (refine wl_store rfl (.tmp 4) (.tmp 65) 33 rfl (w.heap.size + 1) 0 33 (Msg.cells { Msg.zero with kind := 11, core := c.core, line := r3 }) rfl rfl msgSize _ (HRB4.out.below (Below.alloc (Below.refl _ _) (Nat.le_refl _) _).drew HRB4.out.lt) (msgOne _) (by simp [Msg.cells]) ?d1)
    case d1 =>
      intro wz hoz hblk
      have HK := Lib.hid (msgOver (m := Msg.zero) (m' := { Msg.zero with kind := 11, core := c.core, line := r3 }) hblk)
      have HBz := Lib.hid (HF.out _ ((HB4.out.trans ((Below.alloc (Below.refl _ _) (Nat.le_refl _) _).drew.mono HB4.out.size)).trans (hoz.below.mono (by omega))))
      clear hoz hblk
      go_wp2
      exact bodyPost_ret (v := .tuple #[Msg.val { Msg.zero with kind := 11, core := c.core, line := r3 }, .bool true]) (results_msg2 Tryd.results16 { Msg.zero with kind := 11, core := c.core, line := r3 } _ rfl rfl HK.out) rfl ⟨rfl, HBz.out⟩

set_option maxRecDepth 100000 in
set_option maxHeartbeats 4000000 in
theorem fwd_gone_drop (B : Nat) (c : Ca) (m : Msg) (p : Nat → Addr) (cb : Nat) (F : List Nat) (w : World) (h : CAt B w cb c F) (hB : B ≤ w.heap.size) (hmi : mineC c m 1 = true) (hs : (getA c.A m.line).isSome = false) (hk : m.kind = 10) (hd : (missOf c.M m.line).1 = 4) :
    Calls Tryd.prog 16 #[.pointer (some ⟨cb, 0, none⟩), m.val] w fun e w' => e = .returned (.tuple #[Msg.val { Msg.zero with kind := 11, core := c.core, line := m.line }, .bool true]) ∧ CStep B w cb F w' { c with M := dropM c.M m.line } := by
  have HF := Lib.hid (fun w1 (hb : Below w.heap.size w w1) => CStep.same h hb)
  have HLT := Lib.hid h.lt
  have HMI := Lib.hid (fun w1 (hb : Below w.heap.size w w1) => mine_calls B c m 1 cb F w1 (h.below hb))
  have HRI := Lib.hid (mine_right hmi)
  obtain ⟨hl', hwd, hst, hmd, hep⟩ := right_facts HRI.out.1
  have HWL := Lib.hid hl'
  clear hl'
  obtain ⟨ab, sb, tb, wbs, L, h, rfl⟩ := h
  have h8 := h.ok.m.most8
  have hlen := h.ok.m.len
  have HC := Lib.hid (fun w1 (hb : Below w.heap.size w w1) => h.below hb)
  have HMS := Lib.hid (fun w1 (hb : Below w.heap.size w w1) => get_calls c.M m.line c.most tb w1 (by omega) (h.tab.below hb).tab)
  have HAG := Lib.hid (fun w1 (hb : Below w.heap.size w w1) => aget_calls B c.n c.k c.A m.line ab sb wbs w1 h.ok.a (h.ar.below hb))
  have HOK := Lib.hid h.ok
  have hbc := h.bc.lt
  rw [hmi] at HMI
  unfold getV at HAG
  rw [hs] at HAG
  generalize (getA c.A m.line).getD .zero = x at HAG
  obtain ⟨x0, x1, x2, x3, x4, x5, x6, x7, x8, x9⟩ := x
  simp only [Ent.val] at HAG
  rw [hd] at HMS
  generalize (missOf c.M m.line).2 = mb at HMS
  have HKK := Lib.hid hk
  clear h hmi hs hd hk
  have HMB := Lib.hid (blk_new w m.cells 33 _ rfl)
  have hb0 := ((Below.refl w.heap.size w).alloc (Nat.le_refl _) (.cells m.cells.toArray 33)).alloc (by simp) (.cells Msg.zero.cells.toArray 33)
  have HMB0 := Lib.hid (HMB.out.below ((Below.refl _ _).alloc (Nat.le_refl _) (.cells Msg.zero.cells.toArray 33)) HMB.out.lt)
  have HRB0 := Lib.hid (blk_new (w.alloc (.cells m.cells.toArray 33)) Msg.zero.cells 33 (w.heap.size + 1) (by simp))
  have hz0 : ((w.alloc (.cells m.cells.toArray 33)).alloc (.cells Msg.zero.cells.toArray 33)).heap.size = w.heap.size + 2 := by simp
  have HB0 := Lib.hid hb0
  clear HMB hb0
  obtain ⟨r1, r2, r3, r4, r5, r6, r7, r8, r9, r10, r11, r12, r13⟩ := m
  simp only [Msg.cells, Msg.val, Msg.zero] at *
  go_enter Tryd.func16, Tryd.ntmps16
  go_wp2_with fail
  generalize (w.alloc (.cells #[.int .i64 r1, .int .i64 r2, .int .i64 r3, .int .i64 r4, .int .i64 r5, .int .i64 r6, .int .i64 r7, .int .u32 r8, .int .u32 r9, .int .u32 r10, .int .u32 r11, .int .u32 r12, .bool r13] 33)).alloc (.cells #[.int .i64 0, .int .i64 0, .int .i64 0, .int .i64 0, .int .i64 0, .int .i64 0, .int .i64 0, .int .u32 0, .int .u32 0, .int .u32 0, .int .u32 0, .int .u32 0, .bool false] 33) = W at *
  refine (HMI.out _ HB0.out).mono ?_
  rintro e w1 ⟨rfl, hb1⟩
  have HB1 := Lib.hid (HB0.out.trans (hb1.mono HB0.out.size))
  have HMB1 := Lib.hid (HMB0.out.below hb1 HMB0.out.lt)
  have HRB1 := Lib.hid (HRB0.out.below hb1 HRB0.out.lt)
  clear hb1
  have c2 := (HC.out _ HB1.out).bc.cell 2
  simp at c2
  have m2 := (msgAt (m := ⟨r1, r2, r3, r4, r5, r6, r7, r8, r9, r10, r11, r12, r13⟩) HMB1.out).c2
  have hz1 : w.heap.size + 2 ≤ w1.heap.size := by have := HRB1.out.lt; omega
  simp only at m2
  have hcb1 : cb < w1.heap.size := by omega
  have hcm1 : w.heap.size < w1.heap.size := by omega
  go_wp2_with fail
  go_cut [6, 7] (fun s6 s7 wx => ∃ g : Nat, s6 = .pointer (some ⟨g, 0, none⟩) ∧ s7 = .bool false ∧ Below w1.heap.size w1 wx ∧ w1.heap.size ≤ g ∧ Hid (Blk wx g 69 (Ent.cells ⟨x0, x1, x2, x3, x4, x5, x6, x7, x8, x9⟩)))
  case first =>
    go_region_held3 (fun w' => w'.cell? ⟨cb, 2, none⟩ = some (.pointer (some ⟨ab, 0, none⟩)) ∧ w'.cell? ⟨w.heap.size, 2, none⟩ = some (.int .i64 r3)) (first | (go_keep; done) | (refine ⟨?_, ?_⟩ <;> first | (go_keep; done) | (simp [World.cell?_setCell_other, *]; done))) ((go_at_call 26; refine (HAG.out _ (by first | exact HB1.out.drew | exact (Below.alloc HB1.out HB1.out.size _).drew)).mono ?_; rintro e w3 ⟨rfl, hb3⟩; have q1 := hb3.cell (p := ⟨cb, 2, none⟩) (by simp; omega); have q2 := hb3.cell (p := ⟨w.heap.size, 2, none⟩) (by simp; try omega); simp [World.cell?_alloc_lt, hcb1, hcm1, Nat.ne_of_lt hcb1, Nat.ne_of_lt hcm1, c2, m2] at q1 q2; first | (have hz : Blk w3 w1.heap.size 69 Ent.zero.cells := Blk.below (blk_newd _ Ent.zero.cells _ _ (by simp)) hb3 (by simp); obtain ⟨z0, z1, z2, z3, z4, z5, z6, z7, z8, z9⟩ := entAt0 hz; obtain ⟨y0, y1, y2, y3, y4, y5, y6, y7, y8, y9⟩ := entFree hz; simp only [Nat.zero_add] at z1 z2 z3 z4 z5 z6 z7 z8 z9; have HZ := Lib.hid hz; clear hz) | skip))
    · have hw3 : Below w1.heap.size w1 w3 := ((Below.refl _ w1).drew).trans (hb3.mono (by simp))
      have HAl := Lib.hid (fun o : Obj => Below.alloc hw3 hw3.size o)
      have hz3 := hw3.size
      clear hb3 hw3 q1 q2
      go_wp2_with fail
      go_meet
      exact ⟨w3.heap.size, rfl, rfl, HAl.out _, hz3, blk_new _ (Ent.cells ⟨x0, x1, x2, x3, x4, x5, x6, x7, x8, x9⟩) _ _ rfl⟩
    · have hw3 : Below w1.heap.size w1 w3 := (((Below.refl _ w1).alloc (Nat.le_refl _) _).drew).trans (hb3.mono (by simp))
      have HW3 := Lib.hid hw3
      clear hb3 hw3 q1 q2
      go_wp2_with fail
      go_meet
      obtain ⟨po, pb⟩ := put10 HZ.out x0 x1 x2 x3 x4 x5 x6 x7 x8 x9
      exact ⟨_, rfl, rfl, HW3.out.trans (po.below.mono (Nat.le_refl _)), Nat.le_refl _, pb⟩
  case rest =>
  obtain ⟨ge, rfl, rfl, hwx, hge, HE2⟩ := hcut
  have HB2 := Lib.hid (HB1.out.trans (hwx.mono HB1.out.size))
  have HMB2 := Lib.hid (HMB1.out.below hwx HMB1.out.lt)
  have HRB2 := Lib.hid (HRB1.out.below hwx HRB1.out.lt)
  clear hwx c2 m2
  have c3 := (HC.out _ HB2.out).bc.cell 3
  simp at c3
  have m0 := (msgAt (m := ⟨r1, r2, r3, r4, r5, r6, r7, r8, r9, r10, r11, r12, r13⟩) HMB2.out).c2
  simp only at m0
  have k3 := cell_regrown c3
  have km := cell_regrown m0
  have HG6 := Lib.hid (fun d os => Calls.regrown_of (w := wc) (d := d) (os := os) (HMS.out _ (HB2.out.trans ((below_regrown wc d os).mono HB2.out.size))))
  clear c3 m0
  go_wp2_with fail
  refine wp_region_quiet_below (by kernel_rfl) (by kernel_rfl) ?_
  repeat (go_big_quiet_step (exact HG6.out _ _))
  refine wpQuiet_nil ?_
  intro _ hw'
  obtain ⟨⟨dq, osq⟩, hw''⟩ := hw'
  subst hw''
  have hb4 := below_regrown wc dq osq
  clear k3 km
  generalize grow (redrawn wc dq) osq = w4 at hb4 ⊢
  have HB4 := Lib.hid (HB2.out.trans (hb4.mono HB2.out.size))
  have HMB4 := Lib.hid (HMB2.out.below hb4 HMB2.out.lt)
  have HRB4 := Lib.hid (HRB2.out.below hb4 HRB2.out.lt)
  have HE4 := Lib.hid (HE2.out.below hb4 HE2.out.lt)
  clear hb4
  have m0 := (msgAt (m := ⟨r1, r2, r3, r4, r5, r6, r7, r8, r9, r10, r11, r12, r13⟩) HMB4.out).c0
  simp only at m0
  have hk : (r1 == 10) = true := by have := HKK.out; simpa using this
  have c3 := (HC.out _ HB4.out).bc.cell 3
  have m2 := (msgAt (m := ⟨r1, r2, r3, r4, r5, r6, r7, r8, r9, r10, r11, r12, r13⟩) HMB4.out).c2
  simp at c3
  simp only at m2
  go_wp2_with fail
  go_still_tail 6, (by kernel_rfl)
  change wpList _ _ _ _ _ w4.drew
  have hb4d := HB4.out.drew
  have HMB4d : Hid (Blk w4.drew _ _ _) := HMB4.out
  have HRB4d : Hid (Blk w4.drew _ _ _) := HRB4.out
  have HE4d : Hid (Blk w4.drew _ _ _) := HE4.out
  clear c3 m2 m0
  generalize w4.drew = w5 at hb4d HMB4d HRB4d HE4d ⊢
  go_wp2_with fail
  refine (mdrop_calls B L c.M r3 c.most tb w5 (by omega) (Nat.le_trans hB hb4d.size) (HC.out _ hb4d).tab).mono ?_
  rintro e w6 ⟨⟨b6, rfl⟩, ⟨L', hT, hG⟩, hf6, hl6⟩
  have HC6 := Lib.hid ((HC.out _ hb4d).mdone hT hf6 (dropM_ok c.M r3 c.most HOK.out.m))
  have HS6 := Lib.hid ((HC.out _ hb4d).mstep hT hG hf6 hl6 (dropM_ok c.M r3 c.most HOK.out.m))
  have HMB6 := Lib.hid (HMB4d.out.fr hf6 (by decide))
  have HRB6 := Lib.hid (HRB4d.out.fr hf6 (by decide))
  have HE6 := Lib.hid (HE4d.out.fr hf6 (by decide))
  have HB5 := Lib.hid hb4d
  clear hT hG hf6 hl6 hb4d
  have c0 := (HC6.out).bc.cell 0
  simp at c0
  have m2 := (msgAt (m := ⟨r1, r2, r3, r4, r5, r6, r7, r8, r9, r10, r11, r12, r13⟩) HMB6.out).c2
  simp only at m2
  have hcb9 := (HC6.out).bc.lt
  have hcm9 := HMB6.out.lt
  have hrb9 := HRB6.out.lt
  go_wp2_with fail
  go_region_held3 (fun w' => w'.cell? ⟨cb, 0, none⟩ = some (.int .i64 c.core) ∧ w'.cell? ⟨w.heap.size, 2, none⟩ = some (.int .i64 r3)) (first | (go_keep; done) | (refine ⟨?_, ?_⟩ <;> first | (go_keep; done) | (simp [World.cell?_setCell_other, *]; done))) (fail)
  clear c0 m2
  go_wp2_with (refine wl_store rfl (.tmp 4) (.tmp 65) 33 rfl (w.heap.size + 1) 0 33 (Msg.cells { Msg.zero with kind := 11, core := c.core, line := r3 }) rfl rfl msgSize _ (HRB6.out.below (Below.alloc (Below.refl _ _) (Nat.le_refl _) _).drew HRB6.out.lt) (msgOne _) (by simp [Msg.cells]) ?d1)
  case d1 =>
    intro wz hoz hblk
    have HK := Lib.hid (msgOver (m := Msg.zero) (m' := { Msg.zero with kind := 11, core := c.core, line := r3 }) hblk)
    have HBz := Lib.hid ((HS6.out.post (Below.alloc (Below.refl _ _) (Nat.le_refl _) _).drew).only HB5.out HLT.out (by omega) HRB4d.out.lt hoz)
    clear hoz hblk
    go_wp2
    exact bodyPost_ret (v := .tuple #[Msg.val { Msg.zero with kind := 11, core := c.core, line := r3 }, .bool true]) (results_msg2 Tryd.results16 { Msg.zero with kind := 11, core := c.core, line := r3 } _ rfl rfl HK.out) rfl ⟨rfl, HBz.out⟩

end Go.Proofs.YtnieambhpmnliaaDoor
