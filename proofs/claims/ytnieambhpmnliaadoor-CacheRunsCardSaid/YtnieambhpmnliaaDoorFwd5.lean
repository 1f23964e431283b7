/- A cache: Forward: a line that is there. Printed by gen_fwd.py. -/
import Derived.Test.YtnieambhpmnliaaDoorFwd3
import Derived.Deep.DeepCutAuto
import Derived.Deep.RegionHeld3
namespace Go.Proofs.YtnieambhpmnliaaDoor
set_option linter.all false
set_option linter.unusedVariables false
set_option linter.unusedSimpArgs false
open Go Go.RowKit Go.Sort

set_option maxRecDepth 100000 in
set_option maxHeartbeats 8000000 in
theorem fwd_8_0 (B : Nat) (c : Ca) (m : Msg) (p : Nat → Addr) (cb : Nat) (F : List Nat) (w : World) (h : CAt B w cb c F) (hB : B ≤ w.heap.size) (hmi : mineC c m 1 = true) (x : Ent) (hx : getA c.A m.line = some x) (hfr : x.fresh = false) (hk : m.kind = 8) (s' : Int) (hn : next x.state m.kind m.mode = (s', false)) (hw : m.word = 0) (hz : s' ≠ 0) (hs1 : 1 ≤ s' ∧ s' ≤ 4) (A' : Sets) (hp : putA c.A ({ x with state := s', held := false, d0 := m.value }) = some A') :
    Calls Tryd.prog 16 #[.pointer (some ⟨cb, 0, none⟩), m.val] w fun e w' => e = .returned (.tuple #[Msg.val ⟨11, c.core, m.line, s', 0, 0, 0, 0, 0, 0, 0, 0, false⟩, .bool true]) ∧ CStep B w cb F w' { c with A := A' } := by
  have HF := Lib.hid (fun w1 (hb : Below w.heap.size w w1) => CStep.same h hb)
  have HLT := Lib.hid h.lt
  have HMI := Lib.hid (fun w1 (hb : Below w.heap.size w w1) => mine_calls B c m 1 cb F w1 (h.below hb))
  have HRI := Lib.hid (mine_right hmi)
  obtain ⟨hl', hwd, hst, hmd, hep⟩ := right_facts HRI.out.1
  have HWL := Lib.hid hl'
  clear hl'
  obtain ⟨ab, sb, tb, wbs, L, h, rfl⟩ := h
  have h8 := h.ok.m.most8
  have hlen := h.ok.m.len
  have HC := Lib.hid (fun w1 (hb : Below w.heap.size w w1) => h.below hb)
  have HMS := Lib.hid (fun w1 (hb : Below w.heap.size w w1) => get_calls c.M m.line c.most tb w1 (by omega) (h.tab.below hb).tab)
  have HAG := Lib.hid (fun w1 (hb : Below w.heap.size w w1) => aget_calls B c.n c.k c.A m.line ab sb wbs w1 h.ok.a (h.ar.below hb))
  have HOK := Lib.hid h.ok
  have hbc := h.bc.lt
  rw [hmi] at HMI
  unfold getV at HAG
  have hxo := (getA_some HOK.out.a hx).2.2.2.1
  rw [hx] at HAG
  simp only [Option.getD_some, Option.isSome_some] at HAG
  have HNX := Lib.hid (fun w1 => next_calls x.state m.kind m.mode w1)
  rw [hn] at HNX
  generalize (missOf c.M m.line).1 = mk at HMS
  generalize (missOf c.M m.line).2 = mb at HMS
  have HOX := Lib.hid hxo
  have HP := Lib.hid hp
  obtain ⟨x0, x1, x2, x3, x4, x5, x6, x7, x8, x9⟩ := x
  simp only [Ent.val] at HAG HNX hfr HOX ⊢
  simp only at HP
  subst hfr
  have HW7 := Lib.hid hw
  clear hw
  have HKK := Lib.hid hk
  clear h hmi hx hn hk hxo hp
  have HMB := Lib.hid (blk_new w m.cells 33 _ rfl)
  have hb0 := ((Below.refl w.heap.size w).alloc (Nat.le_refl _) (.cells m.cells.toArray 33)).alloc (by simp) (.cells Msg.zero.cells.toArray 33)
  have HMB0 := Lib.hid (HMB.out.below ((Below.refl _ _).alloc (Nat.le_refl _) (.cells Msg.zero.cells.toArray 33)) HMB.out.lt)
  have HRB0 := Lib.hid (blk_new (w.alloc (.cells m.cells.toArray 33)) Msg.zero.cells 33 (w.heap.size + 1) (by simp))
  have hz0 : ((w.alloc (.cells m.cells.toArray 33)).alloc (.cells Msg.zero.cells.toArray 33)).heap.size = w.heap.size + 2 := by simp
  have HB0 := Lib.hid hb0
  clear HMB hb0
  obtain ⟨r1, r2, r3, r4, r5, r6, r7, r8, r9, r10, r11, r12, r13⟩ := m
  have hkk := HKK.out
  simp only at hkk
  subst hkk
  simp only [Msg.cells, Msg.val, Msg.zero] at *
  go_enter Tryd.func16, Tryd.ntmps16
  go_wp2_with fail
  generalize (w.alloc (.cells #[.int .i64 8, .int .i64 r2, .int .i64 r3, .int .i64 r4, .int .i64 r5, .int .i64 r6, .int .i64 r7, .int .u32 r8, .int .u32 r9, .int .u32 r10, .int .u32 r11, .int .u32 r12, .bool r13] 33)).alloc (.cells #[.int .i64 0, .int .i64 0, .int .i64 0, .int .i64 0, .int .i64 0, .int .i64 0, .int .i64 0, .int .u32 0, .int .u32 0, .int .u32 0, .int .u32 0, .int .u32 0, .bool false] 33) = W at *
  refine (HMI.out _ HB0.out).mono ?_
  rintro e w1 ⟨rfl, hb1⟩
  have HB1 := Lib.hid (HB0.out.trans (hb1.mono HB0.out.size))
  have HMB1 := Lib.hid (HMB0.out.below hb1 HMB0.out.lt)
  have HRB1 := Lib.hid (HRB0.out.below hb1 HRB0.out.lt)
  clear hb1
  have c2 := (HC.out _ HB1.out).bc.cell 2
  simp at c2
  have m2 := (msgAt (m := ⟨8, r2, r3, r4, r5, r6, r7, r8, r9, r10, r11, r12, r13⟩) HMB1.out).c2
  have hz1 : w.heap.size + 2 ≤ w1.heap.size := by have := HRB1.out.lt; omega
  simp only at m2
  have hcb1 : cb < w1.heap.size := by omega
  have hcm1 : w.heap.size < w1.heap.size := by omega
  go_wp2_with fail
  go_cut [6, 7] (fun s6 s7 wx => ∃ g : Nat, s6 = .pointer (some ⟨g, 0, none⟩) ∧ s7 = .bool true ∧ Below w1.heap.size w1 wx ∧ w1.heap.size ≤ g ∧ Hid (Blk wx g 69 (Ent.cells ⟨x0, x1, x2, x3, x4, x5, x6, x7, x8, false⟩)))
  case first =>
    go_region_held3 (fun w' => w'.cell? ⟨cb, 2, none⟩ = some (.pointer (some ⟨ab, 0, none⟩)) ∧ w'.cell? ⟨w.heap.size, 2, none⟩ = some (.int .i64 r3)) (first | (go_keep; done) | (refine ⟨?_, ?_⟩ <;> first | (go_keep; done) | (simp [World.cell?_setCell_other, *]; done))) ((go_at_call 26; refine (HAG.out _ (by first | exact HB1.out.drew | exact (Below.alloc HB1.out HB1.out.size _).drew)).mono ?_; rintro e w3 ⟨rfl, hb3⟩; have q1 := hb3.cell (p := ⟨cb, 2, none⟩) (by simp; omega); have q2 := hb3.cell (p := ⟨w.heap.size, 2, none⟩) (by simp; try omega); simp [World.cell?_alloc_lt, hcb1, hcm1, Nat.ne_of_lt hcb1, Nat.ne_of_lt hcm1, c2, m2] at q1 q2; first | (have hz : Blk w3 w1.heap.size 69 Ent.zero.cells := Blk.below (blk_newd _ Ent.zero.cells _ _ (by simp)) hb3 (by simp); obtain ⟨z0, z1, z2, z3, z4, z5, z6, z7, z8, z9⟩ := entAt0 hz; obtain ⟨y0, y1, y2, y3, y4, y5, y6, y7, y8, y9⟩ := entFree hz; simp only [Nat.zero_add] at z1 z2 z3 z4 z5 z6 z7 z8 z9; have HZ := Lib.hid hz; clear hz) | skip))
    · have hw3 : Below w1.heap.size w1 w3 := ((Below.refl _ w1).drew).trans (hb3.mono (by simp))
      have HAl := Lib.hid (fun o : Obj => Below.alloc hw3 hw3.size o)
      have hz3 := hw3.size
      clear hb3 hw3 q1 q2
      go_wp2_with fail
      go_meet
      exact ⟨w3.heap.size, rfl, rfl, HAl.out _, hz3, blk_new _ (Ent.cells ⟨x0, x1, x2, x3, x4, x5, x6, x7, x8, false⟩) _ _ rfl⟩
    · have hw3 : Below w1.heap.size w1 w3 := (((Below.refl _ w1).alloc (Nat.le_refl _) _).drew).trans (hb3.mono (by simp))
      have HW3 := Lib.hid hw3
      clear hb3 hw3 q1 q2
      go_wp2_with fail
      go_meet
      obtain ⟨po, pb⟩ := put10 HZ.out x0 x1 x2 x3 x4 x5 x6 x7 x8 false
      exact ⟨_, rfl, rfl, HW3.out.trans (po.below.mono (Nat.le_refl _)), Nat.le_refl _, pb⟩
  case rest =>
  obtain ⟨ge, rfl, rfl, hwx, hge, HE2⟩ := hcut
  have HB2 := Lib.hid (HB1.out.trans (hwx.mono HB1.out.size))
  have HMB2 := Lib.hid (HMB1.out.below hwx HMB1.out.lt)
  have HRB2 := Lib.hid (HRB1.out.below hwx HRB1.out.lt)
  have hwx4 := hwx
  clear hwx c2 m2
  have e9 := (entAt0 HE2.out).c9
  simp only [Nat.zero_add] at e9
  have c3 := (HC.out _ HB2.out).bc.cell 3
  simp at c3
  have m0 := (msgAt (m := ⟨8, r2, r3, r4, r5, r6, r7, r8, r9, r10, r11, r12, r13⟩) HMB2.out).c2
  simp only at m0
  have k3 := cell_regrown c3
  have km := cell_regrown m0
  have HG6 := Lib.hid (fun d os => Calls.regrown_of (w := wc) (d := d) (os := os) (HMS.out _ (HB2.out.trans ((below_regrown wc d os).mono HB2.out.size))))
  clear c3 m0
  go_wp2_with fail
  refine wp_region_quiet_below (by kernel_rfl) (by kernel_rfl) ?_
  repeat (go_big_quiet_step (exact HG6.out _ _))
  refine wpQuiet_nil ?_
  intro _ hw'
  obtain ⟨⟨dq, osq⟩, hw''⟩ := hw'
  subst hw''
  have hb4 := below_regrown wc dq osq
  clear k3 km
  generalize grow (redrawn wc dq) osq = w4 at hb4 ⊢
  have HB4 := Lib.hid (HB2.out.trans (hb4.mono HB2.out.size))
  have HMB4 := Lib.hid (HMB2.out.below hb4 HMB2.out.lt)
  have HRB4 := Lib.hid (HRB2.out.below hb4 HRB2.out.lt)
  have HE4 := Lib.hid (HE2.out.below hb4 HE2.out.lt)
  have HX4 := Lib.hid (hwx4.trans (hb4.mono hwx4.size))
  clear hb4 e9 hwx4
  have m0 := (msgAt (m := ⟨8, r2, r3, r4, r5, r6, r7, r8, r9, r10, r11, r12, r13⟩) HMB4.out).c0
  simp only at m0
  have c0 := (HC.out _ HB4.out).bc.cell 0
  simp at c0
  have m2 := (msgAt (m := ⟨8, r2, r3, r4, r5, r6, r7, r8, r9, r10, r11, r12, r13⟩) HMB4).c2
  simp only at m2
  have hcb9 := (HC.out _ HB4.out).bc.lt
  have hcm9 := HMB4.lt
  have hrb9 := HRB4.lt
  go_wp2_with fail
  go_region_held3 (fun w' => w'.cell? ⟨cb, 0, none⟩ = some (.int .i64 c.core) ∧ w'.cell? ⟨w.heap.size, 2, none⟩ = some (.int .i64 r3)) (first | (go_keep; done) | (refine ⟨?_, ?_⟩ <;> first | (go_keep; done) | (simp [World.cell?_setCell_other, *]; done))) (fail)
  clear c0 m2
  have hge9 := HE4.out.lt
  have ng1 : ge ≠ w4.heap.size := by omega
  have ng2 : w.heap.size ≠ w4.heap.size := by omega
  have m0 := (msgAt (m := ⟨8, r2, r3, r4, r5, r6, r7, r8, r9, r10, r11, r12, r13⟩) HMB4.out).c0
  have m4 := (msgAt (m := ⟨8, r2, r3, r4, r5, r6, r7, r8, r9, r10, r11, r12, r13⟩) HMB4.out).c4
  obtain ⟨e0, e1, e2, e3, e4, e5, e6, e7, e8, e9⟩ := entAt0 HE4.out
  simp only [Nat.zero_add] at m0 m4 e1 e2 e3 e4 e5 e6 e7 e8 e9
  have hz1 : (s' == 0) = false := by simpa using hz
  clear hz
  · go_wp2_with (first | (go_at_call 38; refine (HNX.out _).mono ?_; rintro e w' ⟨rfl, rfl⟩) | (refine wl_storeV rfl (.tmp 85) (.tmp 84) 3 rfl ge 1 69 [.int .i64 s'] (.int .i64 s') rfl rfl rfl intSize1 _ (HE4.out.below (Below.alloc (Below.refl _ _) (Nat.le_refl _) _).drew HE4.out.lt) (one1 _ rfl) (by simp [Ent.cells]) ?d1))
    case d1 =>
      intro w7 ho7 hblk7
      have HE7 := Lib.hid (show Blk w7 ge 69 (Ent.cells ⟨x0, s', x2, x3, x4, x5, x6, x7, x8, false⟩) from hblk7)
      have HO7 := Lib.hid (ho7.blk (blk_newd w4 (Msg.cells ⟨11, c.core, r3, s', 0, 0, 0, 0, 0, 0, 0, 0, false⟩) 33 _ rfl) (Ne.symm ng1))
      have hbn := (Below.alloc (Below.refl w4.heap.size w4) (Nat.le_refl _) (.cells (Msg.cells ⟨11, c.core, r3, s', 0, 0, 0, 0, 0, 0, 0, 0, false⟩).toArray 33)).drew
      have HMB7 := Lib.hid (ho7.blk (HMB4.out.below hbn HMB4.out.lt) (by omega))
      have HRB7 := Lib.hid (ho7.blk (HRB4.out.below hbn HRB4.out.lt) (by omega))
      have HB7 := Lib.hid ((HB4.out.trans (hbn.mono HB4.out.size)).trans (ho7.below.mono (by omega)))
      have HC7 := Lib.hid (HC.out _ HB7.out)
      have HX7 := Lib.hid ((HX4.out.trans (hbn.mono HX4.out.size)).trans (ho7.below.mono hge))
      have HF7 := Lib.hid (FrL.below (cb :: ab :: sb :: (wbs ++ L)) HX7.out)
      have HGR := Lib.hid (Grow.refl w1 L)
      clear ho7 hblk7 hbn e0 e1 e2 e3 e4 e5 e6 e7 e8 e9 m0 m4
      obtain ⟨e0, e1, e2, e3, e4, e5, e6, e7, e8, e9⟩ := entAt0 HE7.out
      obtain ⟨m0, m1, m2, m3, m4, m5, m6, m7, m8, m9, m10, m11, m12⟩ := msgAt (m := ⟨8, r2, r3, r4, r5, r6, r7, r8, r9, r10, r11, r12, r13⟩) HMB7.out
      simp only [Nat.zero_add] at e0 m0 m2 m4 m5 m6 m7 e1 e2 e3 e4 e5 e6 e7 e8 e9
      clear m1 m3 m8 m9 m10 m11 m12
      go_wp2_with (refine wl_storeV rfl (.tmp 93) (.const (.bool false)) 4 rfl ge 8 69 [.bool false] (.bool false) rfl rfl rfl boolSize1 _ HE7.out (one1 _ rfl) (by simp [Ent.cells]) ?d2)
      case d2 =>
      intro w8 ho8 hblk8
      have HE8 := Lib.hid (show Blk w8 ge 69 (Ent.cells ⟨x0, s', x2, x3, x4, x5, x6, x7, false, false⟩) from hblk8)
      have HO8 := Lib.hid (ho8.blk HO7.out (Ne.symm ng1))
      have HMB8 := Lib.hid (ho8.blk HMB7.out (by omega))
      have HRB8 := Lib.hid (ho8.blk HRB7.out (by omega))
      have HB8 := Lib.hid (HB7.out.trans (ho8.below.mono (by omega)))
      have HC8 := Lib.hid (HC.out _ HB8.out)
      have HX8 := Lib.hid (HX7.out.trans (ho8.below.mono hge))
      have HF8 := Lib.hid (FrL.below (cb :: ab :: sb :: (wbs ++ L)) HX8.out)
      clear ho8 hblk8
      clear e0 e1 e2 e3 e4 e5 e6 e7 e8 e9 m0 m2 m4 m5 m6 m7
      obtain ⟨e0, e1, e2, e3, e4, e5, e6, e7, e8, e9⟩ := entAt0 HE8.out
      obtain ⟨m0, m1, m2, m3, m4, m5, m6, m7, m8, m9, m10, m11, m12⟩ := msgAt (m := ⟨8, r2, r3, r4, r5, r6, r7, r8, r9, r10, r11, r12, r13⟩) HMB8.out
      simp only [Nat.zero_add] at e0 m0 m2 m4 m5 m6 m7 e1 e2 e3 e4 e5 e6 e7 e8 e9
      clear m1 m3 m8 m9 m10 m11 m12
      have hww : r7 = 0 := HW7.out
      subst hww
      go_wp2_with (refine wl_storeV rfl (.tmp 99) (.tmp 97) 29 rfl ge 4 69 [.int .u32 r8] (.int .u32 r8) rfl rfl rfl u32Size1 _ HE8.out (one1 _ rfl) (by simp [Ent.cells]) ?d3)
      case d3 =>
      intro w9 ho9 hblk9
      have HE9 := Lib.hid (show Blk w9 ge 69 (Ent.cells ⟨x0, s', x2, x3, r8, x5, x6, x7, false, false⟩) from hblk9)
      have HO9 := Lib.hid (ho9.blk HO8.out (Ne.symm ng1))
      have HMB9 := Lib.hid (ho9.blk HMB8.out (by omega))
      have HRB9 := Lib.hid (ho9.blk HRB8.out (by omega))
      have HB9 := Lib.hid (HB8.out.trans (ho9.below.mono (by omega)))
      have HC9 := Lib.hid (HC.out _ HB9.out)
      have HX9 := Lib.hid (HX8.out.trans (ho9.below.mono hge))
      have HF9 := Lib.hid (FrL.below (cb :: ab :: sb :: (wbs ++ L)) HX9.out)
      clear ho9 hblk9
      clear e0 e1 e2 e3 e4 e5 e6 e7 e8 e9 m0 m2 m4 m5 m6 m7
      obtain ⟨e0, e1, e2, e3, e4, e5, e6, e7, e8, e9⟩ := entAt0 HE9.out
      obtain ⟨m0, m1, m2, m3, m4, m5, m6, m7, m8, m9, m10, m11, m12⟩ := msgAt (m := ⟨8, r2, r3, r4, r5, r6, 0, r8, r9, r10, r11, r12, r13⟩) HMB9.out
      simp only [Nat.zero_add] at e0 m0 m2 m4 m5 m6 m7 e1 e2 e3 e4 e5 e6 e7 e8 e9
      clear m1 m3 m8 m9 m10 m11 m12
      have c2 := HC9.out.bc.cell 2
      simp at c2
      go_wp2_with fail
      go_still_tail 5, (by kernel_rfl)
      change wpList _ _ _ _ _ w9.drew
      have HCd : Hid (CR B w9.drew cb ab sb tb wbs L _) := HC9.out.below ((Below.refl _ _).drew)
      have HFd : Hid (FrL (cb :: ab :: sb :: (wbs ++ L)) w1 w9.drew) := HF9.out.drew
      have HOd : Hid (Blk w9.drew _ _ _) := HO9.out
      have HRd : Hid (Blk w9.drew _ _ _) := HRB9.out
      have HLE : Hid (B ≤ w9.drew.heap.size) := by have := HF9.out.size; have := HB1.out.size; show B ≤ w9.heap.size; omega
      clear c2
      clear e0 e1 e2 e3 e4 e5 e6 e7 e8 e9 m0 m2 m4 m5 m6 m7
      generalize w9.drew = wd at HCd HFd HOd HRd HLE ⊢
      go_wp2_with fail
      refine (put_calls B c.n c.k c.A A' ⟨x0, s', x2, x3, r8, x5, x6, x7, false, false⟩ ab sb wbs wd HCd.out.ok.a HCd.out.ar ⟨HOX.out.line, hs1, HOX.out.mode, HOX.out.epoch⟩ HLE.out HP.out).mono ?_
      rintro e wa ⟨rfl, haa, hka, hfa, hla⟩
      have HSa := Lib.hid (CStep.arr HCd.out HGR.out HFd.out haa hka hfa (fun T hT => Or.inl (by simpa using hT)) hla)
      have HOa := Lib.hid (HOd.out.fr hfa (by decide))
      have HRa := Lib.hid (HRd.out.fr hfa (by decide))
      obtain ⟨o0, o1, o2, o3, o4, o5, o6, o7, o8, o9, o10, o11, o12⟩ := msgAt HOa.out
      simp only at o0 o1 o2 o3 o4 o5 o6 o7 o8 o9 o10 o11 o12
      clear haa hka hfa hla
      go_wp2_with (refine wl_store rfl (.tmp 4) (.tmp 124) 33 rfl (w.heap.size + 1) 0 33 (Msg.cells ⟨11, c.core, r3, s', 0, 0, 0, 0, 0, 0, 0, 0, false⟩) rfl rfl msgSize _ HRa.out (msgOne _) (by simp [Msg.cells]) ?d9)
      case d9 =>
      intro wz hoz hblk
      have HK := Lib.hid (msgOver (m := Msg.zero) (m' := ⟨11, c.core, r3, s', 0, 0, 0, 0, 0, 0, 0, 0, false⟩) hblk)
      have HSz := Lib.hid (HSa.out.only HB1.out HLT.out (by omega) HRB1.out.lt hoz)
      clear hoz hblk
      go_wp2
      exact bodyPost_ret (v := .tuple #[Msg.val ⟨11, c.core, r3, s', 0, 0, 0, 0, 0, 0, 0, 0, false⟩, .bool true]) (results_msg2 Tryd.results16 ⟨11, c.core, r3, s', 0, 0, 0, 0, 0, 0, 0, 0, false⟩ _ rfl rfl HK.out) rfl ⟨rfl, HSz.out⟩

set_option maxRecDepth 100000 in
set_option maxHeartbeats 8000000 in
theorem fwd_8_1 (B : Nat) (c : Ca) (m : Msg) (p : Nat → Addr) (cb : Nat) (F : List Nat) (w : World) (h : CAt B w cb c F) (hB : B ≤ w.heap.size) (hmi : mineC c m 1 = true) (x : Ent) (hx : getA c.A m.line = some x) (hfr : x.fresh = false) (hk : m.kind = 8) (s' : Int) (hn : next x.state m.kind m.mode = (s', false)) (hw : m.word = 1) (hz : s' ≠ 0) (hs1 : 1 ≤ s' ∧ s' ≤ 4) (A' : Sets) (hp : putA c.A ({ x with state := s', held := false, d1 := m.value }) = some A') :
    Calls Tryd.prog 16 #[.pointer (some ⟨cb, 0, none⟩), m.val] w fun e w' => e = .returned (.tuple #[Msg.val ⟨11, c.core, m.line, s', 0, 0, 0, 0, 0, 0, 0, 0, false⟩, .bool true]) ∧ CStep B w cb F w' { c with A := A' } := by
  have HF := Lib.hid (fun w1 (hb : Below w.heap.size w w1) => CStep.same h hb)
  have HLT := Lib.hid h.lt
  have HMI := Lib.hid (fun w1 (hb : Below w.heap.size w w1) => mine_calls B c m 1 cb F w1 (h.below hb))
  have HRI := Lib.hid (mine_right hmi)
  obtain ⟨hl', hwd, hst, hmd, hep⟩ := right_facts HRI.out.1
  have HWL := Lib.hid hl'
  clear hl'
  obtain ⟨ab, sb, tb, wbs, L, h, rfl⟩ := h
  have h8 := h.ok.m.most8
  have hlen := h.ok.m.len
  have HC := Lib.hid (fun w1 (hb : Below w.heap.size w w1) => h.below hb)
  have HMS := Lib.hid (fun w1 (hb : Below w.heap.size w w1) => get_calls c.M m.line c.most tb w1 (by omega) (h.tab.below hb).tab)
  have HAG := Lib.hid (fun w1 (hb : Below w.heap.size w w1) => aget_calls B c.n c.k c.A m.line ab sb wbs w1 h.ok.a (h.ar.below hb))
  have HOK := Lib.hid h.ok
  have hbc := h.bc.lt
  rw [hmi] at HMI
  unfold getV at HAG
  have hxo := (getA_some HOK.out.a hx).2.2.2.1
  rw [hx] at HAG
  simp only [Option.getD_some, Option.isSome_some] at HAG
  have HNX := Lib.hid (fun w1 => next_calls x.state m.kind m.mode w1)
  rw [hn] at HNX
  generalize (missOf c.M m.line).1 = mk at HMS
  generalize (missOf c.M m.line).2 = mb at HMS
  have HOX := Lib.hid hxo
  have HP := Lib.hid hp
  obtain ⟨x0, x1, x2, x3, x4, x5, x6, x7, x8, x9⟩ := x
  simp only [Ent.val] at HAG HNX hfr HOX ⊢
  simp only at HP
  subst hfr
  have HW7 := Lib.hid hw
  clear hw
  have HKK := Lib.hid hk
  clear h hmi hx hn hk hxo hp
  have HMB := Lib.hid (blk_new w m.cells 33 _ rfl)
  have hb0 := ((Below.refl w.heap.size w).alloc (Nat.le_refl _) (.cells m.cells.toArray 33)).alloc (by simp) (.cells Msg.zero.cells.toArray 33)
  have HMB0 := Lib.hid (HMB.out.below ((Below.refl _ _).alloc (Nat.le_refl _) (.cells Msg.zero.cells.toArray 33)) HMB.out.lt)
  have HRB0 := Lib.hid (blk_new (w.alloc (.cells m.cells.toArray 33)) Msg.zero.cells 33 (w.heap.size + 1) (by simp))
  have hz0 : ((w.alloc (.cells m.cells.toArray 33)).alloc (.cells Msg.zero.cells.toArray 33)).heap.size = w.heap.size + 2 := by simp
  have HB0 := Lib.hid hb0
  clear HMB hb0
  obtain ⟨r1, r2, r3, r4, r5, r6, r7, r8, r9, r10, r11, r12, r13⟩ := m
  have hkk := HKK.out
  simp only at hkk
  subst hkk
  simp only [Msg.cells, Msg.val, Msg.zero] at *
  go_enter Tryd.func16, Tryd.ntmps16
  go_wp2_with fail
  generalize (w.alloc (.cells #[.int .i64 8, .int .i64 r2, .int .i64 r3, .int .i64 r4, .int .i64 r5, .int .i64 r6, .int .i64 r7, .int .u32 r8, .int .u32 r9, .int .u32 r10, .int .u32 r11, .int .u32 r12, .bool r13] 33)).alloc (.cells #[.int .i64 0, .int .i64 0, .int .i64 0, .int .i64 0, .int .i64 0, .int .i64 0, .int .i64 0, .int .u32 0, .int .u32 0, .int .u32 0, .int .u32 0, .int .u32 0, .bool false] 33) = W at *
  refine (HMI.out _ HB0.out).mono ?_
  rintro e w1 ⟨rfl, hb1⟩
  have HB1 := Lib.hid (HB0.out.trans (hb1.mono HB0.out.size))
  have HMB1 := Lib.hid (HMB0.out.below hb1 HMB0.out.lt)
  have HRB1 := Lib.hid (HRB0.out.below hb1 HRB0.out.lt)
  clear hb1
  have c2 := (HC.out _ HB1.out).bc.cell 2
  simp at c2
  have m2 := (msgAt (m := ⟨8, r2, r3, r4, r5, r6, r7, r8, r9, r10, r11, r12, r13⟩) HMB1.out).c2
  have hz1 : w.heap.size + 2 ≤ w1.heap.size := by have := HRB1.out.lt; omega
  simp only at m2
  have hcb1 : cb < w1.heap.size := by omega
  have hcm1 : w.heap.size < w1.heap.size := by omega
  go_wp2_with fail
  go_cut [6, 7] (fun s6 s7 wx => ∃ g : Nat, s6 = .pointer (some ⟨g, 0, none⟩) ∧ s7 = .bool true ∧ Below w1.heap.size w1 wx ∧ w1.heap.size ≤ g ∧ Hid (Blk wx g 69 (Ent.cells ⟨x0, x1, x2, x3, x4, x5, x6, x7, x8, false⟩)))
  case first =>
    go_region_held3 (fun w' => w'.cell? ⟨cb, 2, none⟩ = some (.pointer (some ⟨ab, 0, none⟩)) ∧ w'.cell? ⟨w.heap.size, 2, none⟩ = some (.int .i64 r3)) (first | (go_keep; done) | (refine ⟨?_, ?_⟩ <;> first | (go_keep; done) | (simp [World.cell?_setCell_other, *]; done))) ((go_at_call 26; refine (HAG.out _ (by first | exact HB1.out.drew | exact (Below.alloc HB1.out HB1.out.size _).drew)).mono ?_; rintro e w3 ⟨rfl, hb3⟩; have q1 := hb3.cell (p := ⟨cb, 2, none⟩) (by simp; omega); have q2 := hb3.cell (p := ⟨w.heap.size, 2, none⟩) (by simp; try omega); simp [World.cell?_alloc_lt, hcb1, hcm1, Nat.ne_of_lt hcb1, Nat.ne_of_lt hcm1, c2, m2] at q1 q2; first | (have hz : Blk w3 w1.heap.size 69 Ent.zero.cells := Blk.below (blk_newd _ Ent.zero.cells _ _ (by simp)) hb3 (by simp); obtain ⟨z0, z1, z2, z3, z4, z5, z6, z7, z8, z9⟩ := entAt0 hz; obtain ⟨y0, y1, y2, y3, y4, y5, y6, y7, y8, y9⟩ := entFree hz; simp only [Nat.zero_add] at z1 z2 z3 z4 z5 z6 z7 z8 z9; have HZ := Lib.hid hz; clear hz) | skip))
    · have hw3 : Below w1.heap.size w1 w3 := ((Below.refl _ w1).drew).trans (hb3.mono (by simp))
      have HAl := Lib.hid (fun o : Obj => Below.alloc hw3 hw3.size o)
      have hz3 := hw3.size
      clear hb3 hw3 q1 q2
      go_wp2_with fail
      go_meet
      exact ⟨w3.heap.size, rfl, rfl, HAl.out _, hz3, blk_new _ (Ent.cells ⟨x0, x1, x2, x3, x4, x5, x6, x7, x8, false⟩) _ _ rfl⟩
    · have hw3 : Below w1.heap.size w1 w3 := (((Below.refl _ w1).alloc (Nat.le_refl _) _).drew).trans (hb3.mono (by simp))
      have HW3 := Lib.hid hw3
      clear hb3 hw3 q1 q2
      go_wp2_with fail
      go_meet
      obtain ⟨po, pb⟩ := put10 HZ.out x0 x1 x2 x3 x4 x5 x6 x7 x8 false
      exact ⟨_, rfl, rfl, HW3.out.trans (po.below.mono (Nat.le_refl _)), Nat.le_refl _, pb⟩
  case rest =>
  obtain ⟨ge, rfl, rfl, hwx, hge, HE2⟩ := hcut
  have HB2 := Lib.hid (HB1.out.trans (hwx.mono HB1.out.size))
  have HMB2 := Lib.hid (HMB1.out.below hwx HMB1.out.lt)
  have HRB2 := Lib.hid (HRB1.out.below hwx HRB1.out.lt)
  have hwx4 := hwx
  clear hwx c2 m2
  have e9 := (entAt0 HE2.out).c9
  simp only [Nat.zero_add] at e9
  have c3 := (HC.out _ HB2.out).bc.cell 3
  simp at c3
  have m0 := (msgAt (m := ⟨8, r2, r3, r4, r5, r6, r7, r8, r9, r10, r11, r12, r13⟩) HMB2.out).c2
  simp only at m0
  have k3 := cell_regrown c3
  have km := cell_regrown m0
  have HG6 := Lib.hid (fun d os => Calls.regrown_of (w := wc) (d := d) (os := os) (HMS.out _ (HB2.out.trans ((below_regrown wc d os).mono HB2.out.size))))
  clear c3 m0
  go_wp2_with fail
  refine wp_region_quiet_below (by kernel_rfl) (by kernel_rfl) ?_
  repeat (go_big_quiet_step (exact HG6.out _ _))
  refine wpQuiet_nil ?_
  intro _ hw'
  obtain ⟨⟨dq, osq⟩, hw''⟩ := hw'
  subst hw''
  have hb4 := below_regrown wc dq osq
  clear k3 km
  generalize grow (redrawn wc dq) osq = w4 at hb4 ⊢
  have HB4 := Lib.hid (HB2.out.trans (hb4.mono HB2.out.size))
  have HMB4 := Lib.hid (HMB2.out.below hb4 HMB2.out.lt)
  have HRB4 := Lib.hid (HRB2.out.below hb4 HRB2.out.lt)
  have HE4 := Lib.hid (HE2.out.below hb4 HE2.out.lt)
  have HX4 := Lib.hid (hwx4.trans (hb4.mono hwx4.size))
  clear hb4 e9 hwx4
  have m0 := (msgAt (m := ⟨8, r2, r3, r4, r5, r6, r7, r8, r9, r10, r11, r12, r13⟩) HMB4.out).c0
  simp only at m0
  have c0 := (HC.out _ HB4.out).bc.cell 0
  simp at c0
  have m2 := (msgAt (m := ⟨8, r2, r3, r4, r5, r6, r7, r8, r9, r10, r11, r12, r13⟩) HMB4).c2
  simp only at m2
  have hcb9 := (HC.out _ HB4.out).bc.lt
  have hcm9 := HMB4.lt
  have hrb9 := HRB4.lt
  go_wp2_with fail
  go_region_held3 (fun w' => w'.cell? ⟨cb, 0, none⟩ = some (.int .i64 c.core) ∧ w'.cell? ⟨w.heap.size, 2, none⟩ = some (.int .i64 r3)) (first | (go_keep; done) | (refine ⟨?_, ?_⟩ <;> first | (go_keep; done) | (simp [World.cell?_setCell_other, *]; done))) (fail)
  clear c0 m2
  have hge9 := HE4.out.lt
  have ng1 : ge ≠ w4.heap.size := by omega
  have ng2 : w.heap.size ≠ w4.heap.size := by omega
  have m0 := (msgAt (m := ⟨8, r2, r3, r4, r5, r6, r7, r8, r9, r10, r11, r12, r13⟩) HMB4.out).c0
  have m4 := (msgAt (m := ⟨8, r2, r3, r4, r5, r6, r7, r8, r9, r10, r11, r12, r13⟩) HMB4.out).c4
  obtain ⟨e0, e1, e2, e3, e4, e5, e6, e7, e8, e9⟩ := entAt0 HE4.out
  simp only [Nat.zero_add] at m0 m4 e1 e2 e3 e4 e5 e6 e7 e8 e9
  have hz1 : (s' == 0) = false := by simpa using hz
  clear hz
  · go_wp2_with (first | (go_at_call 38; refine (HNX.out _).mono ?_; rintro e w' ⟨rfl, rfl⟩) | (refine wl_storeV rfl (.tmp 85) (.tmp 84) 3 rfl ge 1 69 [.int .i64 s'] (.int .i64 s') rfl rfl rfl intSize1 _ (HE4.out.below (Below.alloc (Below.refl _ _) (Nat.le_refl _) _).drew HE4.out.lt) (one1 _ rfl) (by simp [Ent.cells]) ?d1))
    case d1 =>
      intro w7 ho7 hblk7
      have HE7 := Lib.hid (show Blk w7 ge 69 (Ent.cells ⟨x0, s', x2, x3, x4, x5, x6, x7, x8, false⟩) from hblk7)
      have HO7 := Lib.hid (ho7.blk (blk_newd w4 (Msg.cells ⟨11, c.core, r3, s', 0, 0, 0, 0, 0, 0, 0, 0, false⟩) 33 _ rfl) (Ne.symm ng1))
      have hbn := (Below.alloc (Below.refl w4.heap.size w4) (Nat.le_refl _) (.cells (Msg.cells ⟨11, c.core, r3, s', 0, 0, 0, 0, 0, 0, 0, 0, false⟩).toArray 33)).drew
      have HMB7 := Lib.hid (ho7.blk (HMB4.out.below hbn HMB4.out.lt) (by omega))
      have HRB7 := Lib.hid (ho7.blk (HRB4.out.below hbn HRB4.out.lt) (by omega))
      have HB7 := Lib.hid ((HB4.out.trans (hbn.mono HB4.out.size)).trans (ho7.below.mono (by omega)))
      have HC7 := Lib.hid (HC.out _ HB7.out)
      have HX7 := Lib.hid ((HX4.out.trans (hbn.mono HX4.out.size)).trans (ho7.below.mono hge))
      have HF7 := Lib.hid (FrL.below (cb :: ab :: sb :: (wbs ++ L)) HX7.out)
      have HGR := Lib.hid (Grow.refl w1 L)
      clear ho7 hblk7 hbn e0 e1 e2 e3 e4 e5 e6 e7 e8 e9 m0 m4
      obtain ⟨e0, e1, e2, e3, e4, e5, e6, e7, e8, e9⟩ := entAt0 HE7.out
      obtain ⟨m0, m1, m2, m3, m4, m5, m6, m7, m8, m9, m10, m11, m12⟩ := msgAt (m := ⟨8, r2, r3, r4, r5, r6, r7, r8, r9, r10, r11, r12, r13⟩) HMB7.out
      simp only [Nat.zero_add] at e0 m0 m2 m4 m5 m6 m7 e1 e2 e3 e4 e5 e6 e7 e8 e9
      clear m1 m3 m8 m9 m10 m11 m12
      go_wp2_with (refine wl_storeV rfl (.tmp 93) (.const (.bool false)) 4 rfl ge 8 69 [.bool false] (.bool false) rfl rfl rfl boolSize1 _ HE7.out (one1 _ rfl) (by simp [Ent.cells]) ?d2)
      case d2 =>
      intro w8 ho8 hblk8
      have HE8 := Lib.hid (show Blk w8 ge 69 (Ent.cells ⟨x0, s', x2, x3, x4, x5, x6, x7, false, false⟩) from hblk8)
      have HO8 := Lib.hid (ho8.blk HO7.out (Ne.symm ng1))
      have HMB8 := Lib.hid (ho8.blk HMB7.out (by omega))
      have HRB8 := Lib.hid (ho8.blk HRB7.out (by omega))
      have HB8 := Lib.hid (HB7.out.trans (ho8.below.mono (by omega)))
      have HC8 := Lib.hid (HC.out _ HB8.out)
      have HX8 := Lib.hid (HX7.out.trans (ho8.below.mono hge))
      have HF8 := Lib.hid (FrL.below (cb :: ab :: sb :: (wbs ++ L)) HX8.out)
      clear ho8 hblk8
      clear e0 e1 e2 e3 e4 e5 e6 e7 e8 e9 m0 m2 m4 m5 m6 m7
      obtain ⟨e0, e1, e2, e3, e4, e5, e6, e7, e8, e9⟩ := entAt0 HE8.out
      obtain ⟨m0, m1, m2, m3, m4, m5, m6, m7, m8, m9, m10, m11, m12⟩ := msgAt (m := ⟨8, r2, r3, r4, r5, r6, r7, r8, r9, r10, r11, r12, r13⟩) HMB8.out
      simp only [Nat.zero_add] at e0 m0 m2 m4 m5 m6 m7 e1 e2 e3 e4 e5 e6 e7 e8 e9
      clear m1 m3 m8 m9 m10 m11 m12
      have hww : r7 = 1 := HW7.out
      subst hww
      go_wp2_with (refine wl_storeV rfl (.tmp 99) (.tmp 97) 29 rfl ge 5 69 [.int .u32 r8] (.int .u32 r8) rfl rfl rfl u32Size1 _ HE8.out (one1 _ rfl) (by simp [Ent.cells]) ?d3)
      case d3 =>
      intro w9 ho9 hblk9
      have HE9 := Lib.hid (show Blk w9 ge 69 (Ent.cells ⟨x0, s', x2, x3, x4, r8, x6, x7, false, false⟩) from hblk9)
      have HO9 := Lib.hid (ho9.blk HO8.out (Ne.symm ng1))
      have HMB9 := Lib.hid (ho9.blk HMB8.out (by omega))
      have HRB9 := Lib.hid (ho9.blk HRB8.out (by omega))
      have HB9 := Lib.hid (HB8.out.trans (ho9.below.mono (by omega)))
      have HC9 := Lib.hid (HC.out _ HB9.out)
      have HX9 := Lib.hid (HX8.out.trans (ho9.below.mono hge))
      have HF9 := Lib.hid (FrL.below (cb :: ab :: sb :: (wbs ++ L)) HX9.out)
      clear ho9 hblk9
      clear e0 e1 e2 e3 e4 e5 e6 e7 e8 e9 m0 m2 m4 m5 m6 m7
      obtain ⟨e0, e1, e2, e3, e4, e5, e6, e7, e8, e9⟩ := entAt0 HE9.out
      obtain ⟨m0, m1, m2, m3, m4, m5, m6, m7, m8, m9, m10, m11, m12⟩ := msgAt (m := ⟨8, r2, r3, r4, r5, r6, 1, r8, r9, r10, r11, r12, r13⟩) HMB9.out
      simp only [Nat.zero_add] at e0 m0 m2 m4 m5 m6 m7 e1 e2 e3 e4 e5 e6 e7 e8 e9
      clear m1 m3 m8 m9 m10 m11 m12
      have c2 := HC9.out.bc.cell 2
      simp at c2
      go_wp2_with fail
      go_still_tail 5, (by kernel_rfl)
      change wpList _ _ _ _ _ w9.drew
      have HCd : Hid (CR B w9.drew cb ab sb tb wbs L _) := HC9.out.below ((Below.refl _ _).drew)
      have HFd : Hid (FrL (cb :: ab :: sb :: (wbs ++ L)) w1 w9.drew) := HF9.out.drew
      have HOd : Hid (Blk w9.drew _ _ _) := HO9.out
      have HRd : Hid (Blk w9.drew _ _ _) := HRB9.out
      have HLE : Hid (B ≤ w9.drew.heap.size) := by have := HF9.out.size; have := HB1.out.size; show B ≤ w9.heap.size; omega
      clear c2
      clear e0 e1 e2 e3 e4 e5 e6 e7 e8 e9 m0 m2 m4 m5 m6 m7
      generalize w9.drew = wd at HCd HFd HOd HRd HLE ⊢
      go_wp2_with fail
      refine (put_calls B c.n c.k c.A A' ⟨x0, s', x2, x3, x4, r8, x6, x7, false, false⟩ ab sb wbs wd HCd.out.ok.a HCd.out.ar ⟨HOX.out.line, hs1, HOX.out.mode, HOX.out.epoch⟩ HLE.out HP.out).mono ?_
      rintro e wa ⟨rfl, haa, hka, hfa, hla⟩
      have HSa := Lib.hid (CStep.arr HCd.out HGR.out HFd.out haa hka hfa (fun T hT => Or.inl (by simpa using hT)) hla)
      have HOa := Lib.hid (HOd.out.fr hfa (by decide))
      have HRa := Lib.hid (HRd.out.fr hfa (by decide))
      obtain ⟨o0, o1, o2, o3, o4, o5, o6, o7, o8, o9, o10, o11, o12⟩ := msgAt HOa.out
      simp only at o0 o1 o2 o3 o4 o5 o6 o7 o8 o9 o10 o11 o12
      clear haa hka hfa hla
      go_wp2_with (refine wl_store rfl (.tmp 4) (.tmp 124) 33 rfl (w.heap.size + 1) 0 33 (Msg.cells ⟨11, c.core, r3, s', 0, 0, 0, 0, 0, 0, 0, 0, false⟩) rfl rfl msgSize _ HRa.out (msgOne _) (by simp [Msg.cells]) ?d9)
      case d9 =>
      intro wz hoz hblk
      have HK := Lib.hid (msgOver (m := Msg.zero) (m' := ⟨11, c.core, r3, s', 0, 0, 0, 0, 0, 0, 0, 0, false⟩) hblk)
      have HSz := Lib.hid (HSa.out.only HB1.out HLT.out (by omega) HRB1.out.lt hoz)
      clear hoz hblk
      go_wp2
      exact bodyPost_ret (v := .tuple #[Msg.val ⟨11, c.core, r3, s', 0, 0, 0, 0, 0, 0, 0, 0, false⟩, .bool true]) (results_msg2 Tryd.results16 ⟨11, c.core, r3, s', 0, 0, 0, 0, 0, 0, 0, 0, false⟩ _ rfl rfl HK.out) rfl ⟨rfl, HSz.out⟩

set_option maxRecDepth 100000 in
set_option maxHeartbeats 8000000 in
theorem fwd_8_2 (B : Nat) (c : Ca) (m : Msg) (p : Nat → Addr) (cb : Nat) (F : List Nat) (w : World) (h : CAt B w cb c F) (hB : B ≤ w.heap.size) (hmi : mineC c m 1 = true) (x : Ent) (hx : getA c.A m.line = some x) (hfr : x.fresh = false) (hk : m.kind = 8) (s' : Int) (hn : next x.state m.kind m.mode = (s', false)) (hw : m.word = 2) (hz : s' ≠ 0) (hs1 : 1 ≤ s' ∧ s' ≤ 4) (A' : Sets) (hp : putA c.A ({ x with state := s', held := false, d2 := m.value }) = some A') :
    Calls Tryd.prog 16 #[.pointer (some ⟨cb, 0, none⟩), m.val] w fun e w' => e = .returned (.tuple #[Msg.val ⟨11, c.core, m.line, s', 0, 0, 0, 0, 0, 0, 0, 0, false⟩, .bool true]) ∧ CStep B w cb F w' { c with A := A' } := by
  have HF := Lib.hid (fun w1 (hb : Below w.heap.size w w1) => CStep.same h hb)
  have HLT := Lib.hid h.lt
  have HMI := Lib.hid (fun w1 (hb : Below w.heap.size w w1) => mine_calls B c m 1 cb F w1 (h.below hb))
  have HRI := Lib.hid (mine_right hmi)
  obtain ⟨hl', hwd, hst, hmd, hep⟩ := right_facts HRI.out.1
  have HWL := Lib.hid hl'
  clear hl'
  obtain ⟨ab, sb, tb, wbs, L, h, rfl⟩ := h
  have h8 := h.ok.m.most8
  have hlen := h.ok.m.len
  have HC := Lib.hid (fun w1 (hb : Below w.heap.size w w1) => h.below hb)
  have HMS := Lib.hid (fun w1 (hb : Below w.heap.size w w1) => get_calls c.M m.line c.most tb w1 (by omega) (h.tab.below hb).tab)
  have HAG := Lib.hid (fun w1 (hb : Below w.heap.size w w1) => aget_calls B c.n c.k c.A m.line ab sb wbs w1 h.ok.a (h.ar.below hb))
  have HOK := Lib.hid h.ok
  have hbc := h.bc.lt
  rw [hmi] at HMI
  unfold getV at HAG
  have hxo := (getA_some HOK.out.a hx).2.2.2.1
  rw [hx] at HAG
  simp only [Option.getD_some, Option.isSome_some] at HAG
  have HNX := Lib.hid (fun w1 => next_calls x.state m.kind m.mode w1)
  rw [hn] at HNX
  generalize (missOf c.M m.line).1 = mk at HMS
  generalize (missOf c.M m.line).2 = mb at HMS
  have HOX := Lib.hid hxo
  have HP := Lib.hid hp
  obtain ⟨x0, x1, x2, x3, x4, x5, x6, x7, x8, x9⟩ := x
  simp only [Ent.val] at HAG HNX hfr HOX ⊢
  simp only at HP
  subst hfr
  have HW7 := Lib.hid hw
  clear hw
  have HKK := Lib.hid hk
  clear h hmi hx hn hk hxo hp
  have HMB := Lib.hid (blk_new w m.cells 33 _ rfl)
  have hb0 := ((Below.refl w.heap.size w).alloc (Nat.le_refl _) (.cells m.cells.toArray 33)).alloc (by simp) (.cells Msg.zero.cells.toArray 33)
  have HMB0 := Lib.hid (HMB.out.below ((Below.refl _ _).alloc (Nat.le_refl _) (.cells Msg.zero.cells.toArray 33)) HMB.out.lt)
  have HRB0 := Lib.hid (blk_new (w.alloc (.cells m.cells.toArray 33)) Msg.zero.cells 33 (w.heap.size + 1) (by simp))
  have hz0 : ((w.alloc (.cells m.cells.toArray 33)).alloc (.cells Msg.zero.cells.toArray 33)).heap.size = w.heap.size + 2 := by simp
  have HB0 := Lib.hid hb0
  clear HMB hb0
  obtain ⟨r1, r2, r3, r4, r5, r6, r7, r8, r9, r10, r11, r12, r13⟩ := m
  have hkk := HKK.out
  simp only at hkk
  subst hkk
  simp only [Msg.cells, Msg.val, Msg.zero] at *
  go_enter Tryd.func16, Tryd.ntmps16
  go_wp2_with fail
  generalize (w.alloc (.cells #[.int .i64 8, .int .i64 r2, .int .i64 r3, .int .i64 r4, .int .i64 r5, .int .i64 r6, .int .i64 r7, .int .u32 r8, .int .u32 r9, .int .u32 r10, .int .u32 r11, .int .u32 r12, .bool r13] 33)).alloc (.cells #[.int .i64 0, .int .i64 0, .int .i64 0, .int .i64 0, .int .i64 0, .int .i64 0, .int .i64 0, .int .u32 0, .int .u32 0, .int .u32 0, .int .u32 0, .int .u32 0, .bool false] 33) = W at *
  refine (HMI.out _ HB0.out).mono ?_
  rintro e w1 ⟨rfl, hb1⟩
  have HB1 := Lib.hid (HB0.out.trans (hb1.mono HB0.out.size))
  have HMB1 := Lib.hid (HMB0.out.below hb1 HMB0.out.lt)
  have HRB1 := Lib.hid (HRB0.out.below hb1 HRB0.out.lt)
  clear hb1
  have c2 := (HC.out _ HB1.out).bc.cell 2
  simp at c2
  have m2 := (msgAt (m := ⟨8, r2, r3, r4, r5, r6, r7, r8, r9, r10, r11, r12, r13⟩) HMB1.out).c2
  have hz1 : w.heap.size + 2 ≤ w1.heap.size := by have := HRB1.out.lt; omega
  simp only at m2
  have hcb1 : cb < w1.heap.size := by omega
  have hcm1 : w.heap.size < w1.heap.size := by omega
  go_wp2_with fail
  go_cut [6, 7] (fun s6 s7 wx => ∃ g : Nat, s6 = .pointer (some ⟨g, 0, none⟩) ∧ s7 = .bool true ∧ Below w1.heap.size w1 wx ∧ w1.heap.size ≤ g ∧ Hid (Blk wx g 69 (Ent.cells ⟨x0, x1, x2, x3, x4, x5, x6, x7, x8, false⟩)))
  case first =>
    go_region_held3 (fun w' => w'.cell? ⟨cb, 2, none⟩ = some (.pointer (some ⟨ab, 0, none⟩)) ∧ w'.cell? ⟨w.heap.size, 2, none⟩ = some (.int .i64 r3)) (first | (go_keep; done) | (refine ⟨?_, ?_⟩ <;> first | (go_keep; done) | (simp [World.cell?_setCell_other, *]; done))) ((go_at_call 26; refine (HAG.out _ (by first | exact HB1.out.drew | exact (Below.alloc HB1.out HB1.out.size _).drew)).mono ?_; rintro e w3 ⟨rfl, hb3⟩; have q1 := hb3.cell (p := ⟨cb, 2, none⟩) (by simp; omega); have q2 := hb3.cell (p := ⟨w.heap.size, 2, none⟩) (by simp; try omega); simp [World.cell?_alloc_lt, hcb1, hcm1, Nat.ne_of_lt hcb1, Nat.ne_of_lt hcm1, c2, m2] at q1 q2; first | (have hz : Blk w3 w1.heap.size 69 Ent.zero.cells := Blk.below (blk_newd _ Ent.zero.cells _ _ (by simp)) hb3 (by simp); obtain ⟨z0, z1, z2, z3, z4, z5, z6, z7, z8, z9⟩ := entAt0 hz; obtain ⟨y0, y1, y2, y3, y4, y5, y6, y7, y8, y9⟩ := entFree hz; simp only [Nat.zero_add] at z1 z2 z3 z4 z5 z6 z7 z8 z9; have HZ := Lib.hid hz; clear hz) | skip))
    · have hw3 : Below w1.heap.size w1 w3 := ((Below.refl _ w1).drew).trans (hb3.mono (by simp))
      have HAl := Lib.hid (fun o : Obj => Below.alloc hw3 hw3.size o)
      have hz3 := hw3.size
      clear hb3 hw3 q1 q2
      go_wp2_with fail
      go_meet
      exact ⟨w3.heap.size, rfl, rfl, HAl.out _, hz3, blk_new _ (Ent.cells ⟨x0, x1, x2, x3, x4, x5, x6, x7, x8, false⟩) _ _ rfl⟩
    · have hw3 : Below w1.heap.size w1 w3 := (((Below.refl _ w1).alloc (Nat.le_refl _) _).drew).trans (hb3.mono (by simp))
      have HW3 := Lib.hid hw3
      clear hb3 hw3 q1 q2
      go_wp2_with fail
      go_meet
      obtain ⟨po, pb⟩ := put10 HZ.out x0 x1 x2 x3 x4 x5 x6 x7 x8 false
      exact ⟨_, rfl, rfl, HW3.out.trans (po.below.mono (Nat.le_refl _)), Nat.le_refl _, pb⟩
  case rest =>
  obtain ⟨ge, rfl, rfl, hwx, hge, HE2⟩ := hcut
  have HB2 := Lib.hid (HB1.out.trans (hwx.mono HB1.out.size))
  have HMB2 := Lib.hid (HMB1.out.below hwx HMB1.out.lt)
  have HRB2 := Lib.hid (HRB1.out.below hwx HRB1.out.lt)
  have hwx4 := hwx
  clear hwx c2 m2
  have e9 := (entAt0 HE2.out).c9
  simp only [Nat.zero_add] at e9
  have c3 := (HC.out _ HB2.out).bc.cell 3
  simp at c3
  have m0 := (msgAt (m := ⟨8, r2, r3, r4, r5, r6, r7, r8, r9, r10, r11, r12, r13⟩) HMB2.out).c2
  simp only at m0
  have k3 := cell_regrown c3
  have km := cell_regrown m0
  have HG6 := Lib.hid (fun d os => Calls.regrown_of (w := wc) (d := d) (os := os) (HMS.out _ (HB2.out.trans ((below_regrown wc d os).mono HB2.out.size))))
  clear c3 m0
  go_wp2_with fail
  refine wp_region_quiet_below (by kernel_rfl) (by kernel_rfl) ?_
  repeat (go_big_quiet_step (exact HG6.out _ _))
  refine wpQuiet_nil ?_
  intro _ hw'
  obtain ⟨⟨dq, osq⟩, hw''⟩ := hw'
  subst hw''
  have hb4 := below_regrown wc dq osq
  clear k3 km
  generalize grow (redrawn wc dq) osq = w4 at hb4 ⊢
  have HB4 := Lib.hid (HB2.out.trans (hb4.mono HB2.out.size))
  have HMB4 := Lib.hid (HMB2.out.below hb4 HMB2.out.lt)
  have HRB4 := Lib.hid (HRB2.out.below hb4 HRB2.out.lt)
  have HE4 := Lib.hid (HE2.out.below hb4 HE2.out.lt)
  have HX4 := Lib.hid (hwx4.trans (hb4.mono hwx4.size))
  clear hb4 e9 hwx4
  have m0 := (msgAt (m := ⟨8, r2, r3, r4, r5, r6, r7, r8, r9, r10, r11, r12, r13⟩) HMB4.out).c0
  simp only at m0
  have c0 := (HC.out _ HB4.out).bc.cell 0
  simp at c0
  have m2 := (msgAt (m := ⟨8, r2, r3, r4, r5, r6, r7, r8, r9, r10, r11, r12, r13⟩) HMB4).c2
  simp only at m2
  have hcb9 := (HC.out _ HB4.out).bc.lt
  have hcm9 := HMB4.lt
  have hrb9 := HRB4.lt
  go_wp2_with fail
  go_region_held3 (fun w' => w'.cell? ⟨cb, 0, none⟩ = some (.int .i64 c.core) ∧ w'.cell? ⟨w.heap.size, 2, none⟩ = some (.int .i64 r3)) (first | (go_keep; done) | (refine ⟨?_, ?_⟩ <;> first | (go_keep; done) | (simp [World.cell?_setCell_other, *]; done))) (fail)
  clear c0 m2
  have hge9 := HE4.out.lt
  have ng1 : ge ≠ w4.heap.size := by omega
  have ng2 : w.heap.size ≠ w4.heap.size := by omega
  have m0 := (msgAt (m := ⟨8, r2, r3, r4, r5, r6, r7, r8, r9, r10, r11, r12, r13⟩) HMB4.out).c0
  have m4 := (msgAt (m := ⟨8, r2, r3, r4, r5, r6, r7, r8, r9, r10, r11, r12, r13⟩) HMB4.out).c4
  obtain ⟨e0, e1, e2, e3, e4, e5, e6, e7, e8, e9⟩ := entAt0 HE4.out
  simp only [Nat.zero_add] at m0 m4 e1 e2 e3 e4 e5 e6 e7 e8 e9
  have hz1 : (s' == 0) = false := by simpa using hz
  clear hz
  · go_wp2_with (first | (go_at_call 38; refine (HNX.out _).mono ?_; rintro e w' ⟨rfl, rfl⟩) | (refine wl_storeV rfl (.tmp 85) (.tmp 84) 3 rfl ge 1 69 [.int .i64 s'] (.int .i64 s') rfl rfl rfl intSize1 _ (HE4.out.below (Below.alloc (Below.refl _ _) (Nat.le_refl _) _).drew HE4.out.lt) (one1 _ rfl) (by simp [Ent.cells]) ?d1))
    case d1 =>
      intro w7 ho7 hblk7
      have HE7 := Lib.hid (show Blk w7 ge 69 (Ent.cells ⟨x0, s', x2, x3, x4, x5, x6, x7, x8, false⟩) from hblk7)
      have HO7 := Lib.hid (ho7.blk (blk_newd w4 (Msg.cells ⟨11, c.core, r3, s', 0, 0, 0, 0, 0, 0, 0, 0, false⟩) 33 _ rfl) (Ne.symm ng1))
      have hbn := (Below.alloc (Below.refl w4.heap.size w4) (Nat.le_refl _) (.cells (Msg.cells ⟨11, c.core, r3, s', 0, 0, 0, 0, 0, 0, 0, 0, false⟩).toArray 33)).drew
      have HMB7 := Lib.hid (ho7.blk (HMB4.out.below hbn HMB4.out.lt) (by omega))
      have HRB7 := Lib.hid (ho7.blk (HRB4.out.below hbn HRB4.out.lt) (by omega))
      have HB7 := Lib.hid ((HB4.out.trans (hbn.mono HB4.out.size)).trans (ho7.below.mono (by omega)))
      have HC7 := Lib.hid (HC.out _ HB7.out)
      have HX7 := Lib.hid ((HX4.out.trans (hbn.mono HX4.out.size)).trans (ho7.below.mono hge))
      have HF7 := Lib.hid (FrL.below (cb :: ab :: sb :: (wbs ++ L)) HX7.out)
      have HGR := Lib.hid (Grow.refl w1 L)
      clear ho7 hblk7 hbn e0 e1 e2 e3 e4 e5 e6 e7 e8 e9 m0 m4
      obtain ⟨e0, e1, e2, e3, e4, e5, e6, e7, e8, e9⟩ := entAt0 HE7.out
      obtain ⟨m0, m1, m2, m3, m4, m5, m6, m7, m8, m9, m10, m11, m12⟩ := msgAt (m := ⟨8, r2, r3, r4, r5, r6, r7, r8, r9, r10, r11, r12, r13⟩) HMB7.out
      simp only [Nat.zero_add] at e0 m0 m2 m4 m5 m6 m7 e1 e2 e3 e4 e5 e6 e7 e8 e9
      clear m1 m3 m8 m9 m10 m11 m12
      go_wp2_with (refine wl_storeV rfl (.tmp 93) (.const (.bool false)) 4 rfl ge 8 69 [.bool false] (.bool false) rfl rfl rfl boolSize1 _ HE7.out (one1 _ rfl) (by simp [Ent.cells]) ?d2)
      case d2 =>
      intro w8 ho8 hblk8
      have HE8 := Lib.hid (show Blk w8 ge 69 (Ent.cells ⟨x0, s', x2, x3, x4, x5, x6, x7, false, false⟩) from hblk8)
      have HO8 := Lib.hid (ho8.blk HO7.out (Ne.symm ng1))
      have HMB8 := Lib.hid (ho8.blk HMB7.out (by omega))
      have HRB8 := Lib.hid (ho8.blk HRB7.out (by omega))
      have HB8 := Lib.hid (HB7.out.trans (ho8.below.mono (by omega)))
      have HC8 := Lib.hid (HC.out _ HB8.out)
      have HX8 := Lib.hid (HX7.out.trans (ho8.below.mono hge))
      have HF8 := Lib.hid (FrL.below (cb :: ab :: sb :: (wbs ++ L)) HX8.out)
      clear ho8 hblk8
      clear e0 e1 e2 e3 e4 e5 e6 e7 e8 e9 m0 m2 m4 m5 m6 m7
      obtain ⟨e0, e1, e2, e3, e4, e5, e6, e7, e8, e9⟩ := entAt0 HE8.out
      obtain ⟨m0, m1, m2, m3, m4, m5, m6, m7, m8, m9, m10, m11, m12⟩ := msgAt (m := ⟨8, r2, r3, r4, r5, r6, r7, r8, r9, r10, r11, r12, r13⟩) HMB8.out
      simp only [Nat.zero_add] at e0 m0 m2 m4 m5 m6 m7 e1 e2 e3 e4 e5 e6 e7 e8 e9
      clear m1 m3 m8 m9 m10 m11 m12
      have hww : r7 = 2 := HW7.out
      subst hww
      go_wp2_with (refine wl_storeV rfl (.tmp 99) (.tmp 97) 29 rfl ge 6 69 [.int .u32 r8] (.int .u32 r8) rfl rfl rfl u32Size1 _ HE8.out (one1 _ rfl) (by simp [Ent.cells]) ?d3)
      case d3 =>
      intro w9 ho9 hblk9
      have HE9 := Lib.hid (show Blk w9 ge 69 (Ent.cells ⟨x0, s', x2, x3, x4, x5, r8, x7, false, false⟩) from hblk9)
      have HO9 := Lib.hid (ho9.blk HO8.out (Ne.symm ng1))
      have HMB9 := Lib.hid (ho9.blk HMB8.out (by omega))
      have HRB9 := Lib.hid (ho9.blk HRB8.out (by omega))
      have HB9 := Lib.hid (HB8.out.trans (ho9.below.mono (by omega)))
      have HC9 := Lib.hid (HC.out _ HB9.out)
      have HX9 := Lib.hid (HX8.out.trans (ho9.below.mono hge))
      have HF9 := Lib.hid (FrL.below (cb :: ab :: sb :: (wbs ++ L)) HX9.out)
      clear ho9 hblk9
      clear e0 e1 e2 e3 e4 e5 e6 e7 e8 e9 m0 m2 m4 m5 m6 m7
      obtain ⟨e0, e1, e2, e3, e4, e5, e6, e7, e8, e9⟩ := entAt0 HE9.out
      obtain ⟨m0, m1, m2, m3, m4, m5, m6, m7, m8, m9, m10, m11, m12⟩ := msgAt (m := ⟨8, r2, r3, r4, r5, r6, 2, r8, r9, r10, r11, r12, r13⟩) HMB9.out
      simp only [Nat.zero_add] at e0 m0 m2 m4 m5 m6 m7 e1 e2 e3 e4 e5 e6 e7 e8 e9
      clear m1 m3 m8 m9 m10 m11 m12
      have c2 := HC9.out.bc.cell 2
      simp at c2
      go_wp2_with fail
      go_still_tail 5, (by kernel_rfl)
      change wpList _ _ _ _ _ w9.drew
      have HCd : Hid (CR B w9.drew cb ab sb tb wbs L _) := HC9.out.below ((Below.refl _ _).drew)
      have HFd : Hid (FrL (cb :: ab :: sb :: (wbs ++ L)) w1 w9.drew) := HF9.out.drew
      have HOd : Hid (Blk w9.drew _ _ _) := HO9.out
      have HRd : Hid (Blk w9.drew _ _ _) := HRB9.out
      have HLE : Hid (B ≤ w9.drew.heap.size) := by have := HF9.out.size; have := HB1.out.size; show B ≤ w9.heap.size; omega
      clear c2
      clear e0 e1 e2 e3 e4 e5 e6 e7 e8 e9 m0 m2 m4 m5 m6 m7
      generalize w9.drew = wd at HCd HFd HOd HRd HLE ⊢
      go_wp2_with fail
      refine (put_calls B c.n c.k c.A A' ⟨x0, s', x2, x3, x4, x5, r8, x7, false, false⟩ ab sb wbs wd HCd.out.ok.a HCd.out.ar ⟨HOX.out.line, hs1, HOX.out.mode, HOX.out.epoch⟩ HLE.out HP.out).mono ?_
      rintro e wa ⟨rfl, haa, hka, hfa, hla⟩
      have HSa := Lib.hid (CStep.arr HCd.out HGR.out HFd.out haa hka hfa (fun T hT => Or.inl (by simpa using hT)) hla)
      have HOa := Lib.hid (HOd.out.fr hfa (by decide))
      have HRa := Lib.hid (HRd.out.fr hfa (by decide))
      obtain ⟨o0, o1, o2, o3, o4, o5, o6, o7, o8, o9, o10, o11, o12⟩ := msgAt HOa.out
      simp only at o0 o1 o2 o3 o4 o5 o6 o7 o8 o9 o10 o11 o12
      clear haa hka hfa hla
      go_wp2_with (refine wl_store rfl (.tmp 4) (.tmp 124) 33 rfl (w.heap.size + 1) 0 33 (Msg.cells ⟨11, c.core, r3, s', 0, 0, 0, 0, 0, 0, 0, 0, false⟩) rfl rfl msgSize _ HRa.out (msgOne _) (by simp [Msg.cells]) ?d9)
      case d9 =>
      intro wz hoz hblk
      have HK := Lib.hid (msgOver (m := Msg.zero) (m' := ⟨11, c.core, r3, s', 0, 0, 0, 0, 0, 0, 0, 0, false⟩) hblk)
      have HSz := Lib.hid (HSa.out.only HB1.out HLT.out (by omega) HRB1.out.lt hoz)
      clear hoz hblk
      go_wp2
      exact bodyPost_ret (v := .tuple #[Msg.val ⟨11, c.core, r3, s', 0, 0, 0, 0, 0, 0, 0, 0, false⟩, .bool true]) (results_msg2 Tryd.results16 ⟨11, c.core, r3, s', 0, 0, 0, 0, 0, 0, 0, 0, false⟩ _ rfl rfl HK.out) rfl ⟨rfl, HSz.out⟩

set_option maxRecDepth 100000 in
set_option maxHeartbeats 8000000 in
theorem fwd_8_3 (B : Nat) (c : Ca) (m : Msg) (p : Nat → Addr) (cb : Nat) (F : List Nat) (w : World) (h : CAt B w cb c F) (hB : B ≤ w.heap.size) (hmi : mineC c m 1 = true) (x : Ent) (hx : getA c.A m.line = some x) (hfr : x.fresh = false) (hk : m.kind = 8) (s' : Int) (hn : next x.state m.kind m.mode = (s', false)) (hw : m.word = 3) (hz : s' ≠ 0) (hs1 : 1 ≤ s' ∧ s' ≤ 4) (A' : Sets) (hp : putA c.A ({ x with state := s', held := false, d3 := m.value }) = some A') :
    Calls Tryd.prog 16 #[.pointer (some ⟨cb, 0, none⟩), m.val] w fun e w' => e = .returned (.tuple #[Msg.val ⟨11, c.core, m.line, s', 0, 0, 0, 0, 0, 0, 0, 0, false⟩, .bool true]) ∧ CStep B w cb F w' { c with A := A' } := by
  have HF := Lib.hid (fun w1 (hb : Below w.heap.size w w1) => CStep.same h hb)
  have HLT := Lib.hid h.lt
  have HMI := Lib.hid (fun w1 (hb : Below w.heap.size w w1) => mine_calls B c m 1 cb F w1 (h.below hb))
  have HRI := Lib.hid (mine_right hmi)
  obtain ⟨hl', hwd, hst, hmd, hep⟩ := right_facts HRI.out.1
  have HWL := Lib.hid hl'
  clear hl'
  obtain ⟨ab, sb, tb, wbs, L, h, rfl⟩ := h
  have h8 := h.ok.m.most8
  have hlen := h.ok.m.len
  have HC := Lib.hid (fun w1 (hb : Below w.heap.size w w1) => h.below hb)
  have HMS := Lib.hid (fun w1 (hb : Below w.heap.size w w1) => get_calls c.M m.line c.most tb w1 (by omega) (h.tab.below hb).tab)
  have HAG := Lib.hid (fun w1 (hb : Below w.heap.size w w1) => aget_calls B c.n c.k c.A m.line ab sb wbs w1 h.ok.a (h.ar.below hb))
  have HOK := Lib.hid h.ok
  have hbc := h.bc.lt
  rw [hmi] at HMI
  unfold getV at HAG
  have hxo := (getA_some HOK.out.a hx).2.2.2.1
  rw [hx] at HAG
  simp only [Option.getD_some, Option.isSome_some] at HAG
  have HNX := Lib.hid (fun w1 => next_calls x.state m.kind m.mode w1)
  rw [hn] at HNX
  generalize (missOf c.M m.line).1 = mk at HMS
  generalize (missOf c.M m.line).2 = mb at HMS
  have HOX := Lib.hid hxo
  have HP := Lib.hid hp
  obtain ⟨x0, x1, x2, x3, x4, x5, x6, x7, x8, x9⟩ := x
  simp only [Ent.val] at HAG HNX hfr HOX ⊢
  simp only at HP
  subst hfr
  have HW7 := Lib.hid hw
  clear hw
  have HKK := Lib.hid hk
  clear h hmi hx hn hk hxo hp
  have HMB := Lib.hid (blk_new w m.cells 33 _ rfl)
  have hb0 := ((Below.refl w.heap.size w).alloc (Nat.le_refl _) (.cells m.cells.toArray 33)).alloc (by simp) (.cells Msg.zero.cells.toArray 33)
  have HMB0 := Lib.hid (HMB.out.below ((Below.refl _ _).alloc (Nat.le_refl _) (.cells Msg.zero.cells.toArray 33)) HMB.out.lt)
  have HRB0 := Lib.hid (blk_new (w.alloc (.cells m.cells.toArray 33)) Msg.zero.cells 33 (w.heap.size + 1) (by simp))
  have hz0 : ((w.alloc (.cells m.cells.toArray 33)).alloc (.cells Msg.zero.cells.toArray 33)).heap.size = w.heap.size + 2 := by simp
  have HB0 := Lib.hid hb0
  clear HMB hb0
  obtain ⟨r1, r2, r3, r4, r5, r6, r7, r8, r9, r10, r11, r12, r13⟩ := m
  have hkk := HKK.out
  simp only at hkk
  subst hkk
  simp only [Msg.cells, Msg.val, Msg.zero] at *
  go_enter Tryd.func16, Tryd.ntmps16
  go_wp2_with fail
  generalize (w.alloc (.cells #[.int .i64 8, .int .i64 r2, .int .i64 r3, .int .i64 r4, .int .i64 r5, .int .i64 r6, .int .i64 r7, .int .u32 r8, .int .u32 r9, .int .u32 r10, .int .u32 r11, .int .u32 r12, .bool r13] 33)).alloc (.cells #[.int .i64 0, .int .i64 0, .int .i64 0, .int .i64 0, .int .i64 0, .int .i64 0, .int .i64 0, .int .u32 0, .int .u32 0, .int .u32 0, .int .u32 0, .int .u32 0, .bool false] 33) = W at *
  refine (HMI.out _ HB0.out).mono ?_
  rintro e w1 ⟨rfl, hb1⟩
  have HB1 := Lib.hid (HB0.out.trans (hb1.mono HB0.out.size))
  have HMB1 := Lib.hid (HMB0.out.below hb1 HMB0.out.lt)
  have HRB1 := Lib.hid (HRB0.out.below hb1 HRB0.out.lt)
  clear hb1
  have c2 := (HC.out _ HB1.out).bc.cell 2
  simp at c2
  have m2 := (msgAt (m := ⟨8, r2, r3, r4, r5, r6, r7, r8, r9, r10, r11, r12, r13⟩) HMB1.out).c2
  have hz1 : w.heap.size + 2 ≤ w1.heap.size := by have := HRB1.out.lt; omega
  simp only at m2
  have hcb1 : cb < w1.heap.size := by omega
  have hcm1 : w.heap.size < w1.heap.size := by omega
  go_wp2_with fail
  go_cut [6, 7] (fun s6 s7 wx => ∃ g : Nat, s6 = .pointer (some ⟨g, 0, none⟩) ∧ s7 = .bool true ∧ Below w1.heap.size w1 wx ∧ w1.heap.size ≤ g ∧ Hid (Blk wx g 69 (Ent.cells ⟨x0, x1, x2, x3, x4, x5, x6, x7, x8, false⟩)))
  case first =>
    go_region_held3 (fun w' => w'.cell? ⟨cb, 2, none⟩ = some (.pointer (some ⟨ab, 0, none⟩)) ∧ w'.cell? ⟨w.heap.size, 2, none⟩ = some (.int .i64 r3)) (first | (go_keep; done) | (refine ⟨?_, ?_⟩ <;> first | (go_keep; done) | (simp [World.cell?_setCell_other, *]; done))) ((go_at_call 26; refine (HAG.out _ (by first | exact HB1.out.drew | exact (Below.alloc HB1.out HB1.out.size _).drew)).mono ?_; rintro e w3 ⟨rfl, hb3⟩; have q1 := hb3.cell (p := ⟨cb, 2, none⟩) (by simp; omega); have q2 := hb3.cell (p := ⟨w.heap.size, 2, none⟩) (by simp; try omega); simp [World.cell?_alloc_lt, hcb1, hcm1, Nat.ne_of_lt hcb1, Nat.ne_of_lt hcm1, c2, m2] at q1 q2; first | (have hz : Blk w3 w1.heap.size 69 Ent.zero.cells := Blk.below (blk_newd _ Ent.zero.cells _ _ (by simp)) hb3 (by simp); obtain ⟨z0, z1, z2, z3, z4, z5, z6, z7, z8, z9⟩ := entAt0 hz; obtain ⟨y0, y1, y2, y3, y4, y5, y6, y7, y8, y9⟩ := entFree hz; simp only [Nat.zero_add] at z1 z2 z3 z4 z5 z6 z7 z8 z9; have HZ := Lib.hid hz; clear hz) | skip))
    · have hw3 : Below w1.heap.size w1 w3 := ((Below.refl _ w1).drew).trans (hb3.mono (by simp))
      have HAl := Lib.hid (fun o : Obj => Below.alloc hw3 hw3.size o)
      have hz3 := hw3.size
      clear hb3 hw3 q1 q2
      go_wp2_with fail
      go_meet
      exact ⟨w3.heap.size, rfl, rfl, HAl.out _, hz3, blk_new _ (Ent.cells ⟨x0, x1, x2, x3, x4, x5, x6, x7, x8, false⟩) _ _ rfl⟩
    · have hw3 : Below w1.heap.size w1 w3 := (((Below.refl _ w1).alloc (Nat.le_refl _) _).drew).trans (hb3.mono (by simp))
      have HW3 := Lib.hid hw3
      clear hb3 hw3 q1 q2
      go_wp2_with fail
      go_meet
      obtain ⟨po, pb⟩ := put10 HZ.out x0 x1 x2 x3 x4 x5 x6 x7 x8 false
      exact ⟨_, rfl, rfl, HW3.out.trans (po.below.mono (Nat.le_refl _)), Nat.le_refl _, pb⟩
  case rest =>
  obtain ⟨ge, rfl, rfl, hwx, hge, HE2⟩ := hcut
  have HB2 := Lib.hid (HB1.out.trans (hwx.mono HB1.out.size))
  have HMB2 := Lib.hid (HMB1.out.below hwx HMB1.out.lt)
  have HRB2 := Lib.hid (HRB1.out.below hwx HRB1.out.lt)
  have hwx4 := hwx
  clear hwx c2 m2
  have e9 := (entAt0 HE2.out).c9
  simp only [Nat.zero_add] at e9
  have c3 := (HC.out _ HB2.out).bc.cell 3
  simp at c3
  have m0 := (msgAt (m := ⟨8, r2, r3, r4, r5, r6, r7, r8, r9, r10, r11, r12, r13⟩) HMB2.out).c2
  simp only at m0
  have k3 := cell_regrown c3
  have km := cell_regrown m0
  have HG6 := Lib.hid (fun d os => Calls.regrown_of (w := wc) (d := d) (os := os) (HMS.out _ (HB2.out.trans ((below_regrown wc d os).mono HB2.out.size))))
  clear c3 m0
  go_wp2_with fail
  refine wp_region_quiet_below (by kernel_rfl) (by kernel_rfl) ?_
  repeat (go_big_quiet_step (exact HG6.out _ _))
  refine wpQuiet_nil ?_
  intro _ hw'
  obtain ⟨⟨dq, osq⟩, hw''⟩ := hw'
  subst hw''
  have hb4 := below_regrown wc dq osq
  clear k3 km
  generalize grow (redrawn wc dq) osq = w4 at hb4 ⊢
  have HB4 := Lib.hid (HB2.out.trans (hb4.mono HB2.out.size))
  have HMB4 := Lib.hid (HMB2.out.below hb4 HMB2.out.lt)
  have HRB4 := Lib.hid (HRB2.out.below hb4 HRB2.out.lt)
  have HE4 := Lib.hid (HE2.out.below hb4 HE2.out.lt)
  have HX4 := Lib.hid (hwx4.trans (hb4.mono hwx4.size))
  clear hb4 e9 hwx4
  have m0 := (msgAt (m := ⟨8, r2, r3, r4, r5, r6, r7, r8, r9, r10, r11, r12, r13⟩) HMB4.out).c0
  simp only at m0
  have c0 := (HC.out _ HB4.out).bc.cell 0
  simp at c0
  have m2 := (msgAt (m := ⟨8, r2, r3, r4, r5, r6, r7, r8, r9, r10, r11, r12, r13⟩) HMB4).c2
  simp only at m2
  have hcb9 := (HC.out _ HB4.out).bc.lt
  have hcm9 := HMB4.lt
  have hrb9 := HRB4.lt
  go_wp2_with fail
  go_region_held3 (fun w' => w'.cell? ⟨cb, 0, none⟩ = some (.int .i64 c.core) ∧ w'.cell? ⟨w.heap.size, 2, none⟩ = some (.int .i64 r3)) (first | (go_keep; done) | (refine ⟨?_, ?_⟩ <;> first | (go_keep; done) | (simp [World.cell?_setCell_other, *]; done))) (fail)
  clear c0 m2
  have hge9 := HE4.out.lt
  have ng1 : ge ≠ w4.heap.size := by omega
  have ng2 : w.heap.size ≠ w4.heap.size := by omega
  have m0 := (msgAt (m := ⟨8, r2, r3, r4, r5, r6, r7, r8, r9, r10, r11, r12, r13⟩) HMB4.out).c0
  have m4 := (msgAt (m := ⟨8, r2, r3, r4, r5, r6, r7, r8, r9, r10, r11, r12, r13⟩) HMB4.out).c4
  obtain ⟨e0, e1, e2, e3, e4, e5, e6, e7, e8, e9⟩ := entAt0 HE4.out
  simp only [Nat.zero_add] at m0 m4 e1 e2 e3 e4 e5 e6 e7 e8 e9
  have hz1 : (s' == 0) = false := by simpa using hz
  clear hz
  · go_wp2_with (first | (go_at_call 38; refine (HNX.out _).mono ?_; rintro e w' ⟨rfl, rfl⟩) | (refine wl_storeV rfl (.tmp 85) (.tmp 84) 3 rfl ge 1 69 [.int .i64 s'] (.int .i64 s') rfl rfl rfl intSize1 _ (HE4.out.below (Below.alloc (Below.refl _ _) (Nat.le_refl _) _).drew HE4.out.lt) (one1 _ rfl) (by simp [Ent.cells]) ?d1))
    case d1 =>
      intro w7 ho7 hblk7
      have HE7 := Lib.hid (show Blk w7 ge 69 (Ent.cells ⟨x0, s', x2, x3, x4, x5, x6, x7, x8, false⟩) from hblk7)
      have HO7 := Lib.hid (ho7.blk (blk_newd w4 (Msg.cells ⟨11, c.core, r3, s', 0, 0, 0, 0, 0, 0, 0, 0, false⟩) 33 _ rfl) (Ne.symm ng1))
      have hbn := (Below.alloc (Below.refl w4.heap.size w4) (Nat.le_refl _) (.cells (Msg.cells ⟨11, c.core, r3, s', 0, 0, 0, 0, 0, 0, 0, 0, false⟩).toArray 33)).drew
      have HMB7 := Lib.hid (ho7.blk (HMB4.out.below hbn HMB4.out.lt) (by omega))
      have HRB7 := Lib.hid (ho7.blk (HRB4.out.below hbn HRB4.out.lt) (by omega))
      have HB7 := Lib.hid ((HB4.out.trans (hbn.mono HB4.out.size)).trans (ho7.below.mono (by omega)))
      have HC7 := Lib.hid (HC.out _ HB7.out)
      have HX7 := Lib.hid ((HX4.out.trans (hbn.mono HX4.out.size)).trans (ho7.below.mono hge))
      have HF7 := Lib.hid (FrL.below (cb :: ab :: sb :: (wbs ++ L)) HX7.out)
      have HGR := Lib.hid (Grow.refl w1 L)
      clear ho7 hblk7 hbn e0 e1 e2 e3 e4 e5 e6 e7 e8 e9 m0 m4
      obtain ⟨e0, e1, e2, e3, e4, e5, e6, e7, e8, e9⟩ := entAt0 HE7.out
      obtain ⟨m0, m1, m2, m3, m4, m5, m6, m7, m8, m9, m10, m11, m12⟩ := msgAt (m := ⟨8, r2, r3, r4, r5, r6, r7, r8, r9, r10, r11, r12, r13⟩) HMB7.out
      simp only [Nat.zero_add] at e0 m0 m2 m4 m5 m6 m7 e1 e2 e3 e4 e5 e6 e7 e8 e9
      clear m1 m3 m8 m9 m10 m11 m12
      go_wp2_with (refine wl_storeV rfl (.tmp 93) (.const (.bool false)) 4 rfl ge 8 69 [.bool false] (.bool false) rfl rfl rfl boolSize1 _ HE7.out (one1 _ rfl) (by simp [Ent.cells]) ?d2)
      case d2 =>
      intro w8 ho8 hblk8
      have HE8 := Lib.hid (show Blk w8 ge 69 (Ent.cells ⟨x0, s', x2, x3, x4, x5, x6, x7, false, false⟩) from hblk8)
      have HO8 := Lib.hid (ho8.blk HO7.out (Ne.symm ng1))
      have HMB8 := Lib.hid (ho8.blk HMB7.out (by omega))
      have HRB8 := Lib.hid (ho8.blk HRB7.out (by omega))
      have HB8 := Lib.hid (HB7.out.trans (ho8.below.mono (by omega)))
      have HC8 := Lib.hid (HC.out _ HB8.out)
      have HX8 := Lib.hid (HX7.out.trans (ho8.below.mono hge))
      have HF8 := Lib.hid (FrL.below (cb :: ab :: sb :: (wbs ++ L)) HX8.out)
      clear ho8 hblk8
      clear e0 e1 e2 e3 e4 e5 e6 e7 e8 e9 m0 m2 m4 m5 m6 m7
      obtain ⟨e0, e1, e2, e3, e4, e5, e6, e7, e8, e9⟩ := entAt0 HE8.out
      obtain ⟨m0, m1, m2, m3, m4, m5, m6, m7, m8, m9, m10, m11, m12⟩ := msgAt (m := ⟨8, r2, r3, r4, r5, r6, r7, r8, r9, r10, r11, r12, r13⟩) HMB8.out
      simp only [Nat.zero_add] at e0 m0 m2 m4 m5 m6 m7 e1 e2 e3 e4 e5 e6 e7 e8 e9
      clear m1 m3 m8 m9 m10 m11 m12
      have hww : r7 = 3 := HW7.out
      subst hww
      go_wp2_with (refine wl_storeV rfl (.tmp 99) (.tmp 97) 29 rfl ge 7 69 [.int .u32 r8] (.int .u32 r8) rfl rfl rfl u32Size1 _ HE8.out (one1 _ rfl) (by simp [Ent.cells]) ?d3)
      case d3 =>
      intro w9 ho9 hblk9
      have HE9 := Lib.hid (show Blk w9 ge 69 (Ent.cells ⟨x0, s', x2, x3, x4, x5, x6, r8, false, false⟩) from hblk9)
      have HO9 := Lib.hid (ho9.blk HO8.out (Ne.symm ng1))
      have HMB9 := Lib.hid (ho9.blk HMB8.out (by omega))
      have HRB9 := Lib.hid (ho9.blk HRB8.out (by omega))
      have HB9 := Lib.hid (HB8.out.trans (ho9.below.mono (by omega)))
      have HC9 := Lib.hid (HC.out _ HB9.out)
      have HX9 := Lib.hid (HX8.out.trans (ho9.below.mono hge))
      have HF9 := Lib.hid (FrL.below (cb :: ab :: sb :: (wbs ++ L)) HX9.out)
      clear ho9 hblk9
      clear e0 e1 e2 e3 e4 e5 e6 e7 e8 e9 m0 m2 m4 m5 m6 m7
      obtain ⟨e0, e1, e2, e3, e4, e5, e6, e7, e8, e9⟩ := entAt0 HE9.out
      obtain ⟨m0, m1, m2, m3, m4, m5, m6, m7, m8, m9, m10, m11, m12⟩ := msgAt (m := ⟨8, r2, r3, r4, r5, r6, 3, r8, r9, r10, r11, r12, r13⟩) HMB9.out
      simp only [Nat.zero_add] at e0 m0 m2 m4 m5 m6 m7 e1 e2 e3 e4 e5 e6 e7 e8 e9
      clear m1 m3 m8 m9 m10 m11 m12
      have c2 := HC9.out.bc.cell 2
      simp at c2
      go_wp2_with fail
      go_still_tail 5, (by kernel_rfl)
      change wpList _ _ _ _ _ w9.drew
      have HCd : Hid (CR B w9.drew cb ab sb tb wbs L _) := HC9.out.below ((Below.refl _ _).drew)
      have HFd : Hid (FrL (cb :: ab :: sb :: (wbs ++ L)) w1 w9.drew) := HF9.out.drew
      have HOd : Hid (Blk w9.drew _ _ _) := HO9.out
      have HRd : Hid (Blk w9.drew _ _ _) := HRB9.out
      have HLE : Hid (B ≤ w9.drew.heap.size) := by have := HF9.out.size; have := HB1.out.size; show B ≤ w9.heap.size; omega
      clear c2
      clear e0 e1 e2 e3 e4 e5 e6 e7 e8 e9 m0 m2 m4 m5 m6 m7
      generalize w9.drew = wd at HCd HFd HOd HRd HLE ⊢
      go_wp2_with fail
      refine (put_calls B c.n c.k c.A A' ⟨x0, s', x2, x3, x4, x5, x6, r8, false, false⟩ ab sb wbs wd HCd.out.ok.a HCd.out.ar ⟨HOX.out.line, hs1, HOX.out.mode, HOX.out.epoch⟩ HLE.out HP.out).mono ?_
      rintro e wa ⟨rfl, haa, hka, hfa, hla⟩
      have HSa := Lib.hid (CStep.arr HCd.out HGR.out HFd.out haa hka hfa (fun T hT => Or.inl (by simpa using hT)) hla)
      have HOa := Lib.hid (HOd.out.fr hfa (by decide))
      have HRa := Lib.hid (HRd.out.fr hfa (by decide))
      obtain ⟨o0, o1, o2, o3, o4, o5, o6, o7, o8, o9, o10, o11, o12⟩ := msgAt HOa.out
      simp only at o0 o1 o2 o3 o4 o5 o6 o7 o8 o9 o10 o11 o12
      clear haa hka hfa hla
      go_wp2_with (refine wl_store rfl (.tmp 4) (.tmp 124) 33 rfl (w.heap.size + 1) 0 33 (Msg.cells ⟨11, c.core, r3, s', 0, 0, 0, 0, 0, 0, 0, 0, false⟩) rfl rfl msgSize _ HRa.out (msgOne _) (by simp [Msg.cells]) ?d9)
      case d9 =>
      intro wz hoz hblk
      have HK := Lib.hid (msgOver (m := Msg.zero) (m' := ⟨11, c.core, r3, s', 0, 0, 0, 0, 0, 0, 0, 0, false⟩) hblk)
      have HSz := Lib.hid (HSa.out.only HB1.out HLT.out (by omega) HRB1.out.lt hoz)
      clear hoz hblk
      go_wp2
      exact bodyPost_ret (v := .tuple #[Msg.val ⟨11, c.core, r3, s', 0, 0, 0, 0, 0, 0, 0, 0, false⟩, .bool true]) (results_msg2 Tryd.results16 ⟨11, c.core, r3, s', 0, 0, 0, 0, 0, 0, 0, 0, false⟩ _ rfl rfl HK.out) rfl ⟨rfl, HSz.out⟩

set_option maxRecDepth 100000 in
set_option maxHeartbeats 8000000 in
theorem fwd_9 (B : Nat) (c : Ca) (m : Msg) (p : Nat → Addr) (cb : Nat) (F : List Nat) (w : World) (h : CAt B w cb c F) (hB : B ≤ w.heap.size) (hmi : mineC c m 1 = true) (x : Ent) (hx : getA c.A m.line = some x) (hfr : x.fresh = false) (hk : m.kind = 9) (s' : Int) (hs : Bool) (hn : next x.state m.kind m.mode = (s', hs)) (hz : s' ≠ 0) (hs1 : 1 ≤ s' ∧ s' ≤ 4) (A' : Sets) (hp : putA c.A ({ x with state := s', mode := m.mode, epoch := m.epoch }) = some A') :
    Calls Tryd.prog 16 #[.pointer (some ⟨cb, 0, none⟩), m.val] w fun e w' => e = .returned (.tuple #[Msg.val ⟨11, c.core, m.line, s', 0, 0, 0, 0, if hs then x.d0 else 0, if hs then x.d1 else 0, if hs then x.d2 else 0, if hs then x.d3 else 0, hs⟩, .bool true]) ∧ CStep B w cb F w' { c with A := A' } := by
  have HF := Lib.hid (fun w1 (hb : Below w.heap.size w w1) => CStep.same h hb)
  have HLT := Lib.hid h.lt
  have HMI := Lib.hid (fun w1 (hb : Below w.heap.size w w1) => mine_calls B c m 1 cb F w1 (h.below hb))
  have HRI := Lib.hid (mine_right hmi)
  obtain ⟨hl', hwd, hst, hmd, hep⟩ := right_facts HRI.out.1
  have HWL := Lib.hid hl'
  clear hl'
  obtain ⟨ab, sb, tb, wbs, L, h, rfl⟩ := h
  have h8 := h.ok.m.most8
  have hlen := h.ok.m.len
  have HC := Lib.hid (fun w1 (hb : Below w.heap.size w w1) => h.below hb)
  have HMS := Lib.hid (fun w1 (hb : Below w.heap.size w w1) => get_calls c.M m.line c.most tb w1 (by omega) (h.tab.below hb).tab)
  have HAG := Lib.hid (fun w1 (hb : Below w.heap.size w w1) => aget_calls B c.n c.k c.A m.line ab sb wbs w1 h.ok.a (h.ar.below hb))
  have HOK := Lib.hid h.ok
  have hbc := h.bc.lt
  rw [hmi] at HMI
  unfold getV at HAG
  have hxo := (getA_some HOK.out.a hx).2.2.2.1
  rw [hx] at HAG
  simp only [Option.getD_some, Option.isSome_some] at HAG
  have HNX := Lib.hid (fun w1 => next_calls x.state m.kind m.mode w1)
  rw [hn] at HNX
  generalize (missOf c.M m.line).1 = mk at HMS
  generalize (missOf c.M m.line).2 = mb at HMS
  have HOX := Lib.hid hxo
  have HP := Lib.hid hp
  obtain ⟨x0, x1, x2, x3, x4, x5, x6, x7, x8, x9⟩ := x
  simp only [Ent.val] at HAG HNX hfr HOX ⊢
  simp only at HP
  subst hfr
  have HKK := Lib.hid hk
  clear h hmi hx hn hk hxo hp
  have HMB := Lib.hid (blk_new w m.cells 33 _ rfl)
  have hb0 := ((Below.refl w.heap.size w).alloc (Nat.le_refl _) (.cells m.cells.toArray 33)).alloc (by simp) (.cells Msg.zero.cells.toArray 33)
  have HMB0 := Lib.hid (HMB.out.below ((Below.refl _ _).alloc (Nat.le_refl _) (.cells Msg.zero.cells.toArray 33)) HMB.out.lt)
  have HRB0 := Lib.hid (blk_new (w.alloc (.cells m.cells.toArray 33)) Msg.zero.cells 33 (w.heap.size + 1) (by simp))
  have hz0 : ((w.alloc (.cells m.cells.toArray 33)).alloc (.cells Msg.zero.cells.toArray 33)).heap.size = w.heap.size + 2 := by simp
  have HB0 := Lib.hid hb0
  clear HMB hb0
  obtain ⟨r1, r2, r3, r4, r5, r6, r7, r8, r9, r10, r11, r12, r13⟩ := m
  have hkk := HKK.out
  simp only at hkk
  subst hkk
  simp only [Msg.cells, Msg.val, Msg.zero] at *
  go_enter Tryd.func16, Tryd.ntmps16
  go_wp2_with fail
  generalize (w.alloc (.cells #[.int .i64 9, .int .i64 r2, .int .i64 r3, .int .i64 r4, .int .i64 r5, .int .i64 r6, .int .i64 r7, .int .u32 r8, .int .u32 r9, .int .u32 r10, .int .u32 r11, .int .u32 r12, .bool r13] 33)).alloc (.cells #[.int .i64 0, .int .i64 0, .int .i64 0, .int .i64 0, .int .i64 0, .int .i64 0, .int .i64 0, .int .u32 0, .int .u32 0, .int .u32 0, .int .u32 0, .int .u32 0, .bool false] 33) = W at *
  refine (HMI.out _ HB0.out).mono ?_
  rintro e w1 ⟨rfl, hb1⟩
  have HB1 := Lib.hid (HB0.out.trans (hb1.mono HB0.out.size))
  have HMB1 := Lib.hid (HMB0.out.below hb1 HMB0.out.lt)
  have HRB1 := Lib.hid (HRB0.out.below hb1 HRB0.out.lt)
  clear hb1
  have c2 := (HC.out _ HB1.out).bc.cell 2
  simp at c2
  have m2 := (msgAt (m := ⟨9, r2, r3, r4, r5, r6, r7, r8, r9, r10, r11, r12, r13⟩) HMB1.out).c2
  have hz1 : w.heap.size + 2 ≤ w1.heap.size := by have := HRB1.out.lt; omega
  simp only at m2
  have hcb1 : cb < w1.heap.size := by omega
  have hcm1 : w.heap.size < w1.heap.size := by omega
  go_wp2_with fail
  go_cut [6, 7] (fun s6 s7 wx => ∃ g : Nat, s6 = .pointer (some ⟨g, 0, none⟩) ∧ s7 = .bool true ∧ Below w1.heap.size w1 wx ∧ w1.heap.size ≤ g ∧ Hid (Blk wx g 69 (Ent.cells ⟨x0, x1, x2, x3, x4, x5, x6, x7, x8, false⟩)))
  case first =>
    go_region_held3 (fun w' => w'.cell? ⟨cb, 2, none⟩ = some (.pointer (some ⟨ab, 0, none⟩)) ∧ w'.cell? ⟨w.heap.size, 2, none⟩ = some (.int .i64 r3)) (first | (go_keep; done) | (refine ⟨?_, ?_⟩ <;> first | (go_keep; done) | (simp [World.cell?_setCell_other, *]; done))) ((go_at_call 26; refine (HAG.out _ (by first | exact HB1.out.drew | exact (Below.alloc HB1.out HB1.out.size _).drew)).mono ?_; rintro e w3 ⟨rfl, hb3⟩; have q1 := hb3.cell (p := ⟨cb, 2, none⟩) (by simp; omega); have q2 := hb3.cell (p := ⟨w.heap.size, 2, none⟩) (by simp; try omega); simp [World.cell?_alloc_lt, hcb1, hcm1, Nat.ne_of_lt hcb1, Nat.ne_of_lt hcm1, c2, m2] at q1 q2; first | (have hz : Blk w3 w1.heap.size 69 Ent.zero.cells := Blk.below (blk_newd _ Ent.zero.cells _ _ (by simp)) hb3 (by simp); obtain ⟨z0, z1, z2, z3, z4, z5, z6, z7, z8, z9⟩ := entAt0 hz; obtain ⟨y0, y1, y2, y3, y4, y5, y6, y7, y8, y9⟩ := entFree hz; simp only [Nat.zero_add] at z1 z2 z3 z4 z5 z6 z7 z8 z9; have HZ := Lib.hid hz; clear hz) | skip))
    · have hw3 : Below w1.heap.size w1 w3 := ((Below.refl _ w1).drew).trans (hb3.mono (by simp))
      have HAl := Lib.hid (fun o : Obj => Below.alloc hw3 hw3.size o)
      have hz3 := hw3.size
      clear hb3 hw3 q1 q2
      go_wp2_with fail
      go_meet
      exact ⟨w3.heap.size, rfl, rfl, HAl.out _, hz3, blk_new _ (Ent.cells ⟨x0, x1, x2, x3, x4, x5, x6, x7, x8, false⟩) _ _ rfl⟩
    · have hw3 : Below w1.heap.size w1 w3 := (((Below.refl _ w1).alloc (Nat.le_refl _) _).drew).trans (hb3.mono (by simp))
      have HW3 := Lib.hid hw3
      clear hb3 hw3 q1 q2
      go_wp2_with fail
      go_meet
      obtain ⟨po, pb⟩ := put10 HZ.out x0 x1 x2 x3 x4 x5 x6 x7 x8 false
      exact ⟨_, rfl, rfl, HW3.out.trans (po.below.mono (Nat.le_refl _)), Nat.le_refl _, pb⟩
  case rest =>
  obtain ⟨ge, rfl, rfl, hwx, hge, HE2⟩ := hcut
  have HB2 := Lib.hid (HB1.out.trans (hwx.mono HB1.out.size))
  have HMB2 := Lib.hid (HMB1.out.below hwx HMB1.out.lt)
  have HRB2 := Lib.hid (HRB1.out.below hwx HRB1.out.lt)
  have hwx4 := hwx
  clear hwx c2 m2
  have e9 := (entAt0 HE2.out).c9
  simp only [Nat.zero_add] at e9
  have c3 := (HC.out _ HB2.out).bc.cell 3
  simp at c3
  have m0 := (msgAt (m := ⟨9, r2, r3, r4, r5, r6, r7, r8, r9, r10, r11, r12, r13⟩) HMB2.out).c2
  simp only at m0
  have k3 := cell_regrown c3
  have km := cell_regrown m0
  have HG6 := Lib.hid (fun d os => Calls.regrown_of (w := wc) (d := d) (os := os) (HMS.out _ (HB2.out.trans ((below_regrown wc d os).mono HB2.out.size))))
  clear c3 m0
  go_wp2_with fail
  refine wp_region_quiet_below (by kernel_rfl) (by kernel_rfl) ?_
  repeat (go_big_quiet_step (exact HG6.out _ _))
  refine wpQuiet_nil ?_
  intro _ hw'
  obtain ⟨⟨dq, osq⟩, hw''⟩ := hw'
  subst hw''
  have hb4 := below_regrown wc dq osq
  clear k3 km
  generalize grow (redrawn wc dq) osq = w4 at hb4 ⊢
  have HB4 := Lib.hid (HB2.out.trans (hb4.mono HB2.out.size))
  have HMB4 := Lib.hid (HMB2.out.below hb4 HMB2.out.lt)
  have HRB4 := Lib.hid (HRB2.out.below hb4 HRB2.out.lt)
  have HE4 := Lib.hid (HE2.out.below hb4 HE2.out.lt)
  have HX4 := Lib.hid (hwx4.trans (hb4.mono hwx4.size))
  clear hb4 e9 hwx4
  have m0 := (msgAt (m := ⟨9, r2, r3, r4, r5, r6, r7, r8, r9, r10, r11, r12, r13⟩) HMB4.out).c0
  simp only at m0
  have c0 := (HC.out _ HB4.out).bc.cell 0
  simp at c0
  have m2 := (msgAt (m := ⟨9, r2, r3, r4, r5, r6, r7, r8, r9, r10, r11, r12, r13⟩) HMB4).c2
  simp only at m2
  have hcb9 := (HC.out _ HB4.out).bc.lt
  have hcm9 := HMB4.lt
  have hrb9 := HRB4.lt
  go_wp2_with fail
  go_region_held3 (fun w' => w'.cell? ⟨cb, 0, none⟩ = some (.int .i64 c.core) ∧ w'.cell? ⟨w.heap.size, 2, none⟩ = some (.int .i64 r3)) (first | (go_keep; done) | (refine ⟨?_, ?_⟩ <;> first | (go_keep; done) | (simp [World.cell?_setCell_other, *]; done))) (fail)
  clear c0 m2
  have hge9 := HE4.out.lt
  have ng1 : ge ≠ w4.heap.size := by omega
  have ng2 : w.heap.size ≠ w4.heap.size := by omega
  have m0 := (msgAt (m := ⟨9, r2, r3, r4, r5, r6, r7, r8, r9, r10, r11, r12, r13⟩) HMB4.out).c0
  have m4 := (msgAt (m := ⟨9, r2, r3, r4, r5, r6, r7, r8, r9, r10, r11, r12, r13⟩) HMB4.out).c4
  obtain ⟨e0, e1, e2, e3, e4, e5, e6, e7, e8, e9⟩ := entAt0 HE4.out
  simp only [Nat.zero_add] at m0 m4 e1 e2 e3 e4 e5 e6 e7 e8 e9
  have hz1 : (s' == 0) = false := by simpa using hz
  clear hz
  cases hs
  · go_wp2_with (first | (go_at_call 38; refine (HNX.out _).mono ?_; rintro e w' ⟨rfl, rfl⟩) | (refine wl_storeV rfl (.tmp 85) (.tmp 84) 3 rfl ge 1 69 [.int .i64 s'] (.int .i64 s') rfl rfl rfl intSize1 _ (HE4.out.below (Below.alloc (Below.refl _ _) (Nat.le_refl _) _).drew HE4.out.lt) (one1 _ rfl) (by simp [Ent.cells]) ?d1))
    case d1 =>
      intro w7 ho7 hblk7
      have HE7 := Lib.hid (show Blk w7 ge 69 (Ent.cells ⟨x0, s', x2, x3, x4, x5, x6, x7, x8, false⟩) from hblk7)
      have HO7 := Lib.hid (ho7.blk (blk_newd w4 (Msg.cells ⟨11, c.core, r3, s', 0, 0, 0, 0, 0, 0, 0, 0, false⟩) 33 _ rfl) (Ne.symm ng1))
      have hbn := (Below.alloc (Below.refl w4.heap.size w4) (Nat.le_refl _) (.cells (Msg.cells ⟨11, c.core, r3, s', 0, 0, 0, 0, 0, 0, 0, 0, false⟩).toArray 33)).drew
      have HMB7 := Lib.hid (ho7.blk (HMB4.out.below hbn HMB4.out.lt) (by omega))
      have HRB7 := Lib.hid (ho7.blk (HRB4.out.below hbn HRB4.out.lt) (by omega))
      have HB7 := Lib.hid ((HB4.out.trans (hbn.mono HB4.out.size)).trans (ho7.below.mono (by omega)))
      have HC7 := Lib.hid (HC.out _ HB7.out)
      have HX7 := Lib.hid ((HX4.out.trans (hbn.mono HX4.out.size)).trans (ho7.below.mono hge))
      have HF7 := Lib.hid (FrL.below (cb :: ab :: sb :: (wbs ++ L)) HX7.out)
      have HGR := Lib.hid (Grow.refl w1 L)
      clear ho7 hblk7 hbn e0 e1 e2 e3 e4 e5 e6 e7 e8 e9 m0 m4
      obtain ⟨e0, e1, e2, e3, e4, e5, e6, e7, e8, e9⟩ := entAt0 HE7.out
      obtain ⟨m0, m1, m2, m3, m4, m5, m6, m7, m8, m9, m10, m11, m12⟩ := msgAt (m := ⟨9, r2, r3, r4, r5, r6, r7, r8, r9, r10, r11, r12, r13⟩) HMB7.out
      simp only [Nat.zero_add] at e0 m0 m2 m4 m5 m6 m7 e1 e2 e3 e4 e5 e6 e7 e8 e9
      clear m1 m3 m8 m9 m10 m11 m12
      obtain ⟨y0, y1, y2, y3, y4, y5, y6, y7, y8, y9⟩ := entFree HE7.out
      have h1 := setc HE7.out 2 (.int .i64 r5)
      have h2 := setc h1.2 3 (.int .i64 r6)
      have k1 := setc HE7.out 3 (.int .i64 r6)
      have k2 := setc k1.2 2 (.int .i64 r5)
      have HH := Lib.hid (And.intro (h1.1.trans h2.1) h2.2)
      have HK' := Lib.hid (And.intro (k1.1.trans k2.1) k2.2)
      clear h1 h2 k1 k2
      go_wp2_with fail
      go_region
      all_goals
        obtain ⟨w8, hw8, ho8, hblk8⟩ : ∃ w8, w8 = ((w7.setCell ⟨ge, 2, none⟩ (.int .i64 r5)).setCell ⟨ge, 3, none⟩ (.int .i64 r6)).drew ∧ Only ge w7 w8 ∧ Blk w8 ge 69 (Ent.cells ⟨x0, s', r5, r6, x4, x5, x6, x7, x8, false⟩) := ⟨_, rfl, HH.out.1.trans ⟨rfl, rfl, rfl, rfl, fun k hk => rfl⟩, HH.out.2⟩
        rw [← hw8]
        clear hw8
        clear y0 y1 y2 y3 y4 y5 y6 y7 y8 y9
        have HE8 := Lib.hid (show Blk w8 ge 69 (Ent.cells ⟨x0, s', r5, r6, x4, x5, x6, x7, x8, false⟩) from hblk8)
        have HO8 := Lib.hid (ho8.blk HO7.out (Ne.symm ng1))
        have HMB8 := Lib.hid (ho8.blk HMB7.out (by omega))
        have HRB8 := Lib.hid (ho8.blk HRB7.out (by omega))
        have HB8 := Lib.hid (HB7.out.trans (ho8.below.mono (by omega)))
        have HC8 := Lib.hid (HC.out _ HB8.out)
        have HX8 := Lib.hid (HX7.out.trans (ho8.below.mono hge))
        have HF8 := Lib.hid (FrL.below (cb :: ab :: sb :: (wbs ++ L)) HX8.out)
        clear ho8 hblk8
        clear e0 e1 e2 e3 e4 e5 e6 e7 e8 e9 m0 m2 m4 m5 m6 m7
        obtain ⟨e0, e1, e2, e3, e4, e5, e6, e7, e8, e9⟩ := entAt0 HE8.out
        obtain ⟨m0, m1, m2, m3, m4, m5, m6, m7, m8, m9, m10, m11, m12⟩ := msgAt (m := ⟨9, r2, r3, r4, r5, r6, r7, r8, r9, r10, r11, r12, r13⟩) HMB8.out
        simp only [Nat.zero_add] at e0 m0 m2 m4 m5 m6 m7 e1 e2 e3 e4 e5 e6 e7 e8 e9
        clear m1 m3 m8 m9 m10 m11 m12
        have c2 := HC8.out.bc.cell 2
        simp at c2
        go_wp2_with fail
        go_still_tail 5, (by kernel_rfl)
        change wpList _ _ _ _ _ w8.drew
        have HCd : Hid (CR B w8.drew cb ab sb tb wbs L _) := HC8.out.below ((Below.refl _ _).drew)
        have HFd : Hid (FrL (cb :: ab :: sb :: (wbs ++ L)) w1 w8.drew) := HF8.out.drew
        have HOd : Hid (Blk w8.drew _ _ _) := HO8.out
        have HRd : Hid (Blk w8.drew _ _ _) := HRB8.out
        have HLE : Hid (B ≤ w8.drew.heap.size) := by have := HF8.out.size; have := HB1.out.size; show B ≤ w8.heap.size; omega
        clear c2
        clear e0 e1 e2 e3 e4 e5 e6 e7 e8 e9 m0 m2 m4 m5 m6 m7
        generalize w8.drew = wd at HCd HFd HOd HRd HLE ⊢
        go_wp2_with fail
        refine (put_calls B c.n c.k c.A A' ⟨x0, s', r5, r6, x4, x5, x6, x7, x8, false⟩ ab sb wbs wd HCd.out.ok.a HCd.out.ar ⟨HOX.out.line, hs1, ⟨hmd.1, hmd.2⟩, ⟨hep.1, hep.2⟩⟩ HLE.out HP.out).mono ?_
        rintro e wa ⟨rfl, haa, hka, hfa, hla⟩
        have HSa := Lib.hid (CStep.arr HCd.out HGR.out HFd.out haa hka hfa (fun T hT => Or.inl (by simpa using hT)) hla)
        have HOa := Lib.hid (HOd.out.fr hfa (by decide))
        have HRa := Lib.hid (HRd.out.fr hfa (by decide))
        obtain ⟨o0, o1, o2, o3, o4, o5, o6, o7, o8, o9, o10, o11, o12⟩ := msgAt HOa.out
        simp only at o0 o1 o2 o3 o4 o5 o6 o7 o8 o9 o10 o11 o12
        clear haa hka hfa hla
        go_wp2_with (refine wl_store rfl (.tmp 4) (.tmp 124) 33 rfl (w.heap.size + 1) 0 33 (Msg.cells ⟨11, c.core, r3, s', 0, 0, 0, 0, 0, 0, 0, 0, false⟩) rfl rfl msgSize _ HRa.out (msgOne _) (by simp [Msg.cells]) ?d9)
        case d9 =>
        intro wz hoz hblk
        have HK := Lib.hid (msgOver (m := Msg.zero) (m' := ⟨11, c.core, r3, s', 0, 0, 0, 0, 0, 0, 0, 0, false⟩) hblk)
        have HSz := Lib.hid (HSa.out.only HB1.out HLT.out (by omega) HRB1.out.lt hoz)
        clear hoz hblk
        go_wp2
        exact bodyPost_ret (v := .tuple #[Msg.val ⟨11, c.core, r3, s', 0, 0, 0, 0, 0, 0, 0, 0, false⟩, .bool true]) (results_msg2 Tryd.results16 ⟨11, c.core, r3, s', 0, 0, 0, 0, 0, 0, 0, 0, false⟩ _ rfl rfl HK.out) rfl ⟨rfl, HSz.out⟩
  · go_wp2_with (first | (go_at_call 38; refine (HNX.out _).mono ?_; rintro e w' ⟨rfl, rfl⟩) | (refine wl_storeV rfl (.tmp 85) (.tmp 84) 3 rfl ge 1 69 [.int .i64 s'] (.int .i64 s') rfl rfl rfl intSize1 _ (HE4.out.below (Below.alloc (Below.refl _ _) (Nat.le_refl _) _).drew HE4.out.lt) (one1 _ rfl) (by simp [Ent.cells]) ?d1))
    case d1 =>
      intro w7 ho7 hblk7
      have HE7 := Lib.hid (show Blk w7 ge 69 (Ent.cells ⟨x0, s', x2, x3, x4, x5, x6, x7, x8, false⟩) from hblk7)
      have HO7 := Lib.hid (ho7.blk (blk_newd w4 (Msg.cells ⟨11, c.core, r3, s', 0, 0, 0, 0, x4, x5, x6, x7, true⟩) 33 _ rfl) (Ne.symm ng1))
      have hbn := (Below.alloc (Below.refl w4.heap.size w4) (Nat.le_refl _) (.cells (Msg.cells ⟨11, c.core, r3, s', 0, 0, 0, 0, x4, x5, x6, x7, true⟩).toArray 33)).drew
      have HMB7 := Lib.hid (ho7.blk (HMB4.out.below hbn HMB4.out.lt) (by omega))
      have HRB7 := Lib.hid (ho7.blk (HRB4.out.below hbn HRB4.out.lt) (by omega))
      have HB7 := Lib.hid ((HB4.out.trans (hbn.mono HB4.out.size)).trans (ho7.below.mono (by omega)))
      have HC7 := Lib.hid (HC.out _ HB7.out)
      have HX7 := Lib.hid ((HX4.out.trans (hbn.mono HX4.out.size)).trans (ho7.below.mono hge))
      have HF7 := Lib.hid (FrL.below (cb :: ab :: sb :: (wbs ++ L)) HX7.out)
      have HGR := Lib.hid (Grow.refl w1 L)
      clear ho7 hblk7 hbn e0 e1 e2 e3 e4 e5 e6 e7 e8 e9 m0 m4
      obtain ⟨e0, e1, e2, e3, e4, e5, e6, e7, e8, e9⟩ := entAt0 HE7.out
      obtain ⟨m0, m1, m2, m3, m4, m5, m6, m7, m8, m9, m10, m11, m12⟩ := msgAt (m := ⟨9, r2, r3, r4, r5, r6, r7, r8, r9, r10, r11, r12, r13⟩) HMB7.out
      simp only [Nat.zero_add] at e0 m0 m2 m4 m5 m6 m7 e1 e2 e3 e4 e5 e6 e7 e8 e9
      clear m1 m3 m8 m9 m10 m11 m12
      obtain ⟨y0, y1, y2, y3, y4, y5, y6, y7, y8, y9⟩ := entFree HE7.out
      have h1 := setc HE7.out 2 (.int .i64 r5)
      have h2 := setc h1.2 3 (.int .i64 r6)
      have k1 := setc HE7.out 3 (.int .i64 r6)
      have k2 := setc k1.2 2 (.int .i64 r5)
      have HH := Lib.hid (And.intro (h1.1.trans h2.1) h2.2)
      have HK' := Lib.hid (And.intro (k1.1.trans k2.1) k2.2)
      clear h1 h2 k1 k2
      go_wp2_with fail
      go_region
      all_goals
        obtain ⟨w8, hw8, ho8, hblk8⟩ : ∃ w8, w8 = ((w7.setCell ⟨ge, 2, none⟩ (.int .i64 r5)).setCell ⟨ge, 3, none⟩ (.int .i64 r6)).drew ∧ Only ge w7 w8 ∧ Blk w8 ge 69 (Ent.cells ⟨x0, s', r5, r6, x4, x5, x6, x7, x8, false⟩) := ⟨_, rfl, HH.out.1.trans ⟨rfl, rfl, rfl, rfl, fun k hk => rfl⟩, HH.out.2⟩
        rw [← hw8]
        clear hw8
        clear y0 y1 y2 y3 y4 y5 y6 y7 y8 y9
        have HE8 := Lib.hid (show Blk w8 ge 69 (Ent.cells ⟨x0, s', r5, r6, x4, x5, x6, x7, x8, false⟩) from hblk8)
        have HO8 := Lib.hid (ho8.blk HO7.out (Ne.symm ng1))
        have HMB8 := Lib.hid (ho8.blk HMB7.out (by omega))
        have HRB8 := Lib.hid (ho8.blk HRB7.out (by omega))
        have HB8 := Lib.hid (HB7.out.trans (ho8.below.mono (by omega)))
        have HC8 := Lib.hid (HC.out _ HB8.out)
        have HX8 := Lib.hid (HX7.out.trans (ho8.below.mono hge))
        have HF8 := Lib.hid (FrL.below (cb :: ab :: sb :: (wbs ++ L)) HX8.out)
        clear ho8 hblk8
        clear e0 e1 e2 e3 e4 e5 e6 e7 e8 e9 m0 m2 m4 m5 m6 m7
        obtain ⟨e0, e1, e2, e3, e4, e5, e6, e7, e8, e9⟩ := entAt0 HE8.out
        obtain ⟨m0, m1, m2, m3, m4, m5, m6, m7, m8, m9, m10, m11, m12⟩ := msgAt (m := ⟨9, r2, r3, r4, r5, r6, r7, r8, r9, r10, r11, r12, r13⟩) HMB8.out
        simp only [Nat.zero_add] at e0 m0 m2 m4 m5 m6 m7 e1 e2 e3 e4 e5 e6 e7 e8 e9
        clear m1 m3 m8 m9 m10 m11 m12
        have c2 := HC8.out.bc.cell 2
        simp at c2
        go_wp2_with fail
        go_still_tail 5, (by kernel_rfl)
        change wpList _ _ _ _ _ w8.drew
        have HCd : Hid (CR B w8.drew cb ab sb tb wbs L _) := HC8.out.below ((Below.refl _ _).drew)
        have HFd : Hid (FrL (cb :: ab :: sb :: (wbs ++ L)) w1 w8.drew) := HF8.out.drew
        have HOd : Hid (Blk w8.drew _ _ _) := HO8.out
        have HRd : Hid (Blk w8.drew _ _ _) := HRB8.out
        have HLE : Hid (B ≤ w8.drew.heap.size) := by have := HF8.out.size; have := HB1.out.size; show B ≤ w8.heap.size; omega
        clear c2
        clear e0 e1 e2 e3 e4 e5 e6 e7 e8 e9 m0 m2 m4 m5 m6 m7
        generalize w8.drew = wd at HCd HFd HOd HRd HLE ⊢
        go_wp2_with fail
        refine (put_calls B c.n c.k c.A A' ⟨x0, s', r5, r6, x4, x5, x6, x7, x8, false⟩ ab sb wbs wd HCd.out.ok.a HCd.out.ar ⟨HOX.out.line, hs1, ⟨hmd.1, hmd.2⟩, ⟨hep.1, hep.2⟩⟩ HLE.out HP.out).mono ?_
        rintro e wa ⟨rfl, haa, hka, hfa, hla⟩
        have HSa := Lib.hid (CStep.arr HCd.out HGR.out HFd.out haa hka hfa (fun T hT => Or.inl (by simpa using hT)) hla)
        have HOa := Lib.hid (HOd.out.fr hfa (by decide))
        have HRa := Lib.hid (HRd.out.fr hfa (by decide))
        obtain ⟨o0, o1, o2, o3, o4, o5, o6, o7, o8, o9, o10, o11, o12⟩ := msgAt HOa.out
        simp only at o0 o1 o2 o3 o4 o5 o6 o7 o8 o9 o10 o11 o12
        clear haa hka hfa hla
        go_wp2_with (refine wl_store rfl (.tmp 4) (.tmp 124) 33 rfl (w.heap.size + 1) 0 33 (Msg.cells ⟨11, c.core, r3, s', 0, 0, 0, 0, x4, x5, x6, x7, true⟩) rfl rfl msgSize _ HRa.out (msgOne _) (by simp [Msg.cells]) ?d9)
        case d9 =>
        intro wz hoz hblk
        have HK := Lib.hid (msgOver (m := Msg.zero) (m' := ⟨11, c.core, r3, s', 0, 0, 0, 0, x4, x5, x6, x7, true⟩) hblk)
        have HSz := Lib.hid (HSa.out.only HB1.out HLT.out (by omega) HRB1.out.lt hoz)
        clear hoz hblk
        go_wp2
        exact bodyPost_ret (v := .tuple #[Msg.val ⟨11, c.core, r3, s', 0, 0, 0, 0, x4, x5, x6, x7, true⟩, .bool true]) (results_msg2 Tryd.results16 ⟨11, c.core, r3, s', 0, 0, 0, 0, x4, x5, x6, x7, true⟩ _ rfl rfl HK.out) rfl ⟨rfl, HSz.out⟩

end Go.Proofs.YtnieambhpmnliaaDoor
