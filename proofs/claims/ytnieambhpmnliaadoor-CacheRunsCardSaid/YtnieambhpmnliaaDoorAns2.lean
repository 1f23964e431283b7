/- A cache: Answer: a word is written. Printed by gen_ans.py. -/
import Derived.Test.YtnieambhpmnliaaDoorAns
import Derived.Deep.DeepCutAuto
import Derived.Deep.RegionHeld3
namespace Go.Proofs.YtnieambhpmnliaaDoor
set_option linter.all false
set_option linter.unusedVariables false
set_option linter.unusedSimpArgs false
open Go Go.RowKit Go.Sort

set_option maxRecDepth 100000 in
set_option maxHeartbeats 8000000 in
theorem ans_14_0 (B : Nat) (c : Ca) (m : Msg) (p : Nat → Addr) (cb : Nat) (F : List Nat) (w : World) (h : CAt B w cb c F) (hg : Sent B w p) (hmi : mineC c m 3 = true) (x : Ent) (hx : getA c.A m.line = some x) (hk : m.kind = 14) (hw : m.word = 0) (A' : Sets) (hp : putA c.A { x with held := false, d0 := m.value } = some A') :
    Calls Tryd.prog 12 #[.pointer (some ⟨cb, 0, none⟩), m.val] w fun e w' => e = .returned (.tuple #[Msg.val { Msg.zero with kind := 12, core := c.core, line := m.line }, .bool true]) ∧ CStep B w cb F w' { c with A := touchA A' m.line, M := dropM c.M m.line } := by
  have hB := hg.size
  have HF := Lib.hid (fun w1 (hb : Below w.heap.size w w1) => CStep.same h hb)
  have HLT := Lib.hid h.lt
  have HMI := Lib.hid (fun w1 (hb : Below w.heap.size w w1) => mine_calls B c m 3 cb F w1 (h.below hb))
  have HRI := Lib.hid (mine_right hmi)
  obtain ⟨hl', hwd, hst, hmd, hep⟩ := right_facts HRI.out.1
  have HWL := Lib.hid hl'
  clear hl'
  obtain ⟨ab, sb, tb, wbs, L, h, rfl⟩ := h
  have h8 := h.ok.m.most8
  have hlen := h.ok.m.len
  have HC := Lib.hid (fun w1 (hb : Below w.heap.size w w1) => h.below hb)
  have HMS := Lib.hid (fun w1 (hb : Below w.heap.size w w1) => get_calls c.M m.line c.most tb w1 (by omega) (h.tab.below hb).tab)
  have HAG := Lib.hid (fun w1 (hb : Below w.heap.size w w1) => aget_calls B c.n c.k c.A m.line ab sb wbs w1 h.ok.a (h.ar.below hb))
  have HOK := Lib.hid h.ok
  have hbc := h.bc.lt
  rw [hmi] at HMI
  unfold getV at HAG
  have HOX := Lib.hid (getA_some HOK.out.a hx).2.2.2.1
  rw [hx] at HAG
  simp only [Option.getD_some, Option.isSome_some] at HAG
  have HP := Lib.hid hp
  have HKK := Lib.hid hk
  have HW7 := Lib.hid hw
  obtain ⟨x0, x1, x2, x3, x4, x5, x6, x7, x8, x9⟩ := x
  simp only [Ent.val] at HAG HOX HP
  clear h hg hmi hx hk hw hp
  have HMB := Lib.hid (blk_new w m.cells 33 _ rfl)
  have hb0 := ((Below.refl w.heap.size w).alloc (Nat.le_refl _) (.cells m.cells.toArray 33)).alloc (by simp) (.cells Msg.zero.cells.toArray 33)
  have HMB0 := Lib.hid (HMB.out.below ((Below.refl _ _).alloc (Nat.le_refl _) (.cells Msg.zero.cells.toArray 33)) HMB.out.lt)
  have HRB0 := Lib.hid (blk_new (w.alloc (.cells m.cells.toArray 33)) Msg.zero.cells 33 (w.heap.size + 1) (by simp))
  have hz0 : ((w.alloc (.cells m.cells.toArray 33)).alloc (.cells Msg.zero.cells.toArray 33)).heap.size = w.heap.size + 2 := by simp
  have HB0 := Lib.hid hb0
  clear HMB hb0
  obtain ⟨r1, r2, r3, r4, r5, r6, r7, r8, r9, r10, r11, r12, r13⟩ := m
  have hkk := HKK.out
  simp only at hkk
  subst hkk
  simp only [Msg.cells, Msg.val, Msg.zero] at *
  go_enter Tryd.func12, Tryd.ntmps12
  go_wp2_with fail
  generalize (w.alloc (.cells #[.int .i64 14, .int .i64 r2, .int .i64 r3, .int .i64 r4, .int .i64 r5, .int .i64 r6, .int .i64 r7, .int .u32 r8, .int .u32 r9, .int .u32 r10, .int .u32 r11, .int .u32 r12, .bool r13] 33)).alloc (.cells #[.int .i64 0, .int .i64 0, .int .i64 0, .int .i64 0, .int .i64 0, .int .i64 0, .int .i64 0, .int .u32 0, .int .u32 0, .int .u32 0, .int .u32 0, .int .u32 0, .bool false] 33) = W at *
  refine (HMI.out _ HB0.out).mono ?_
  rintro e w1 ⟨rfl, hb1⟩
  have HB1 := Lib.hid (HB0.out.trans (hb1.mono HB0.out.size))
  have HMB1 := Lib.hid (HMB0.out.below hb1 HMB0.out.lt)
  have HRB1 := Lib.hid (HRB0.out.below hb1 HRB0.out.lt)
  clear hb1
  have c2 := (HC.out _ HB1.out).bc.cell 2
  simp at c2
  have m2 := (msgAt (m := ⟨14, r2, r3, r4, r5, r6, r7, r8, r9, r10, r11, r12, r13⟩) HMB1.out).c2
  have hz1 : w.heap.size + 2 ≤ w1.heap.size := by have := HRB1.out.lt; omega
  simp only at m2
  have hcb1 : cb < w1.heap.size := by omega
  have hcm1 : w.heap.size < w1.heap.size := by omega
  go_wp2_with fail
  go_cut [6, 7] (fun s6 s7 wx => ∃ g : Nat, s6 = .pointer (some ⟨g, 0, none⟩) ∧ s7 = .bool true ∧ Below w1.heap.size w1 wx ∧ w1.heap.size ≤ g ∧ Hid (Blk wx g 69 (Ent.cells ⟨x0, x1, x2, x3, x4, x5, x6, x7, x8, x9⟩)))
  case first =>
    go_region_held3 (fun w' => w'.cell? ⟨cb, 2, none⟩ = some (.pointer (some ⟨ab, 0, none⟩)) ∧ w'.cell? ⟨w.heap.size, 2, none⟩ = some (.int .i64 r3)) (first | (go_keep; done) | (refine ⟨?_, ?_⟩ <;> first | (go_keep; done) | (simp [World.cell?_setCell_other, *]; done))) ((go_at_call 26; refine (HAG.out _ (by first | exact HB1.out.drew | exact (Below.alloc HB1.out HB1.out.size _).drew)).mono ?_; rintro e w3 ⟨rfl, hb3⟩; have q1 := hb3.cell (p := ⟨cb, 2, none⟩) (by simp; omega); have q2 := hb3.cell (p := ⟨w.heap.size, 2, none⟩) (by simp; try omega); simp [World.cell?_alloc_lt, hcb1, hcm1, Nat.ne_of_lt hcb1, Nat.ne_of_lt hcm1, c2, m2] at q1 q2; first | (have hz : Blk w3 w1.heap.size 69 Ent.zero.cells := Blk.below (blk_newd _ Ent.zero.cells _ _ (by simp)) hb3 (by simp); obtain ⟨z0, z1, z2, z3, z4, z5, z6, z7, z8, z9⟩ := entAt0 hz; obtain ⟨y0, y1, y2, y3, y4, y5, y6, y7, y8, y9⟩ := entFree hz; simp only [Nat.zero_add] at z1 z2 z3 z4 z5 z6 z7 z8 z9; have HZ := Lib.hid hz; clear hz) | skip))
    · have hw3 : Below w1.heap.size w1 w3 := ((Below.refl _ w1).drew).trans (hb3.mono (by simp))
      have HAl := Lib.hid (fun o : Obj => Below.alloc hw3 hw3.size o)
      have hz3 := hw3.size
      clear hb3 hw3 q1 q2
      go_wp2_with fail
      go_meet
      exact ⟨w3.heap.size, rfl, rfl, HAl.out _, hz3, blk_new _ (Ent.cells ⟨x0, x1, x2, x3, x4, x5, x6, x7, x8, x9⟩) _ _ rfl⟩
    · have hw3 : Below w1.heap.size w1 w3 := (((Below.refl _ w1).alloc (Nat.le_refl _) _).drew).trans (hb3.mono (by simp))
      have HW3 := Lib.hid hw3
      clear hb3 hw3 q1 q2
      go_wp2_with fail
      go_meet
      obtain ⟨po, pb⟩ := put10 HZ.out x0 x1 x2 x3 x4 x5 x6 x7 x8 x9
      exact ⟨_, rfl, rfl, HW3.out.trans (po.below.mono (Nat.le_refl _)), Nat.le_refl _, pb⟩
  case rest =>
  obtain ⟨ge, rfl, rfl, hwx, hge, HE2⟩ := hcut
  have HB2 := Lib.hid (HB1.out.trans (hwx.mono HB1.out.size))
  have HMB2 := Lib.hid (HMB1.out.below hwx HMB1.out.lt)
  have HRB2 := Lib.hid (HRB1.out.below hwx HRB1.out.lt)
  have HX2 := Lib.hid hwx
  clear hwx c2 m2
  obtain ⟨e0, e1, e2, e3, e4, e5, e6, e7, e8, e9⟩ := entAt0 HE2.out
  obtain ⟨m0, m1, m2, m3, m4, m5, m6, m7, m8, m9, m10, m11, m12⟩ := msgAt (m := ⟨14, r2, r3, r4, r5, r6, r7, r8, r9, r10, r11, r12, r13⟩) HMB2.out
  simp only [Nat.zero_add] at e0 m0 m2 m3 m4 m5 m6 m7 m8 m9 m10 m11 m12 e1 e2 e3 e4 e5 e6 e7 e8 e9
  go_wp2_with (refine wl_storeV rfl (.tmp 64) (.const (.bool false)) 4 rfl ge 8 69 [.bool false] (.bool false) rfl rfl rfl boolSize1 _ HE2.out (one1 _ rfl) (by simp [Ent.cells]) ?d1)
  case d1 =>
  intro w3 ho3 hblk3
  have HE3 := Lib.hid (show Blk w3 ge 69 (Ent.cells ⟨x0, x1, x2, x3, x4, x5, x6, x7, false, x9⟩) from hblk3)
  have HMB3 := Lib.hid (ho3.blk HMB2.out (by omega))
  have HRB3 := Lib.hid (ho3.blk HRB2.out (by omega))
  have HB3 := Lib.hid (HB2.out.trans (ho3.below.mono (by omega)))
  have HX3 := Lib.hid (HX2.out.trans (ho3.below.mono hge))
  clear ho3 hblk3
  clear e0 e1 e2 e3 e4 e5 e6 e7 e8 e9 m0 m1 m2 m3 m4 m5 m6 m7 m8 m9 m10 m11 m12
  obtain ⟨e0, e1, e2, e3, e4, e5, e6, e7, e8, e9⟩ := entAt0 HE3.out
  obtain ⟨m0, m1, m2, m3, m4, m5, m6, m7, m8, m9, m10, m11, m12⟩ := msgAt (m := ⟨14, r2, r3, r4, r5, r6, r7, r8, r9, r10, r11, r12, r13⟩) HMB3.out
  simp only [Nat.zero_add] at e0 m0 m2 m3 m4 m5 m6 m7 m8 m9 m10 m11 m12 e1 e2 e3 e4 e5 e6 e7 e8 e9
  have hww : r7 = 0 := HW7.out
  subst hww
  go_wp2_with (refine wl_storeV rfl (.tmp 70) (.tmp 68) 29 rfl ge 4 69 [.int .u32 r8] (.int .u32 r8) rfl rfl rfl u32Size1 _ HE3.out (one1 _ rfl) (by simp [Ent.cells]) ?d2)
  case d2 =>
  intro w4 ho4 hblk4
  have HE4 := Lib.hid (show Blk w4 ge 69 (Ent.cells ⟨x0, x1, x2, x3, r8, x5, x6, x7, false, x9⟩) from hblk4)
  have HMB4 := Lib.hid (ho4.blk HMB3.out (by omega))
  have HRB4 := Lib.hid (ho4.blk HRB3.out (by omega))
  have HB4 := Lib.hid (HB3.out.trans (ho4.below.mono (by omega)))
  have HX4 := Lib.hid (HX3.out.trans (ho4.below.mono hge))
  clear ho4 hblk4
  clear e0 e1 e2 e3 e4 e5 e6 e7 e8 e9 m0 m1 m2 m3 m4 m5 m6 m7 m8 m9 m10 m11 m12
  obtain ⟨e0, e1, e2, e3, e4, e5, e6, e7, e8, e9⟩ := entAt0 HE4.out
  obtain ⟨m0, m1, m2, m3, m4, m5, m6, m7, m8, m9, m10, m11, m12⟩ := msgAt (m := ⟨14, r2, r3, r4, r5, r6, 0, r8, r9, r10, r11, r12, r13⟩) HMB4.out
  simp only [Nat.zero_add] at e0 m0 m2 m3 m4 m5 m6 m7 m8 m9 m10 m11 m12 e1 e2 e3 e4 e5 e6 e7 e8 e9
  have c2 := (HC.out _ HB4.out).bc.cell 2
  simp at c2
  have HCq := Lib.hid (HC.out _ HB4.out)
  have HFq := Lib.hid (FrL.below (cb :: ab :: sb :: (wbs ++ L)) HX4.out)
  have HMq := HMB4
  have HRq := HRB4
  go_wp2_with fail
  go_still_tail 5, (by kernel_rfl)
  change wpList _ _ _ _ _ w4.drew
  have HCd : Hid (CR B w4.drew cb ab sb tb wbs L _) := HCq.out.below ((Below.refl _ _).drew)
  have HFd : Hid (FrL (cb :: ab :: sb :: (wbs ++ L)) w1 w4.drew) := HFq.out.drew
  have HMd : Hid (Blk w4.drew _ _ _) := HMq.out
  have HRd : Hid (Blk w4.drew _ _ _) := HRq.out
  have HLd : Hid (B ≤ w4.drew.heap.size) := by have := HFq.out.size; have := HB1.out.size; show B ≤ w4.heap.size; omega
  clear c2
  clear e0 e1 e2 e3 e4 e5 e6 e7 e8 e9 m0 m1 m2 m3 m4 m5 m6 m7 m8 m9 m10 m11 m12
  generalize w4.drew = wd at HCd HFd HMd HRd HLd ⊢
  have HBd := Lib.hid HLd
  go_wp2_with fail
  refine (put_calls B c.n c.k c.A A' ⟨x0, x1, x2, x3, r8, x5, x6, x7, false, x9⟩ ab sb wbs wd HOK.out.a HCd.out.ar ⟨HOX.out.line, HOX.out.state, HOX.out.mode, HOX.out.epoch⟩ HLd.out HP.out).mono ?_
  rintro e wa ⟨rfl, haa, hka, hfa, hla⟩
  have HCa := Lib.hid (HCd.out.adone haa hka hfa (fun T hT => Or.inl (by simpa using hT)))
  have HFa := Lib.hid (HFd.out.trans (hla.sub (fun x hx => by simp at hx ⊢; rcases hx with h1 | h1 <;> simp [h1])))
  have HMa := Lib.hid (HMd.out.fr hfa (by decide))
  have HRa := Lib.hid (HRd.out.fr hfa (by decide))
  clear haa hka hfa hla
  have c2 := HCa.out.bc.cell 2
  have m2 := (msgAt (m := ⟨14, r2, r3, r4, r5, r6, 0, r8, r9, r10, r11, r12, r13⟩) HMa.out).c2
  simp at c2
  simp only at m2
  go_wp2_with fail
  go_still_tail 6, (by kernel_rfl)
  change wpList _ _ _ _ _ wa.drew
  have HCe : Hid (CR B wa.drew cb ab sb tb wbs L _) := HCa.out.below ((Below.refl _ _).drew)
  have HFe : Hid (FrL (cb :: ab :: sb :: (wbs ++ L)) w1 wa.drew) := HFa.out.drew
  have HMe : Hid (Blk wa.drew _ _ _) := HMa.out
  have HRe : Hid (Blk wa.drew _ _ _) := HRa.out
  have HLe : Hid (B ≤ wa.drew.heap.size) := by have := HFa.out.size; have := HB1.out.size; show B ≤ wa.heap.size; omega
  clear c2 m2
  generalize wa.drew = we at HCe HFe HMe HRe HLe ⊢
  go_wp2_with fail
  refine (atouch_calls B c.n c.k A' r3 ab sb wbs we HCe.out.ok.a HCe.out.ar HWL.out HLe.out).mono ?_
  rintro e wb ⟨rfl, hab, hkb, hfb, hlb⟩
  have HCb := Lib.hid (HCe.out.adone hab hkb hfb (fun T hT => Or.inr (by simpa using hT)))
  have HFb := Lib.hid (HFe.out.trans (hlb.sub (fun x hx => by simp at hx ⊢; rcases hx with h1 | h1 <;> simp [h1])))
  have HMb := Lib.hid (HMe.out.fr hfb (by decide))
  have HRb := Lib.hid (HRe.out.fr hfb (by decide))
  clear hab hkb hfb hlb
  have c3 := HCb.out.bc.cell 3
  have m2 := (msgAt (m := ⟨14, r2, r3, r4, r5, r6, 0, r8, r9, r10, r11, r12, r13⟩) HMb.out).c2
  simp at c3
  simp only at m2
  go_wp2_with fail
  go_still_tail 6, (by kernel_rfl)
  change wpList _ _ _ _ _ wb.drew
  have HCf : Hid (CR B wb.drew cb ab sb tb wbs L _) := HCb.out.below ((Below.refl _ _).drew)
  have HFf : Hid (FrL (cb :: ab :: sb :: (wbs ++ L)) w1 wb.drew) := HFb.out.drew
  have HMf : Hid (Blk wb.drew _ _ _) := HMb.out
  have HRf : Hid (Blk wb.drew _ _ _) := HRb.out
  have HLf : Hid (B ≤ wb.drew.heap.size) := by have := HFb.out.size; have := HB1.out.size; show B ≤ wb.heap.size; omega
  clear c3 m2
  generalize wb.drew = wf at HCf HFf HMf HRf HLf ⊢
  go_wp2_with fail
  refine (mdrop_calls B L c.M r3 c.most tb wf (by omega) HLf.out HCf.out.tab).mono ?_
  rintro e wg ⟨⟨bg, rfl⟩, ⟨L', hT, hG⟩, hfg, hlg⟩
  have HCg := Lib.hid (HCf.out.mdone hT hfg (dropM_ok c.M r3 c.most HOK.out.m))
  have HFg := Lib.hid (HFf.out.trans (hlg.sub (fun x hx => by simp [hx])))
  have HGg : Hid (Grow w1 L L') := ⟨hG.1, fun x hx => (hG.2 x hx).imp id (fun h => Nat.le_trans HFf.out.size h)⟩
  have HMg := Lib.hid (HMf.out.fr hfg (by decide))
  have HRg := Lib.hid (HRf.out.fr hfg (by decide))
  clear hT hG hfg hlg
  have c0 := HCg.out.bc.cell 0
  have m2 := (msgAt (m := ⟨14, r2, r3, r4, r5, r6, 0, r8, r9, r10, r11, r12, r13⟩) HMg.out).c2
  simp at c0
  simp only at m2
  go_wp2_with fail
  go_still_tail 7, (by kernel_rfl)
  change wpList _ _ _ _ _ wg.drew
  have HCh : Hid (CR B wg.drew cb ab sb tb wbs L' _) := HCg.out.below ((Below.refl _ _).drew)
  have HFh : Hid (FrL (cb :: ab :: sb :: (wbs ++ L)) w1 wg.drew) := HFg.out.drew
  have HMh : Hid (Blk wg.drew _ _ _) := HMg.out
  have HRh : Hid (Blk wg.drew _ _ _) := HRg.out
  have HLh : Hid (B ≤ wg.drew.heap.size) := by have := HFg.out.size; have := HB1.out.size; show B ≤ wg.heap.size; omega
  clear c0 m2
  generalize wg.drew = wh at HCh HFh HMh HRh HLh ⊢
  go_wp2_with (refine wl_store rfl (.tmp 4) (.tmp 99) 33 rfl (w.heap.size + 1) 0 33 (Msg.cells { Msg.zero with kind := 12, core := c.core, line := r3 }) rfl rfl msgSize _ HRh.out (msgOne _) (by simp [Msg.cells]) ?d9)
  case d9 =>
  intro wz hoz hblk
  have HK := Lib.hid (msgOver (m := Msg.zero) (m' := { Msg.zero with kind := 12, core := c.core, line := r3 }) hblk)
  have HSz := Lib.hid ((CStep.of HCh.out HGg.out HFh.out).only HB1.out HLT.out (by omega) HRB1.out.lt hoz)
  clear hoz hblk
  go_wp2
  exact bodyPost_ret (v := .tuple #[Msg.val { Msg.zero with kind := 12, core := c.core, line := r3 }, .bool true]) (results_msg2 Tryd.results12 { Msg.zero with kind := 12, core := c.core, line := r3 } _ rfl rfl HK.out) rfl ⟨rfl, HSz.out⟩

set_option maxRecDepth 100000 in
set_option maxHeartbeats 8000000 in
theorem ans_14_1 (B : Nat) (c : Ca) (m : Msg) (p : Nat → Addr) (cb : Nat) (F : List Nat) (w : World) (h : CAt B w cb c F) (hg : Sent B w p) (hmi : mineC c m 3 = true) (x : Ent) (hx : getA c.A m.line = some x) (hk : m.kind = 14) (hw : m.word = 1) (A' : Sets) (hp : putA c.A { x with held := false, d1 := m.value } = some A') :
    Calls Tryd.prog 12 #[.pointer (some ⟨cb, 0, none⟩), m.val] w fun e w' => e = .returned (.tuple #[Msg.val { Msg.zero with kind := 12, core := c.core, line := m.line }, .bool true]) ∧ CStep B w cb F w' { c with A := touchA A' m.line, M := dropM c.M m.line } := by
  have hB := hg.size
  have HF := Lib.hid (fun w1 (hb : Below w.heap.size w w1) => CStep.same h hb)
  have HLT := Lib.hid h.lt
  have HMI := Lib.hid (fun w1 (hb : Below w.heap.size w w1) => mine_calls B c m 3 cb F w1 (h.below hb))
  have HRI := Lib.hid (mine_right hmi)
  obtain ⟨hl', hwd, hst, hmd, hep⟩ := right_facts HRI.out.1
  have HWL := Lib.hid hl'
  clear hl'
  obtain ⟨ab, sb, tb, wbs, L, h, rfl⟩ := h
  have h8 := h.ok.m.most8
  have hlen := h.ok.m.len
  have HC := Lib.hid (fun w1 (hb : Below w.heap.size w w1) => h.below hb)
  have HMS := Lib.hid (fun w1 (hb : Below w.heap.size w w1) => get_calls c.M m.line c.most tb w1 (by omega) (h.tab.below hb).tab)
  have HAG := Lib.hid (fun w1 (hb : Below w.heap.size w w1) => aget_calls B c.n c.k c.A m.line ab sb wbs w1 h.ok.a (h.ar.below hb))
  have HOK := Lib.hid h.ok
  have hbc := h.bc.lt
  rw [hmi] at HMI
  unfold getV at HAG
  have HOX := Lib.hid (getA_some HOK.out.a hx).2.2.2.1
  rw [hx] at HAG
  simp only [Option.getD_some, Option.isSome_some] at HAG
  have HP := Lib.hid hp
  have HKK := Lib.hid hk
  have HW7 := Lib.hid hw
  obtain ⟨x0, x1, x2, x3, x4, x5, x6, x7, x8, x9⟩ := x
  simp only [Ent.val] at HAG HOX HP
  clear h hg hmi hx hk hw hp
  have HMB := Lib.hid (blk_new w m.cells 33 _ rfl)
  have hb0 := ((Below.refl w.heap.size w).alloc (Nat.le_refl _) (.cells m.cells.toArray 33)).alloc (by simp) (.cells Msg.zero.cells.toArray 33)
  have HMB0 := Lib.hid (HMB.out.below ((Below.refl _ _).alloc (Nat.le_refl _) (.cells Msg.zero.cells.toArray 33)) HMB.out.lt)
  have HRB0 := Lib.hid (blk_new (w.alloc (.cells m.cells.toArray 33)) Msg.zero.cells 33 (w.heap.size + 1) (by simp))
  have hz0 : ((w.alloc (.cells m.cells.toArray 33)).alloc (.cells Msg.zero.cells.toArray 33)).heap.size = w.heap.size + 2 := by simp
  have HB0 := Lib.hid hb0
  clear HMB hb0
  obtain ⟨r1, r2, r3, r4, r5, r6, r7, r8, r9, r10, r11, r12, r13⟩ := m
  have hkk := HKK.out
  simp only at hkk
  subst hkk
  simp only [Msg.cells, Msg.val, Msg.zero] at *
  go_enter Tryd.func12, Tryd.ntmps12
  go_wp2_with fail
  generalize (w.alloc (.cells #[.int .i64 14, .int .i64 r2, .int .i64 r3, .int .i64 r4, .int .i64 r5, .int .i64 r6, .int .i64 r7, .int .u32 r8, .int .u32 r9, .int .u32 r10, .int .u32 r11, .int .u32 r12, .bool r13] 33)).alloc (.cells #[.int .i64 0, .int .i64 0, .int .i64 0, .int .i64 0, .int .i64 0, .int .i64 0, .int .i64 0, .int .u32 0, .int .u32 0, .int .u32 0, .int .u32 0, .int .u32 0, .bool false] 33) = W at *
  refine (HMI.out _ HB0.out).mono ?_
  rintro e w1 ⟨rfl, hb1⟩
  have HB1 := Lib.hid (HB0.out.trans (hb1.mono HB0.out.size))
  have HMB1 := Lib.hid (HMB0.out.below hb1 HMB0.out.lt)
  have HRB1 := Lib.hid (HRB0.out.below hb1 HRB0.out.lt)
  clear hb1
  have c2 := (HC.out _ HB1.out).bc.cell 2
  simp at c2
  have m2 := (msgAt (m := ⟨14, r2, r3, r4, r5, r6, r7, r8, r9, r10, r11, r12, r13⟩) HMB1.out).c2
  have hz1 : w.heap.size + 2 ≤ w1.heap.size := by have := HRB1.out.lt; omega
  simp only at m2
  have hcb1 : cb < w1.heap.size := by omega
  have hcm1 : w.heap.size < w1.heap.size := by omega
  go_wp2_with fail
  go_cut [6, 7] (fun s6 s7 wx => ∃ g : Nat, s6 = .pointer (some ⟨g, 0, none⟩) ∧ s7 = .bool true ∧ Below w1.heap.size w1 wx ∧ w1.heap.size ≤ g ∧ Hid (Blk wx g 69 (Ent.cells ⟨x0, x1, x2, x3, x4, x5, x6, x7, x8, x9⟩)))
  case first =>
    go_region_held3 (fun w' => w'.cell? ⟨cb, 2, none⟩ = some (.pointer (some ⟨ab, 0, none⟩)) ∧ w'.cell? ⟨w.heap.size, 2, none⟩ = some (.int .i64 r3)) (first | (go_keep; done) | (refine ⟨?_, ?_⟩ <;> first | (go_keep; done) | (simp [World.cell?_setCell_other, *]; done))) ((go_at_call 26; refine (HAG.out _ (by first | exact HB1.out.drew | exact (Below.alloc HB1.out HB1.out.size _).drew)).mono ?_; rintro e w3 ⟨rfl, hb3⟩; have q1 := hb3.cell (p := ⟨cb, 2, none⟩) (by simp; omega); have q2 := hb3.cell (p := ⟨w.heap.size, 2, none⟩) (by simp; try omega); simp [World.cell?_alloc_lt, hcb1, hcm1, Nat.ne_of_lt hcb1, Nat.ne_of_lt hcm1, c2, m2] at q1 q2; first | (have hz : Blk w3 w1.heap.size 69 Ent.zero.cells := Blk.below (blk_newd _ Ent.zero.cells _ _ (by simp)) hb3 (by simp); obtain ⟨z0, z1, z2, z3, z4, z5, z6, z7, z8, z9⟩ := entAt0 hz; obtain ⟨y0, y1, y2, y3, y4, y5, y6, y7, y8, y9⟩ := entFree hz; simp only [Nat.zero_add] at z1 z2 z3 z4 z5 z6 z7 z8 z9; have HZ := Lib.hid hz; clear hz) | skip))
    · have hw3 : Below w1.heap.size w1 w3 := ((Below.refl _ w1).drew).trans (hb3.mono (by simp))
      have HAl := Lib.hid (fun o : Obj => Below.alloc hw3 hw3.size o)
      have hz3 := hw3.size
      clear hb3 hw3 q1 q2
      go_wp2_with fail
      go_meet
      exact ⟨w3.heap.size, rfl, rfl, HAl.out _, hz3, blk_new _ (Ent.cells ⟨x0, x1, x2, x3, x4, x5, x6, x7, x8, x9⟩) _ _ rfl⟩
    · have hw3 : Below w1.heap.size w1 w3 := (((Below.refl _ w1).alloc (Nat.le_refl _) _).drew).trans (hb3.mono (by simp))
      have HW3 := Lib.hid hw3
      clear hb3 hw3 q1 q2
      go_wp2_with fail
      go_meet
      obtain ⟨po, pb⟩ := put10 HZ.out x0 x1 x2 x3 x4 x5 x6 x7 x8 x9
      exact ⟨_, rfl, rfl, HW3.out.trans (po.below.mono (Nat.le_refl _)), Nat.le_refl _, pb⟩
  case rest =>
  obtain ⟨ge, rfl, rfl, hwx, hge, HE2⟩ := hcut
  have HB2 := Lib.hid (HB1.out.trans (hwx.mono HB1.out.size))
  have HMB2 := Lib.hid (HMB1.out.below hwx HMB1.out.lt)
  have HRB2 := Lib.hid (HRB1.out.below hwx HRB1.out.lt)
  have HX2 := Lib.hid hwx
  clear hwx c2 m2
  obtain ⟨e0, e1, e2, e3, e4, e5, e6, e7, e8, e9⟩ := entAt0 HE2.out
  obtain ⟨m0, m1, m2, m3, m4, m5, m6, m7, m8, m9, m10, m11, m12⟩ := msgAt (m := ⟨14, r2, r3, r4, r5, r6, r7, r8, r9, r10, r11, r12, r13⟩) HMB2.out
  simp only [Nat.zero_add] at e0 m0 m2 m3 m4 m5 m6 m7 m8 m9 m10 m11 m12 e1 e2 e3 e4 e5 e6 e7 e8 e9
  go_wp2_with (refine wl_storeV rfl (.tmp 64) (.const (.bool false)) 4 rfl ge 8 69 [.bool false] (.bool false) rfl rfl rfl boolSize1 _ HE2.out (one1 _ rfl) (by simp [Ent.cells]) ?d1)
  case d1 =>
  intro w3 ho3 hblk3
  have HE3 := Lib.hid (show Blk w3 ge 69 (Ent.cells ⟨x0, x1, x2, x3, x4, x5, x6, x7, false, x9⟩) from hblk3)
  have HMB3 := Lib.hid (ho3.blk HMB2.out (by omega))
  have HRB3 := Lib.hid (ho3.blk HRB2.out (by omega))
  have HB3 := Lib.hid (HB2.out.trans (ho3.below.mono (by omega)))
  have HX3 := Lib.hid (HX2.out.trans (ho3.below.mono hge))
  clear ho3 hblk3
  clear e0 e1 e2 e3 e4 e5 e6 e7 e8 e9 m0 m1 m2 m3 m4 m5 m6 m7 m8 m9 m10 m11 m12
  obtain ⟨e0, e1, e2, e3, e4, e5, e6, e7, e8, e9⟩ := entAt0 HE3.out
  obtain ⟨m0, m1, m2, m3, m4, m5, m6, m7, m8, m9, m10, m11, m12⟩ := msgAt (m := ⟨14, r2, r3, r4, r5, r6, r7, r8, r9, r10, r11, r12, r13⟩) HMB3.out
  simp only [Nat.zero_add] at e0 m0 m2 m3 m4 m5 m6 m7 m8 m9 m10 m11 m12 e1 e2 e3 e4 e5 e6 e7 e8 e9
  have hww : r7 = 1 := HW7.out
  subst hww
  go_wp2_with (refine wl_storeV rfl (.tmp 70) (.tmp 68) 29 rfl ge 5 69 [.int .u32 r8] (.int .u32 r8) rfl rfl rfl u32Size1 _ HE3.out (one1 _ rfl) (by simp [Ent.cells]) ?d2)
  case d2 =>
  intro w4 ho4 hblk4
  have HE4 := Lib.hid (show Blk w4 ge 69 (Ent.cells ⟨x0, x1, x2, x3, x4, r8, x6, x7, false, x9⟩) from hblk4)
  have HMB4 := Lib.hid (ho4.blk HMB3.out (by omega))
  have HRB4 := Lib.hid (ho4.blk HRB3.out (by omega))
  have HB4 := Lib.hid (HB3.out.trans (ho4.below.mono (by omega)))
  have HX4 := Lib.hid (HX3.out.trans (ho4.below.mono hge))
  clear ho4 hblk4
  clear e0 e1 e2 e3 e4 e5 e6 e7 e8 e9 m0 m1 m2 m3 m4 m5 m6 m7 m8 m9 m10 m11 m12
  obtain ⟨e0, e1, e2, e3, e4, e5, e6, e7, e8, e9⟩ := entAt0 HE4.out
  obtain ⟨m0, m1, m2, m3, m4, m5, m6, m7, m8, m9, m10, m11, m12⟩ := msgAt (m := ⟨14, r2, r3, r4, r5, r6, 1, r8, r9, r10, r11, r12, r13⟩) HMB4.out
  simp only [Nat.zero_add] at e0 m0 m2 m3 m4 m5 m6 m7 m8 m9 m10 m11 m12 e1 e2 e3 e4 e5 e6 e7 e8 e9
  have c2 := (HC.out _ HB4.out).bc.cell 2
  simp at c2
  have HCq := Lib.hid (HC.out _ HB4.out)
  have HFq := Lib.hid (FrL.below (cb :: ab :: sb :: (wbs ++ L)) HX4.out)
  have HMq := HMB4
  have HRq := HRB4
  go_wp2_with fail
  go_still_tail 5, (by kernel_rfl)
  change wpList _ _ _ _ _ w4.drew
  have HCd : Hid (CR B w4.drew cb ab sb tb wbs L _) := HCq.out.below ((Below.refl _ _).drew)
  have HFd : Hid (FrL (cb :: ab :: sb :: (wbs ++ L)) w1 w4.drew) := HFq.out.drew
  have HMd : Hid (Blk w4.drew _ _ _) := HMq.out
  have HRd : Hid (Blk w4.drew _ _ _) := HRq.out
  have HLd : Hid (B ≤ w4.drew.heap.size) := by have := HFq.out.size; have := HB1.out.size; show B ≤ w4.heap.size; omega
  clear c2
  clear e0 e1 e2 e3 e4 e5 e6 e7 e8 e9 m0 m1 m2 m3 m4 m5 m6 m7 m8 m9 m10 m11 m12
  generalize w4.drew = wd at HCd HFd HMd HRd HLd ⊢
  have HBd := Lib.hid HLd
  go_wp2_with fail
  refine (put_calls B c.n c.k c.A A' ⟨x0, x1, x2, x3, x4, r8, x6, x7, false, x9⟩ ab sb wbs wd HOK.out.a HCd.out.ar ⟨HOX.out.line, HOX.out.state, HOX.out.mode, HOX.out.epoch⟩ HLd.out HP.out).mono ?_
  rintro e wa ⟨rfl, haa, hka, hfa, hla⟩
  have HCa := Lib.hid (HCd.out.adone haa hka hfa (fun T hT => Or.inl (by simpa using hT)))
  have HFa := Lib.hid (HFd.out.trans (hla.sub (fun x hx => by simp at hx ⊢; rcases hx with h1 | h1 <;> simp [h1])))
  have HMa := Lib.hid (HMd.out.fr hfa (by decide))
  have HRa := Lib.hid (HRd.out.fr hfa (by decide))
  clear haa hka hfa hla
  have c2 := HCa.out.bc.cell 2
  have m2 := (msgAt (m := ⟨14, r2, r3, r4, r5, r6, 1, r8, r9, r10, r11, r12, r13⟩) HMa.out).c2
  simp at c2
  simp only at m2
  go_wp2_with fail
  go_still_tail 6, (by kernel_rfl)
  change wpList _ _ _ _ _ wa.drew
  have HCe : Hid (CR B wa.drew cb ab sb tb wbs L _) := HCa.out.below ((Below.refl _ _).drew)
  have HFe : Hid (FrL (cb :: ab :: sb :: (wbs ++ L)) w1 wa.drew) := HFa.out.drew
  have HMe : Hid (Blk wa.drew _ _ _) := HMa.out
  have HRe : Hid (Blk wa.drew _ _ _) := HRa.out
  have HLe : Hid (B ≤ wa.drew.heap.size) := by have := HFa.out.size; have := HB1.out.size; show B ≤ wa.heap.size; omega
  clear c2 m2
  generalize wa.drew = we at HCe HFe HMe HRe HLe ⊢
  go_wp2_with fail
  refine (atouch_calls B c.n c.k A' r3 ab sb wbs we HCe.out.ok.a HCe.out.ar HWL.out HLe.out).mono ?_
  rintro e wb ⟨rfl, hab, hkb, hfb, hlb⟩
  have HCb := Lib.hid (HCe.out.adone hab hkb hfb (fun T hT => Or.inr (by simpa using hT)))
  have HFb := Lib.hid (HFe.out.trans (hlb.sub (fun x hx => by simp at hx ⊢; rcases hx with h1 | h1 <;> simp [h1])))
  have HMb := Lib.hid (HMe.out.fr hfb (by decide))
  have HRb := Lib.hid (HRe.out.fr hfb (by decide))
  clear hab hkb hfb hlb
  have c3 := HCb.out.bc.cell 3
  have m2 := (msgAt (m := ⟨14, r2, r3, r4, r5, r6, 1, r8, r9, r10, r11, r12, r13⟩) HMb.out).c2
  simp at c3
  simp only at m2
  go_wp2_with fail
  go_still_tail 6, (by kernel_rfl)
  change wpList _ _ _ _ _ wb.drew
  have HCf : Hid (CR B wb.drew cb ab sb tb wbs L _) := HCb.out.below ((Below.refl _ _).drew)
  have HFf : Hid (FrL (cb :: ab :: sb :: (wbs ++ L)) w1 wb.drew) := HFb.out.drew
  have HMf : Hid (Blk wb.drew _ _ _) := HMb.out
  have HRf : Hid (Blk wb.drew _ _ _) := HRb.out
  have HLf : Hid (B ≤ wb.drew.heap.size) := by have := HFb.out.size; have := HB1.out.size; show B ≤ wb.heap.size; omega
  clear c3 m2
  generalize wb.drew = wf at HCf HFf HMf HRf HLf ⊢
  go_wp2_with fail
  refine (mdrop_calls B L c.M r3 c.most tb wf (by omega) HLf.out HCf.out.tab).mono ?_
  rintro e wg ⟨⟨bg, rfl⟩, ⟨L', hT, hG⟩, hfg, hlg⟩
  have HCg := Lib.hid (HCf.out.mdone hT hfg (dropM_ok c.M r3 c.most HOK.out.m))
  have HFg := Lib.hid (HFf.out.trans (hlg.sub (fun x hx => by simp [hx])))
  have HGg : Hid (Grow w1 L L') := ⟨hG.1, fun x hx => (hG.2 x hx).imp id (fun h => Nat.le_trans HFf.out.size h)⟩
  have HMg := Lib.hid (HMf.out.fr hfg (by decide))
  have HRg := Lib.hid (HRf.out.fr hfg (by decide))
  clear hT hG hfg hlg
  have c0 := HCg.out.bc.cell 0
  have m2 := (msgAt (m := ⟨14, r2, r3, r4, r5, r6, 1, r8, r9, r10, r11, r12, r13⟩) HMg.out).c2
  simp at c0
  simp only at m2
  go_wp2_with fail
  go_still_tail 7, (by kernel_rfl)
  change wpList _ _ _ _ _ wg.drew
  have HCh : Hid (CR B wg.drew cb ab sb tb wbs L' _) := HCg.out.below ((Below.refl _ _).drew)
  have HFh : Hid (FrL (cb :: ab :: sb :: (wbs ++ L)) w1 wg.drew) := HFg.out.drew
  have HMh : Hid (Blk wg.drew _ _ _) := HMg.out
  have HRh : Hid (Blk wg.drew _ _ _) := HRg.out
  have HLh : Hid (B ≤ wg.drew.heap.size) := by have := HFg.out.size; have := HB1.out.size; show B ≤ wg.heap.size; omega
  clear c0 m2
  generalize wg.drew = wh at HCh HFh HMh HRh HLh ⊢
  go_wp2_with (refine wl_store rfl (.tmp 4) (.tmp 99) 33 rfl (w.heap.size + 1) 0 33 (Msg.cells { Msg.zero with kind := 12, core := c.core, line := r3 }) rfl rfl msgSize _ HRh.out (msgOne _) (by simp [Msg.cells]) ?d9)
  case d9 =>
  intro wz hoz hblk
  have HK := Lib.hid (msgOver (m := Msg.zero) (m' := { Msg.zero with kind := 12, core := c.core, line := r3 }) hblk)
  have HSz := Lib.hid ((CStep.of HCh.out HGg.out HFh.out).only HB1.out HLT.out (by omega) HRB1.out.lt hoz)
  clear hoz hblk
  go_wp2
  exact bodyPost_ret (v := .tuple #[Msg.val { Msg.zero with kind := 12, core := c.core, line := r3 }, .bool true]) (results_msg2 Tryd.results12 { Msg.zero with kind := 12, core := c.core, line := r3 } _ rfl rfl HK.out) rfl ⟨rfl, HSz.out⟩

set_option maxRecDepth 100000 in
set_option maxHeartbeats 8000000 in
theorem ans_14_2 (B : Nat) (c : Ca) (m : Msg) (p : Nat → Addr) (cb : Nat) (F : List Nat) (w : World) (h : CAt B w cb c F) (hg : Sent B w p) (hmi : mineC c m 3 = true) (x : Ent) (hx : getA c.A m.line = some x) (hk : m.kind = 14) (hw : m.word = 2) (A' : Sets) (hp : putA c.A { x with held := false, d2 := m.value } = some A') :
    Calls Tryd.prog 12 #[.pointer (some ⟨cb, 0, none⟩), m.val] w fun e w' => e = .returned (.tuple #[Msg.val { Msg.zero with kind := 12, core := c.core, line := m.line }, .bool true]) ∧ CStep B w cb F w' { c with A := touchA A' m.line, M := dropM c.M m.line } := by
  have hB := hg.size
  have HF := Lib.hid (fun w1 (hb : Below w.heap.size w w1) => CStep.same h hb)
  have HLT := Lib.hid h.lt
  have HMI := Lib.hid (fun w1 (hb : Below w.heap.size w w1) => mine_calls B c m 3 cb F w1 (h.below hb))
  have HRI := Lib.hid (mine_right hmi)
  obtain ⟨hl', hwd, hst, hmd, hep⟩ := right_facts HRI.out.1
  have HWL := Lib.hid hl'
  clear hl'
  obtain ⟨ab, sb, tb, wbs, L, h, rfl⟩ := h
  have h8 := h.ok.m.most8
  have hlen := h.ok.m.len
  have HC := Lib.hid (fun w1 (hb : Below w.heap.size w w1) => h.below hb)
  have HMS := Lib.hid (fun w1 (hb : Below w.heap.size w w1) => get_calls c.M m.line c.most tb w1 (by omega) (h.tab.below hb).tab)
  have HAG := Lib.hid (fun w1 (hb : Below w.heap.size w w1) => aget_calls B c.n c.k c.A m.line ab sb wbs w1 h.ok.a (h.ar.below hb))
  have HOK := Lib.hid h.ok
  have hbc := h.bc.lt
  rw [hmi] at HMI
  unfold getV at HAG
  have HOX := Lib.hid (getA_some HOK.out.a hx).2.2.2.1
  rw [hx] at HAG
  simp only [Option.getD_some, Option.isSome_some] at HAG
  have HP := Lib.hid hp
  have HKK := Lib.hid hk
  have HW7 := Lib.hid hw
  obtain ⟨x0, x1, x2, x3, x4, x5, x6, x7, x8, x9⟩ := x
  simp only [Ent.val] at HAG HOX HP
  clear h hg hmi hx hk hw hp
  have HMB := Lib.hid (blk_new w m.cells 33 _ rfl)
  have hb0 := ((Below.refl w.heap.size w).alloc (Nat.le_refl _) (.cells m.cells.toArray 33)).alloc (by simp) (.cells Msg.zero.cells.toArray 33)
  have HMB0 := Lib.hid (HMB.out.below ((Below.refl _ _).alloc (Nat.le_refl _) (.cells Msg.zero.cells.toArray 33)) HMB.out.lt)
  have HRB0 := Lib.hid (blk_new (w.alloc (.cells m.cells.toArray 33)) Msg.zero.cells 33 (w.heap.size + 1) (by simp))
  have hz0 : ((w.alloc (.cells m.cells.toArray 33)).alloc (.cells Msg.zero.cells.toArray 33)).heap.size = w.heap.size + 2 := by simp
  have HB0 := Lib.hid hb0
  clear HMB hb0
  obtain ⟨r1, r2, r3, r4, r5, r6, r7, r8, r9, r10, r11, r12, r13⟩ := m
  have hkk := HKK.out
  simp only at hkk
  subst hkk
  simp only [Msg.cells, Msg.val, Msg.zero] at *
  go_enter Tryd.func12, Tryd.ntmps12
  go_wp2_with fail
  generalize (w.alloc (.cells #[.int .i64 14, .int .i64 r2, .int .i64 r3, .int .i64 r4, .int .i64 r5, .int .i64 r6, .int .i64 r7, .int .u32 r8, .int .u32 r9, .int .u32 r10, .int .u32 r11, .int .u32 r12, .bool r13] 33)).alloc (.cells #[.int .i64 0, .int .i64 0, .int .i64 0, .int .i64 0, .int .i64 0, .int .i64 0, .int .i64 0, .int .u32 0, .int .u32 0, .int .u32 0, .int .u32 0, .int .u32 0, .bool false] 33) = W at *
  refine (HMI.out _ HB0.out).mono ?_
  rintro e w1 ⟨rfl, hb1⟩
  have HB1 := Lib.hid (HB0.out.trans (hb1.mono HB0.out.size))
  have HMB1 := Lib.hid (HMB0.out.below hb1 HMB0.out.lt)
  have HRB1 := Lib.hid (HRB0.out.below hb1 HRB0.out.lt)
  clear hb1
  have c2 := (HC.out _ HB1.out).bc.cell 2
  simp at c2
  have m2 := (msgAt (m := ⟨14, r2, r3, r4, r5, r6, r7, r8, r9, r10, r11, r12, r13⟩) HMB1.out).c2
  have hz1 : w.heap.size + 2 ≤ w1.heap.size := by have := HRB1.out.lt; omega
  simp only at m2
  have hcb1 : cb < w1.heap.size := by omega
  have hcm1 : w.heap.size < w1.heap.size := by omega
  go_wp2_with fail
  go_cut [6, 7] (fun s6 s7 wx => ∃ g : Nat, s6 = .pointer (some ⟨g, 0, none⟩) ∧ s7 = .bool true ∧ Below w1.heap.size w1 wx ∧ w1.heap.size ≤ g ∧ Hid (Blk wx g 69 (Ent.cells ⟨x0, x1, x2, x3, x4, x5, x6, x7, x8, x9⟩)))
  case first =>
    go_region_held3 (fun w' => w'.cell? ⟨cb, 2, none⟩ = some (.pointer (some ⟨ab, 0, none⟩)) ∧ w'.cell? ⟨w.heap.size, 2, none⟩ = some (.int .i64 r3)) (first | (go_keep; done) | (refine ⟨?_, ?_⟩ <;> first | (go_keep; done) | (simp [World.cell?_setCell_other, *]; done))) ((go_at_call 26; refine (HAG.out _ (by first | exact HB1.out.drew | exact (Below.alloc HB1.out HB1.out.size _).drew)).mono ?_; rintro e w3 ⟨rfl, hb3⟩; have q1 := hb3.cell (p := ⟨cb, 2, none⟩) (by simp; omega); have q2 := hb3.cell (p := ⟨w.heap.size, 2, none⟩) (by simp; try omega); simp [World.cell?_alloc_lt, hcb1, hcm1, Nat.ne_of_lt hcb1, Nat.ne_of_lt hcm1, c2, m2] at q1 q2; first | (have hz : Blk w3 w1.heap.size 69 Ent.zero.cells := Blk.below (blk_newd _ Ent.zero.cells _ _ (by simp)) hb3 (by simp); obtain ⟨z0, z1, z2, z3, z4, z5, z6, z7, z8, z9⟩ := entAt0 hz; obtain ⟨y0, y1, y2, y3, y4, y5, y6, y7, y8, y9⟩ := entFree hz; simp only [Nat.zero_add] at z1 z2 z3 z4 z5 z6 z7 z8 z9; have HZ := Lib.hid hz; clear hz) | skip))
    · have hw3 : Below w1.heap.size w1 w3 := ((Below.refl _ w1).drew).trans (hb3.mono (by simp))
      have HAl := Lib.hid (fun o : Obj => Below.alloc hw3 hw3.size o)
      have hz3 := hw3.size
      clear hb3 hw3 q1 q2
      go_wp2_with fail
      go_meet
      exact ⟨w3.heap.size, rfl, rfl, HAl.out _, hz3, blk_new _ (Ent.cells ⟨x0, x1, x2, x3, x4, x5, x6, x7, x8, x9⟩) _ _ rfl⟩
    · have hw3 : Below w1.heap.size w1 w3 := (((Below.refl _ w1).alloc (Nat.le_refl _) _).drew).trans (hb3.mono (by simp))
      have HW3 := Lib.hid hw3
      clear hb3 hw3 q1 q2
      go_wp2_with fail
      go_meet
      obtain ⟨po, pb⟩ := put10 HZ.out x0 x1 x2 x3 x4 x5 x6 x7 x8 x9
      exact ⟨_, rfl, rfl, HW3.out.trans (po.below.mono (Nat.le_refl _)), Nat.le_refl _, pb⟩
  case rest =>
  obtain ⟨ge, rfl, rfl, hwx, hge, HE2⟩ := hcut
  have HB2 := Lib.hid (HB1.out.trans (hwx.mono HB1.out.size))
  have HMB2 := Lib.hid (HMB1.out.below hwx HMB1.out.lt)
  have HRB2 := Lib.hid (HRB1.out.below hwx HRB1.out.lt)
  have HX2 := Lib.hid hwx
  clear hwx c2 m2
  obtain ⟨e0, e1, e2, e3, e4, e5, e6, e7, e8, e9⟩ := entAt0 HE2.out
  obtain ⟨m0, m1, m2, m3, m4, m5, m6, m7, m8, m9, m10, m11, m12⟩ := msgAt (m := ⟨14, r2, r3, r4, r5, r6, r7, r8, r9, r10, r11, r12, r13⟩) HMB2.out
  simp only [Nat.zero_add] at e0 m0 m2 m3 m4 m5 m6 m7 m8 m9 m10 m11 m12 e1 e2 e3 e4 e5 e6 e7 e8 e9
  go_wp2_with (refine wl_storeV rfl (.tmp 64) (.const (.bool false)) 4 rfl ge 8 69 [.bool false] (.bool false) rfl rfl rfl boolSize1 _ HE2.out (one1 _ rfl) (by simp [Ent.cells]) ?d1)
  case d1 =>
  intro w3 ho3 hblk3
  have HE3 := Lib.hid (show Blk w3 ge 69 (Ent.cells ⟨x0, x1, x2, x3, x4, x5, x6, x7, false, x9⟩) from hblk3)
  have HMB3 := Lib.hid (ho3.blk HMB2.out (by omega))
  have HRB3 := Lib.hid (ho3.blk HRB2.out (by omega))
  have HB3 := Lib.hid (HB2.out.trans (ho3.below.mono (by omega)))
  have HX3 := Lib.hid (HX2.out.trans (ho3.below.mono hge))
  clear ho3 hblk3
  clear e0 e1 e2 e3 e4 e5 e6 e7 e8 e9 m0 m1 m2 m3 m4 m5 m6 m7 m8 m9 m10 m11 m12
  obtain ⟨e0, e1, e2, e3, e4, e5, e6, e7, e8, e9⟩ := entAt0 HE3.out
  obtain ⟨m0, m1, m2, m3, m4, m5, m6, m7, m8, m9, m10, m11, m12⟩ := msgAt (m := ⟨14, r2, r3, r4, r5, r6, r7, r8, r9, r10, r11, r12, r13⟩) HMB3.out
  simp only [Nat.zero_add] at e0 m0 m2 m3 m4 m5 m6 m7 m8 m9 m10 m11 m12 e1 e2 e3 e4 e5 e6 e7 e8 e9
  have hww : r7 = 2 := HW7.out
  subst hww
  go_wp2_with (refine wl_storeV rfl (.tmp 70) (.tmp 68) 29 rfl ge 6 69 [.int .u32 r8] (.int .u32 r8) rfl rfl rfl u32Size1 _ HE3.out (one1 _ rfl) (by simp [Ent.cells]) ?d2)
  case d2 =>
  intro w4 ho4 hblk4
  have HE4 := Lib.hid (show Blk w4 ge 69 (Ent.cells ⟨x0, x1, x2, x3, x4, x5, r8, x7, false, x9⟩) from hblk4)
  have HMB4 := Lib.hid (ho4.blk HMB3.out (by omega))
  have HRB4 := Lib.hid (ho4.blk HRB3.out (by omega))
  have HB4 := Lib.hid (HB3.out.trans (ho4.below.mono (by omega)))
  have HX4 := Lib.hid (HX3.out.trans (ho4.below.mono hge))
  clear ho4 hblk4
  clear e0 e1 e2 e3 e4 e5 e6 e7 e8 e9 m0 m1 m2 m3 m4 m5 m6 m7 m8 m9 m10 m11 m12
  obtain ⟨e0, e1, e2, e3, e4, e5, e6, e7, e8, e9⟩ := entAt0 HE4.out
  obtain ⟨m0, m1, m2, m3, m4, m5, m6, m7, m8, m9, m10, m11, m12⟩ := msgAt (m := ⟨14, r2, r3, r4, r5, r6, 2, r8, r9, r10, r11, r12, r13⟩) HMB4.out
  simp only [Nat.zero_add] at e0 m0 m2 m3 m4 m5 m6 m7 m8 m9 m10 m11 m12 e1 e2 e3 e4 e5 e6 e7 e8 e9
  have c2 := (HC.out _ HB4.out).bc.cell 2
  simp at c2
  have HCq := Lib.hid (HC.out _ HB4.out)
  have HFq := Lib.hid (FrL.below (cb :: ab :: sb :: (wbs ++ L)) HX4.out)
  have HMq := HMB4
  have HRq := HRB4
  go_wp2_with fail
  go_still_tail 5, (by kernel_rfl)
  change wpList _ _ _ _ _ w4.drew
  have HCd : Hid (CR B w4.drew cb ab sb tb wbs L _) := HCq.out.below ((Below.refl _ _).drew)
  have HFd : Hid (FrL (cb :: ab :: sb :: (wbs ++ L)) w1 w4.drew) := HFq.out.drew
  have HMd : Hid (Blk w4.drew _ _ _) := HMq.out
  have HRd : Hid (Blk w4.drew _ _ _) := HRq.out
  have HLd : Hid (B ≤ w4.drew.heap.size) := by have := HFq.out.size; have := HB1.out.size; show B ≤ w4.heap.size; omega
  clear c2
  clear e0 e1 e2 e3 e4 e5 e6 e7 e8 e9 m0 m1 m2 m3 m4 m5 m6 m7 m8 m9 m10 m11 m12
  generalize w4.drew = wd at HCd HFd HMd HRd HLd ⊢
  have HBd := Lib.hid HLd
  go_wp2_with fail
  refine (put_calls B c.n c.k c.A A' ⟨x0, x1, x2, x3, x4, x5, r8, x7, false, x9⟩ ab sb wbs wd HOK.out.a HCd.out.ar ⟨HOX.out.line, HOX.out.state, HOX.out.mode, HOX.out.epoch⟩ HLd.out HP.out).mono ?_
  rintro e wa ⟨rfl, haa, hka, hfa, hla⟩
  have HCa := Lib.hid (HCd.out.adone haa hka hfa (fun T hT => Or.inl (by simpa using hT)))
  have HFa := Lib.hid (HFd.out.trans (hla.sub (fun x hx => by simp at hx ⊢; rcases hx with h1 | h1 <;> simp [h1])))
  have HMa := Lib.hid (HMd.out.fr hfa (by decide))
  have HRa := Lib.hid (HRd.out.fr hfa (by decide))
  clear haa hka hfa hla
  have c2 := HCa.out.bc.cell 2
  have m2 := (msgAt (m := ⟨14, r2, r3, r4, r5, r6, 2, r8, r9, r10, r11, r12, r13⟩) HMa.out).c2
  simp at c2
  simp only at m2
  go_wp2_with fail
  go_still_tail 6, (by kernel_rfl)
  change wpList _ _ _ _ _ wa.drew
  have HCe : Hid (CR B wa.drew cb ab sb tb wbs L _) := HCa.out.below ((Below.refl _ _).drew)
  have HFe : Hid (FrL (cb :: ab :: sb :: (wbs ++ L)) w1 wa.drew) := HFa.out.drew
  have HMe : Hid (Blk wa.drew _ _ _) := HMa.out
  have HRe : Hid (Blk wa.drew _ _ _) := HRa.out
  have HLe : Hid (B ≤ wa.drew.heap.size) := by have := HFa.out.size; have := HB1.out.size; show B ≤ wa.heap.size; omega
  clear c2 m2
  generalize wa.drew = we at HCe HFe HMe HRe HLe ⊢
  go_wp2_with fail
  refine (atouch_calls B c.n c.k A' r3 ab sb wbs we HCe.out.ok.a HCe.out.ar HWL.out HLe.out).mono ?_
  rintro e wb ⟨rfl, hab, hkb, hfb, hlb⟩
  have HCb := Lib.hid (HCe.out.adone hab hkb hfb (fun T hT => Or.inr (by simpa using hT)))
  have HFb := Lib.hid (HFe.out.trans (hlb.sub (fun x hx => by simp at hx ⊢; rcases hx with h1 | h1 <;> simp [h1])))
  have HMb := Lib.hid (HMe.out.fr hfb (by decide))
  have HRb := Lib.hid (HRe.out.fr hfb (by decide))
  clear hab hkb hfb hlb
  have c3 := HCb.out.bc.cell 3
  have m2 := (msgAt (m := ⟨14, r2, r3, r4, r5, r6, 2, r8, r9, r10, r11, r12, r13⟩) HMb.out).c2
  simp at c3
  simp only at m2
  go_wp2_with fail
  go_still_tail 6, (by kernel_rfl)
  change wpList _ _ _ _ _ wb.drew
  have HCf : Hid (CR B wb.drew cb ab sb tb wbs L _) := HCb.out.below ((Below.refl _ _).drew)
  have HFf : Hid (FrL (cb :: ab :: sb :: (wbs ++ L)) w1 wb.drew) := HFb.out.drew
  have HMf : Hid (Blk wb.drew _ _ _) := HMb.out
  have HRf : Hid (Blk wb.drew _ _ _) := HRb.out
  have HLf : Hid (B ≤ wb.drew.heap.size) := by have := HFb.out.size; have := HB1.out.size; show B ≤ wb.heap.size; omega
  clear c3 m2
  generalize wb.drew = wf at HCf HFf HMf HRf HLf ⊢
  go_wp2_with fail
  refine (mdrop_calls B L c.M r3 c.most tb wf (by omega) HLf.out HCf.out.tab).mono ?_
  rintro e wg ⟨⟨bg, rfl⟩, ⟨L', hT, hG⟩, hfg, hlg⟩
  have HCg := Lib.hid (HCf.out.mdone hT hfg (dropM_ok c.M r3 c.most HOK.out.m))
  have HFg := Lib.hid (HFf.out.trans (hlg.sub (fun x hx => by simp [hx])))
  have HGg : Hid (Grow w1 L L') := ⟨hG.1, fun x hx => (hG.2 x hx).imp id (fun h => Nat.le_trans HFf.out.size h)⟩
  have HMg := Lib.hid (HMf.out.fr hfg (by decide))
  have HRg := Lib.hid (HRf.out.fr hfg (by decide))
  clear hT hG hfg hlg
  have c0 := HCg.out.bc.cell 0
  have m2 := (msgAt (m := ⟨14, r2, r3, r4, r5, r6, 2, r8, r9, r10, r11, r12, r13⟩) HMg.out).c2
  simp at c0
  simp only at m2
  go_wp2_with fail
  go_still_tail 7, (by kernel_rfl)
  change wpList _ _ _ _ _ wg.drew
  have HCh : Hid (CR B wg.drew cb ab sb tb wbs L' _) := HCg.out.below ((Below.refl _ _).drew)
  have HFh : Hid (FrL (cb :: ab :: sb :: (wbs ++ L)) w1 wg.drew) := HFg.out.drew
  have HMh : Hid (Blk wg.drew _ _ _) := HMg.out
  have HRh : Hid (Blk wg.drew _ _ _) := HRg.out
  have HLh : Hid (B ≤ wg.drew.heap.size) := by have := HFg.out.size; have := HB1.out.size; show B ≤ wg.heap.size; omega
  clear c0 m2
  generalize wg.drew = wh at HCh HFh HMh HRh HLh ⊢
  go_wp2_with (refine wl_store rfl (.tmp 4) (.tmp 99) 33 rfl (w.heap.size + 1) 0 33 (Msg.cells { Msg.zero with kind := 12, core := c.core, line := r3 }) rfl rfl msgSize _ HRh.out (msgOne _) (by simp [Msg.cells]) ?d9)
  case d9 =>
  intro wz hoz hblk
  have HK := Lib.hid (msgOver (m := Msg.zero) (m' := { Msg.zero with kind := 12, core := c.core, line := r3 }) hblk)
  have HSz := Lib.hid ((CStep.of HCh.out HGg.out HFh.out).only HB1.out HLT.out (by omega) HRB1.out.lt hoz)
  clear hoz hblk
  go_wp2
  exact bodyPost_ret (v := .tuple #[Msg.val { Msg.zero with kind := 12, core := c.core, line := r3 }, .bool true]) (results_msg2 Tryd.results12 { Msg.zero with kind := 12, core := c.core, line := r3 } _ rfl rfl HK.out) rfl ⟨rfl, HSz.out⟩

set_option maxRecDepth 100000 in
set_option maxHeartbeats 8000000 in
theorem ans_14_3 (B : Nat) (c : Ca) (m : Msg) (p : Nat → Addr) (cb : Nat) (F : List Nat) (w : World) (h : CAt B w cb c F) (hg : Sent B w p) (hmi : mineC c m 3 = true) (x : Ent) (hx : getA c.A m.line = some x) (hk : m.kind = 14) (hw : m.word = 3) (A' : Sets) (hp : putA c.A { x with held := false, d3 := m.value } = some A') :
    Calls Tryd.prog 12 #[.pointer (some ⟨cb, 0, none⟩), m.val] w fun e w' => e = .returned (.tuple #[Msg.val { Msg.zero with kind := 12, core := c.core, line := m.line }, .bool true]) ∧ CStep B w cb F w' { c with A := touchA A' m.line, M := dropM c.M m.line } := by
  have hB := hg.size
  have HF := Lib.hid (fun w1 (hb : Below w.heap.size w w1) => CStep.same h hb)
  have HLT := Lib.hid h.lt
  have HMI := Lib.hid (fun w1 (hb : Below w.heap.size w w1) => mine_calls B c m 3 cb F w1 (h.below hb))
  have HRI := Lib.hid (mine_right hmi)
  obtain ⟨hl', hwd, hst, hmd, hep⟩ := right_facts HRI.out.1
  have HWL := Lib.hid hl'
  clear hl'
  obtain ⟨ab, sb, tb, wbs, L, h, rfl⟩ := h
  have h8 := h.ok.m.most8
  have hlen := h.ok.m.len
  have HC := Lib.hid (fun w1 (hb : Below w.heap.size w w1) => h.below hb)
  have HMS := Lib.hid (fun w1 (hb : Below w.heap.size w w1) => get_calls c.M m.line c.most tb w1 (by omega) (h.tab.below hb).tab)
  have HAG := Lib.hid (fun w1 (hb : Below w.heap.size w w1) => aget_calls B c.n c.k c.A m.line ab sb wbs w1 h.ok.a (h.ar.below hb))
  have HOK := Lib.hid h.ok
  have hbc := h.bc.lt
  rw [hmi] at HMI
  unfold getV at HAG
  have HOX := Lib.hid (getA_some HOK.out.a hx).2.2.2.1
  rw [hx] at HAG
  simp only [Option.getD_some, Option.isSome_some] at HAG
  have HP := Lib.hid hp
  have HKK := Lib.hid hk
  have HW7 := Lib.hid hw
  obtain ⟨x0, x1, x2, x3, x4, x5, x6, x7, x8, x9⟩ := x
  simp only [Ent.val] at HAG HOX HP
  clear h hg hmi hx hk hw hp
  have HMB := Lib.hid (blk_new w m.cells 33 _ rfl)
  have hb0 := ((Below.refl w.heap.size w).alloc (Nat.le_refl _) (.cells m.cells.toArray 33)).alloc (by simp) (.cells Msg.zero.cells.toArray 33)
  have HMB0 := Lib.hid (HMB.out.below ((Below.refl _ _).alloc (Nat.le_refl _) (.cells Msg.zero.cells.toArray 33)) HMB.out.lt)
  have HRB0 := Lib.hid (blk_new (w.alloc (.cells m.cells.toArray 33)) Msg.zero.cells 33 (w.heap.size + 1) (by simp))
  have hz0 : ((w.alloc (.cells m.cells.toArray 33)).alloc (.cells Msg.zero.cells.toArray 33)).heap.size = w.heap.size + 2 := by simp
  have HB0 := Lib.hid hb0
  clear HMB hb0
  obtain ⟨r1, r2, r3, r4, r5, r6, r7, r8, r9, r10, r11, r12, r13⟩ := m
  have hkk := HKK.out
  simp only at hkk
  subst hkk
  simp only [Msg.cells, Msg.val, Msg.zero] at *
  go_enter Tryd.func12, Tryd.ntmps12
  go_wp2_with fail
  generalize (w.alloc (.cells #[.int .i64 14, .int .i64 r2, .int .i64 r3, .int .i64 r4, .int .i64 r5, .int .i64 r6, .int .i64 r7, .int .u32 r8, .int .u32 r9, .int .u32 r10, .int .u32 r11, .int .u32 r12, .bool r13] 33)).alloc (.cells #[.int .i64 0, .int .i64 0, .int .i64 0, .int .i64 0, .int .i64 0, .int .i64 0, .int .i64 0, .int .u32 0, .int .u32 0, .int .u32 0, .int .u32 0, .int .u32 0, .bool false] 33) = W at *
  refine (HMI.out _ HB0.out).mono ?_
  rintro e w1 ⟨rfl, hb1⟩
  have HB1 := Lib.hid (HB0.out.trans (hb1.mono HB0.out.size))
  have HMB1 := Lib.hid (HMB0.out.below hb1 HMB0.out.lt)
  have HRB1 := Lib.hid (HRB0.out.below hb1 HRB0.out.lt)
  clear hb1
  have c2 := (HC.out _ HB1.out).bc.cell 2
  simp at c2
  have m2 := (msgAt (m := ⟨14, r2, r3, r4, r5, r6, r7, r8, r9, r10, r11, r12, r13⟩) HMB1.out).c2
  have hz1 : w.heap.size + 2 ≤ w1.heap.size := by have := HRB1.out.lt; omega
  simp only at m2
  have hcb1 : cb < w1.heap.size := by omega
  have hcm1 : w.heap.size < w1.heap.size := by omega
  go_wp2_with fail
  go_cut [6, 7] (fun s6 s7 wx => ∃ g : Nat, s6 = .pointer (some ⟨g, 0, none⟩) ∧ s7 = .bool true ∧ Below w1.heap.size w1 wx ∧ w1.heap.size ≤ g ∧ Hid (Blk wx g 69 (Ent.cells ⟨x0, x1, x2, x3, x4, x5, x6, x7, x8, x9⟩)))
  case first =>
    go_region_held3 (fun w' => w'.cell? ⟨cb, 2, none⟩ = some (.pointer (some ⟨ab, 0, none⟩)) ∧ w'.cell? ⟨w.heap.size, 2, none⟩ = some (.int .i64 r3)) (first | (go_keep; done) | (refine ⟨?_, ?_⟩ <;> first | (go_keep; done) | (simp [World.cell?_setCell_other, *]; done))) ((go_at_call 26; refine (HAG.out _ (by first | exact HB1.out.drew | exact (Below.alloc HB1.out HB1.out.size _).drew)).mono ?_; rintro e w3 ⟨rfl, hb3⟩; have q1 := hb3.cell (p := ⟨cb, 2, none⟩) (by simp; omega); have q2 := hb3.cell (p := ⟨w.heap.size, 2, none⟩) (by simp; try omega); simp [World.cell?_alloc_lt, hcb1, hcm1, Nat.ne_of_lt hcb1, Nat.ne_of_lt hcm1, c2, m2] at q1 q2; first | (have hz : Blk w3 w1.heap.size 69 Ent.zero.cells := Blk.below (blk_newd _ Ent.zero.cells _ _ (by simp)) hb3 (by simp); obtain ⟨z0, z1, z2, z3, z4, z5, z6, z7, z8, z9⟩ := entAt0 hz; obtain ⟨y0, y1, y2, y3, y4, y5, y6, y7, y8, y9⟩ := entFree hz; simp only [Nat.zero_add] at z1 z2 z3 z4 z5 z6 z7 z8 z9; have HZ := Lib.hid hz; clear hz) | skip))
    · have hw3 : Below w1.heap.size w1 w3 := ((Below.refl _ w1).drew).trans (hb3.mono (by simp))
      have HAl := Lib.hid (fun o : Obj => Below.alloc hw3 hw3.size o)
      have hz3 := hw3.size
      clear hb3 hw3 q1 q2
      go_wp2_with fail
      go_meet
      exact ⟨w3.heap.size, rfl, rfl, HAl.out _, hz3, blk_new _ (Ent.cells ⟨x0, x1, x2, x3, x4, x5, x6, x7, x8, x9⟩) _ _ rfl⟩
    · have hw3 : Below w1.heap.size w1 w3 := (((Below.refl _ w1).alloc (Nat.le_refl _) _).drew).trans (hb3.mono (by simp))
      have HW3 := Lib.hid hw3
      clear hb3 hw3 q1 q2
      go_wp2_with fail
      go_meet
      obtain ⟨po, pb⟩ := put10 HZ.out x0 x1 x2 x3 x4 x5 x6 x7 x8 x9
      exact ⟨_, rfl, rfl, HW3.out.trans (po.below.mono (Nat.le_refl _)), Nat.le_refl _, pb⟩
  case rest =>
  obtain ⟨ge, rfl, rfl, hwx, hge, HE2⟩ := hcut
  have HB2 := Lib.hid (HB1.out.trans (hwx.mono HB1.out.size))
  have HMB2 := Lib.hid (HMB1.out.below hwx HMB1.out.lt)
  have HRB2 := Lib.hid (HRB1.out.below hwx HRB1.out.lt)
  have HX2 := Lib.hid hwx
  clear hwx c2 m2
  obtain ⟨e0, e1, e2, e3, e4, e5, e6, e7, e8, e9⟩ := entAt0 HE2.out
  obtain ⟨m0, m1, m2, m3, m4, m5, m6, m7, m8, m9, m10, m11, m12⟩ := msgAt (m := ⟨14, r2, r3, r4, r5, r6, r7, r8, r9, r10, r11, r12, r13⟩) HMB2.out
  simp only [Nat.zero_add] at e0 m0 m2 m3 m4 m5 m6 m7 m8 m9 m10 m11 m12 e1 e2 e3 e4 e5 e6 e7 e8 e9
  go_wp2_with (refine wl_storeV rfl (.tmp 64) (.const (.bool false)) 4 rfl ge 8 69 [.bool false] (.bool false) rfl rfl rfl boolSize1 _ HE2.out (one1 _ rfl) (by simp [Ent.cells]) ?d1)
  case d1 =>
  intro w3 ho3 hblk3
  have HE3 := Lib.hid (show Blk w3 ge 69 (Ent.cells ⟨x0, x1, x2, x3, x4, x5, x6, x7, false, x9⟩) from hblk3)
  have HMB3 := Lib.hid (ho3.blk HMB2.out (by omega))
  have HRB3 := Lib.hid (ho3.blk HRB2.out (by omega))
  have HB3 := Lib.hid (HB2.out.trans (ho3.below.mono (by omega)))
  have HX3 := Lib.hid (HX2.out.trans (ho3.below.mono hge))
  clear ho3 hblk3
  clear e0 e1 e2 e3 e4 e5 e6 e7 e8 e9 m0 m1 m2 m3 m4 m5 m6 m7 m8 m9 m10 m11 m12
  obtain ⟨e0, e1, e2, e3, e4, e5, e6, e7, e8, e9⟩ := entAt0 HE3.out
  obtain ⟨m0, m1, m2, m3, m4, m5, m6, m7, m8, m9, m10, m11, m12⟩ := msgAt (m := ⟨14, r2, r3, r4, r5, r6, r7, r8, r9, r10, r11, r12, r13⟩) HMB3.out
  simp only [Nat.zero_add] at e0 m0 m2 m3 m4 m5 m6 m7 m8 m9 m10 m11 m12 e1 e2 e3 e4 e5 e6 e7 e8 e9
  have hww : r7 = 3 := HW7.out
  subst hww
  go_wp2_with (refine wl_storeV rfl (.tmp 70) (.tmp 68) 29 rfl ge 7 69 [.int .u32 r8] (.int .u32 r8) rfl rfl rfl u32Size1 _ HE3.out (one1 _ rfl) (by simp [Ent.cells]) ?d2)
  case d2 =>
  intro w4 ho4 hblk4
  have HE4 := Lib.hid (show Blk w4 ge 69 (Ent.cells ⟨x0, x1, x2, x3, x4, x5, x6, r8, false, x9⟩) from hblk4)
  have HMB4 := Lib.hid (ho4.blk HMB3.out (by omega))
  have HRB4 := Lib.hid (ho4.blk HRB3.out (by omega))
  have HB4 := Lib.hid (HB3.out.trans (ho4.below.mono (by omega)))
  have HX4 := Lib.hid (HX3.out.trans (ho4.below.mono hge))
  clear ho4 hblk4
  clear e0 e1 e2 e3 e4 e5 e6 e7 e8 e9 m0 m1 m2 m3 m4 m5 m6 m7 m8 m9 m10 m11 m12
  obtain ⟨e0, e1, e2, e3, e4, e5, e6, e7, e8, e9⟩ := entAt0 HE4.out
  obtain ⟨m0, m1, m2, m3, m4, m5, m6, m7, m8, m9, m10, m11, m12⟩ := msgAt (m := ⟨14, r2, r3, r4, r5, r6, 3, r8, r9, r10, r11, r12, r13⟩) HMB4.out
  simp only [Nat.zero_add] at e0 m0 m2 m3 m4 m5 m6 m7 m8 m9 m10 m11 m12 e1 e2 e3 e4 e5 e6 e7 e8 e9
  have c2 := (HC.out _ HB4.out).bc.cell 2
  simp at c2
  have HCq := Lib.hid (HC.out _ HB4.out)
  have HFq := Lib.hid (FrL.below (cb :: ab :: sb :: (wbs ++ L)) HX4.out)
  have HMq := HMB4
  have HRq := HRB4
  go_wp2_with fail
  go_still_tail 5, (by kernel_rfl)
  change wpList _ _ _ _ _ w4.drew
  have HCd : Hid (CR B w4.drew cb ab sb tb wbs L _) := HCq.out.below ((Below.refl _ _).drew)
  have HFd : Hid (FrL (cb :: ab :: sb :: (wbs ++ L)) w1 w4.drew) := HFq.out.drew
  have HMd : Hid (Blk w4.drew _ _ _) := HMq.out
  have HRd : Hid (Blk w4.drew _ _ _) := HRq.out
  have HLd : Hid (B ≤ w4.drew.heap.size) := by have := HFq.out.size; have := HB1.out.size; show B ≤ w4.heap.size; omega
  clear c2
  clear e0 e1 e2 e3 e4 e5 e6 e7 e8 e9 m0 m1 m2 m3 m4 m5 m6 m7 m8 m9 m10 m11 m12
  generalize w4.drew = wd at HCd HFd HMd HRd HLd ⊢
  have HBd := Lib.hid HLd
  go_wp2_with fail
  refine (put_calls B c.n c.k c.A A' ⟨x0, x1, x2, x3, x4, x5, x6, r8, false, x9⟩ ab sb wbs wd HOK.out.a HCd.out.ar ⟨HOX.out.line, HOX.out.state, HOX.out.mode, HOX.out.epoch⟩ HLd.out HP.out).mono ?_
  rintro e wa ⟨rfl, haa, hka, hfa, hla⟩
  have HCa := Lib.hid (HCd.out.adone haa hka hfa (fun T hT => Or.inl (by simpa using hT)))
  have HFa := Lib.hid (HFd.out.trans (hla.sub (fun x hx => by simp at hx ⊢; rcases hx with h1 | h1 <;> simp [h1])))
  have HMa := Lib.hid (HMd.out.fr hfa (by decide))
  have HRa := Lib.hid (HRd.out.fr hfa (by decide))
  clear haa hka hfa hla
  have c2 := HCa.out.bc.cell 2
  have m2 := (msgAt (m := ⟨14, r2, r3, r4, r5, r6, 3, r8, r9, r10, r11, r12, r13⟩) HMa.out).c2
  simp at c2
  simp only at m2
  go_wp2_with fail
  go_still_tail 6, (by kernel_rfl)
  change wpList _ _ _ _ _ wa.drew
  have HCe : Hid (CR B wa.drew cb ab sb tb wbs L _) := HCa.out.below ((Below.refl _ _).drew)
  have HFe : Hid (FrL (cb :: ab :: sb :: (wbs ++ L)) w1 wa.drew) := HFa.out.drew
  have HMe : Hid (Blk wa.drew _ _ _) := HMa.out
  have HRe : Hid (Blk wa.drew _ _ _) := HRa.out
  have HLe : Hid (B ≤ wa.drew.heap.size) := by have := HFa.out.size; have := HB1.out.size; show B ≤ wa.heap.size; omega
  clear c2 m2
  generalize wa.drew = we at HCe HFe HMe HRe HLe ⊢
  go_wp2_with fail
  refine (atouch_calls B c.n c.k A' r3 ab sb wbs we HCe.out.ok.a HCe.out.ar HWL.out HLe.out).mono ?_
  rintro e wb ⟨rfl, hab, hkb, hfb, hlb⟩
  have HCb := Lib.hid (HCe.out.adone hab hkb hfb (fun T hT => Or.inr (by simpa using hT)))
  have HFb := Lib.hid (HFe.out.trans (hlb.sub (fun x hx => by simp at hx ⊢; rcases hx with h1 | h1 <;> simp [h1])))
  have HMb := Lib.hid (HMe.out.fr hfb (by decide))
  have HRb := Lib.hid (HRe.out.fr hfb (by decide))
  clear hab hkb hfb hlb
  have c3 := HCb.out.bc.cell 3
  have m2 := (msgAt (m := ⟨14, r2, r3, r4, r5, r6, 3, r8, r9, r10, r11, r12, r13⟩) HMb.out).c2
  simp at c3
  simp only at m2
  go_wp2_with fail
  go_still_tail 6, (by kernel_rfl)
  change wpList _ _ _ _ _ wb.drew
  have HCf : Hid (CR B wb.drew cb ab sb tb wbs L _) := HCb.out.below ((Below.refl _ _).drew)
  have HFf : Hid (FrL (cb :: ab :: sb :: (wbs ++ L)) w1 wb.drew) := HFb.out.drew
  have HMf : Hid (Blk wb.drew _ _ _) := HMb.out
  have HRf : Hid (Blk wb.drew _ _ _) := HRb.out
  have HLf : Hid (B ≤ wb.drew.heap.size) := by have := HFb.out.size; have := HB1.out.size; show B ≤ wb.heap.size; omega
  clear c3 m2
  generalize wb.drew = wf at HCf HFf HMf HRf HLf ⊢
  go_wp2_with fail
  refine (mdrop_calls B L c.M r3 c.most tb wf (by omega) HLf.out HCf.out.tab).mono ?_
  rintro e wg ⟨⟨bg, rfl⟩, ⟨L', hT, hG⟩, hfg, hlg⟩
  have HCg := Lib.hid (HCf.out.mdone hT hfg (dropM_ok c.M r3 c.most HOK.out.m))
  have HFg := Lib.hid (HFf.out.trans (hlg.sub (fun x hx => by simp [hx])))
  have HGg : Hid (Grow w1 L L') := ⟨hG.1, fun x hx => (hG.2 x hx).imp id (fun h => Nat.le_trans HFf.out.size h)⟩
  have HMg := Lib.hid (HMf.out.fr hfg (by decide))
  have HRg := Lib.hid (HRf.out.fr hfg (by decide))
  clear hT hG hfg hlg
  have c0 := HCg.out.bc.cell 0
  have m2 := (msgAt (m := ⟨14, r2, r3, r4, r5, r6, 3, r8, r9, r10, r11, r12, r13⟩) HMg.out).c2
  simp at c0
  simp only at m2
  go_wp2_with fail
  go_still_tail 7, (by kernel_rfl)
  change wpList _ _ _ _ _ wg.drew
  have HCh : Hid (CR B wg.drew cb ab sb tb wbs L' _) := HCg.out.below ((Below.refl _ _).drew)
  have HFh : Hid (FrL (cb :: ab :: sb :: (wbs ++ L)) w1 wg.drew) := HFg.out.drew
  have HMh : Hid (Blk wg.drew _ _ _) := HMg.out
  have HRh : Hid (Blk wg.drew _ _ _) := HRg.out
  have HLh : Hid (B ≤ wg.drew.heap.size) := by have := HFg.out.size; have := HB1.out.size; show B ≤ wg.heap.size; omega
  clear c0 m2
  generalize wg.drew = wh at HCh HFh HMh HRh HLh ⊢
  go_wp2_with (refine wl_store rfl (.tmp 4) (.tmp 99) 33 rfl (w.heap.size + 1) 0 33 (Msg.cells { Msg.zero with kind := 12, core := c.core, line := r3 }) rfl rfl msgSize _ HRh.out (msgOne _) (by simp [Msg.cells]) ?d9)
  case d9 =>
  intro wz hoz hblk
  have HK := Lib.hid (msgOver (m := Msg.zero) (m' := { Msg.zero with kind := 12, core := c.core, line := r3 }) hblk)
  have HSz := Lib.hid ((CStep.of HCh.out HGg.out HFh.out).only HB1.out HLT.out (by omega) HRB1.out.lt hoz)
  clear hoz hblk
  go_wp2
  exact bodyPost_ret (v := .tuple #[Msg.val { Msg.zero with kind := 12, core := c.core, line := r3 }, .bool true]) (results_msg2 Tryd.results12 { Msg.zero with kind := 12, core := c.core, line := r3 } _ rfl rfl HK.out) rfl ⟨rfl, HSz.out⟩

end Go.Proofs.YtnieambhpmnliaaDoor
