/- A cache: Forward. Printed by gen_fwd.py. -/
import Derived.Test.YtnieambhpmnliaaDoorMine
import Derived.Test.YtnieambhpmnliaaDoorWant
import Derived.Test.YtnieambhpmnliaaDoorEvict
import Derived.Deep.DeepCutAuto
import Derived.Deep.RegionHeld3
namespace Go.Proofs.YtnieambhpmnliaaDoor
set_option linter.all false
set_option linter.unusedVariables false
set_option linter.unusedSimpArgs false
open Go Go.RowKit Go.Sort

/-- A forward's turn of an entry. -/
def fwdEnt (x : Ent) (m : Msg) : Ent :=
  if m.kind = 7 then { x with state := (next x.state m.kind m.mode).1, held := true }
  else if m.kind = 8 then setWord { x with state := (next x.state m.kind m.mode).1, held := false } m.word m.value
  else if m.kind = 9 then { x with state := (next x.state m.kind m.mode).1, mode := m.mode, epoch := m.epoch }
  else { x with state := (next x.state m.kind m.mode).1 }
/-- The answer to a forward for a line that is there. -/
def fwdOut (c : Ca) (x : Ent) (m : Msg) : Msg :=
  { Msg.zero with kind := 11, core := c.core, line := m.line, state := (next x.state m.kind m.mode).1, has := (next x.state m.kind m.mode).2, d0 := if (next x.state m.kind m.mode).2 then x.d0 else 0, d1 := if (next x.state m.kind m.mode).2 then x.d1 else 0, d2 := if (next x.state m.kind m.mode).2 then x.d2 else 0, d3 := if (next x.state m.kind m.mode).2 then x.d3 else 0 }
/-- A take ends an eviction that is under way. -/
def dropC (c : Ca) (m : Msg) : Ca := if m.kind = 10 ∧ (missOf c.M m.line).1 = 4 then { c with M := dropM c.M m.line } else c
/-- Forward: the answer, if there is one; what the cache is then. -/
def forwardC (c : Ca) (m : Msg) : Msg × Bool × Ca :=
  if !mineC c m 1 then (Msg.zero, false, c)
  else if (getA c.A m.line).isSome && (entC c m.line).fresh then (Msg.zero, false, c)
  else if !(getA c.A m.line).isSome then ({ Msg.zero with kind := 11, core := c.core, line := m.line }, true, dropC c m)
  else (fwdOut c (entC c m.line) m, true, { dropC c m with A := if (next (entC c m.line).state m.kind m.mode).1 = 0 then dropA c.A m.line else (putA c.A (fwdEnt (entC c m.line) m)).getD c.A })

theorem mine_right {c : Ca} {m : Msg} {pl : Int} (h : mineC c m pl = true) : right m = true ∧ pool m.kind = pl ∧ m.core = c.core := by
  simp [mineC] at h; exact ⟨h.1.1, h.1.2, h.2⟩
theorem right_facts {m : Msg} (h : right m = true) : within m.line 0 31 = true ∧ (0 ≤ m.word ∧ m.word ≤ 3) ∧ (0 ≤ m.state ∧ m.state ≤ 4) ∧ (0 ≤ m.mode ∧ m.mode ≤ 3) ∧ (0 ≤ m.epoch ∧ m.epoch ≤ 255) := by
  simp [right, limits, within] at h ⊢; omega
theorem pool_one {k : Int} (h : pool k = 1) : k = 5 ∨ k = 6 ∨ k = 7 ∨ k = 8 ∨ k = 9 ∨ k = 10 := by
  unfold pool at h; (repeat' split at h) <;> omega

/-- A step of the table of misses. -/
theorem CR.mdone {B w w' cb ab sb tb wbs L L' c M'} (h : CR B w cb ab sb tb wbs L c) (hT : TabB B L' w' tb c.most M') (hf : Fr B [97, 94] w w') (hm : MOk c.most M') : CR B w' cb ab sb tb wbs L' { c with M := M' } :=
  ⟨h.hB, h.bc.fr hf (by decide), h.ar.fr hf (by decide) (by decide) (by decide), hT, ⟨h.ok.a, hm⟩⟩

set_option maxRecDepth 100000 in
set_option maxHeartbeats 4000000 in
theorem fwd_mine (B : Nat) (c : Ca) (m : Msg) (p : Nat → Addr) (cb : Nat) (F : List Nat) (w : World) (h : CAt B w cb c F) (hB : B ≤ w.heap.size) (hmi : mineC c m 1 = false) :
    Calls Tryd.prog 16 #[.pointer (some ⟨cb, 0, none⟩), m.val] w fun e w' => e = .returned (.tuple #[Msg.zero.val, .bool false]) ∧ CStep B w cb F w' c := by
  have HF := Lib.hid (fun w1 (hb : Below w.heap.size w w1) => CStep.same h hb)
  have HLT := Lib.hid h.lt
  have HMI := Lib.hid (fun w1 (hb : Below w.heap.size w w1) => mine_calls B c m 1 cb F w1 (h.below hb))
  rw [hmi] at HMI
  have HMB := Lib.hid (blk_new w m.cells 33 _ rfl)
  have hb0 := ((Below.refl w.heap.size w).alloc (Nat.le_refl _) (.cells m.cells.toArray 33)).alloc (by simp) (.cells Msg.zero.cells.toArray 33)
  have HMB0 := Lib.hid (HMB.out.below ((Below.refl _ _).alloc (Nat.le_refl _) (.cells Msg.zero.cells.toArray 33)) HMB.out.lt)
  have HRB0 := Lib.hid (blk_new (w.alloc (.cells m.cells.toArray 33)) Msg.zero.cells 33 (w.heap.size + 1) (by simp))
  have hz0 : ((w.alloc (.cells m.cells.toArray 33)).alloc (.cells Msg.zero.cells.toArray 33)).heap.size = w.heap.size + 2 := by simp
  have HB0 := Lib.hid hb0
  clear HMB hb0
  clear h hmi
  obtain ⟨r1, r2, r3, r4, r5, r6, r7, r8, r9, r10, r11, r12, r13⟩ := m
  simp only [Msg.cells, Msg.val, Msg.zero] at *
  go_enter Tryd.func16, Tryd.ntmps16
  go_wp2_with fail
  generalize (w.alloc (.cells #[.int .i64 r1, .int .i64 r2, .int .i64 r3, .int .i64 r4, .int .i64 r5, .int .i64 r6, .int .i64 r7, .int .u32 r8, .int .u32 r9, .int .u32 r10, .int .u32 r11, .int .u32 r12, .bool r13] 33)).alloc (.cells #[.int .i64 0, .int .i64 0, .int .i64 0, .int .i64 0, .int .i64 0, .int .i64 0, .int .i64 0, .int .u32 0, .int .u32 0, .int .u32 0, .int .u32 0, .int .u32 0, .bool false] 33) = W at *
  refine (HMI.out _ HB0.out).mono ?_
  rintro e w1 ⟨rfl, hb1⟩
  have HB1 := Lib.hid (HB0.out.trans (hb1.mono HB0.out.size))
  have HMB1 := Lib.hid (HMB0.out.below hb1 HMB0.out.lt)
  have HRB1 := Lib.hid (HRB0.out.below hb1 HRB0.out.lt)
  clear hb1
  go_wp2_with (refine wl_store rfl (.tmp 4) (.tmp 15) 33 rfl (w.heap.size + 1) 0 33 Msg.zero.cells rfl rfl msgSize _ HRB1.out (msgOne _) (by simp [Msg.cells]) ?d1)
  case d1 =>
    intro wz hoz hblk
    have HK := Lib.hid (msgOver (m := Msg.zero) (m' := Msg.zero) hblk)
    have HBz := Lib.hid (HB1.out.trans (hoz.below.mono (by omega)))
    clear hoz hblk
    go_wp2
    exact bodyPost_ret (v := .tuple #[Msg.zero.val, .bool false]) (results_msg2 Tryd.results16 Msg.zero _ rfl rfl HK.out) rfl ⟨rfl, HF.out _ HBz.out⟩

set_option maxRecDepth 100000 in
set_option maxHeartbeats 4000000 in
theorem fwd_fresh (B : Nat) (c : Ca) (m : Msg) (p : Nat → Addr) (cb : Nat) (F : List Nat) (w : World) (h : CAt B w cb c F) (hB : B ≤ w.heap.size) (hmi : mineC c m 1 = true) (hs : (getA c.A m.line).isSome = true) (hfr : (entC c m.line).fresh = true) :
    Calls Tryd.prog 16 #[.pointer (some ⟨cb, 0, none⟩), m.val] w fun e w' => e = .returned (.tuple #[Msg.zero.val, .bool false]) ∧ CStep B w cb F w' c := by
  have HF := Lib.hid (fun w1 (hb : Below w.heap.size w w1) => CStep.same h hb)
  have HLT := Lib.hid h.lt
  have HMI := Lib.hid (fun w1 (hb : Below w.heap.size w w1) => mine_calls B c m 1 cb F w1 (h.below hb))
  have HRI := Lib.hid (mine_right hmi)
  obtain ⟨hl', hwd, hst, hmd, hep⟩ := right_facts HRI.out.1
  have HWL := Lib.hid hl'
  clear hl'
  obtain ⟨ab, sb, tb, wbs, L, h, rfl⟩ := h
  have h8 := h.ok.m.most8
  have hlen := h.ok.m.len
  have HC := Lib.hid (fun w1 (hb : Below w.heap.size w w1) => h.below hb)
  have HMS := Lib.hid (fun w1 (hb : Below w.heap.size w w1) => get_calls c.M m.line c.most tb w1 (by omega) (h.tab.below hb).tab)
  have HAG := Lib.hid (fun w1 (hb : Below w.heap.size w w1) => aget_calls B c.n c.k c.A m.line ab sb wbs w1 h.ok.a (h.ar.below hb))
  have HOK := Lib.hid h.ok
  have hbc := h.bc.lt
  rw [hmi] at HMI
  unfold getV at HAG
  rw [hs] at HAG
  unfold entC at hfr
  generalize (getA c.A m.line).getD .zero = x at HAG hfr
  obtain ⟨x0, x1, x2, x3, x4, x5, x6, x7, x8, x9⟩ := x
  simp only [Ent.val] at HAG hfr
  subst hfr
  clear h hmi hs
  have HMB := Lib.hid (blk_new w m.cells 33 _ rfl)
  have hb0 := ((Below.refl w.heap.size w).alloc (Nat.le_refl _) (.cells m.cells.toArray 33)).alloc (by simp) (.cells Msg.zero.cells.toArray 33)
  have HMB0 := Lib.hid (HMB.out.below ((Below.refl _ _).alloc (Nat.le_refl _) (.cells Msg.zero.cells.toArray 33)) HMB.out.lt)
  have HRB0 := Lib.hid (blk_new (w.alloc (.cells m.cells.toArray 33)) Msg.zero.cells 33 (w.heap.size + 1) (by simp))
  have hz0 : ((w.alloc (.cells m.cells.toArray 33)).alloc (.cells Msg.zero.cells.toArray 33)).heap.size = w.heap.size + 2 := by simp
  have HB0 := Lib.hid hb0
  clear HMB hb0
  obtain ⟨r1, r2, r3, r4, r5, r6, r7, r8, r9, r10, r11, r12, r13⟩ := m
  simp only [Msg.cells, Msg.val, Msg.zero] at *
  go_enter Tryd.func16, Tryd.ntmps16
  go_wp2_with fail
  generalize (w.alloc (.cells #[.int .i64 r1, .int .i64 r2, .int .i64 r3, .int .i64 r4, .int .i64 r5, .int .i64 r6, .int .i64 r7, .int .u32 r8, .int .u32 r9, .int .u32 r10, .int .u32 r11, .int .u32 r12, .bool r13] 33)).alloc (.cells #[.int .i64 0, .int .i64 0, .int .i64 0, .int .i64 0, .int .i64 0, .int .i64 0, .int .i64 0, .int .u32 0, .int .u32 0, .int .u32 0, .int .u32 0, .int .u32 0, .bool false] 33) = W at *
  refine (HMI.out _ HB0.out).mono ?_
  rintro e w1 ⟨rfl, hb1⟩
  have HB1 := Lib.hid (HB0.out.trans (hb1.mono HB0.out.size))
  have HMB1 := Lib.hid (HMB0.out.below hb1 HMB0.out.lt)
  have HRB1 := Lib.hid (HRB0.out.below hb1 HRB0.out.lt)
  clear hb1
  have c2 := (HC.out _ HB1.out).bc.cell 2
  simp at c2
  have m2 := (msgAt (m := ⟨r1, r2, r3, r4, r5, r6, r7, r8, r9, r10, r11, r12, r13⟩) HMB1.out).c2
  have hz1 : w.heap.size + 2 ≤ w1.heap.size := by have := HRB1.out.lt; omega
  simp only at m2
  have hcb1 : cb < w1.heap.size := by omega
  have hcm1 : w.heap.size < w1.heap.size := by omega
  go_wp2_with fail
  go_cut [6, 7] (fun s6 s7 wx => ∃ g : Nat, s6 = .pointer (some ⟨g, 0, none⟩) ∧ s7 = .bool true ∧ Below w1.heap.size w1 wx ∧ w1.heap.size ≤ g ∧ Hid (Blk wx g 69 (Ent.cells ⟨x0, x1, x2, x3, x4, x5, x6, x7, x8, true⟩)))
  case first =>
    go_region_held3 (fun w' => w'.cell? ⟨cb, 2, none⟩ = some (.pointer (some ⟨ab, 0, none⟩)) ∧ w'.cell? ⟨w.heap.size, 2, none⟩ = some (.int .i64 r3)) (first | (go_keep; done) | (refine ⟨?_, ?_⟩ <;> first | (go_keep; done) | (simp [World.cell?_setCell_other, *]; done))) ((go_at_call 26; refine (HAG.out _ (by first | exact HB1.out.drew | exact (Below.alloc HB1.out HB1.out.size _).drew)).mono ?_; rintro e w3 ⟨rfl, hb3⟩; have q1 := hb3.cell (p := ⟨cb, 2, none⟩) (by simp; omega); have q2 := hb3.cell (p := ⟨w.heap.size, 2, none⟩) (by simp; try omega); simp [World.cell?_alloc_lt, hcb1, hcm1, Nat.ne_of_lt hcb1, Nat.ne_of_lt hcm1, c2, m2] at q1 q2; first | (have hz : Blk w3 w1.heap.size 69 Ent.zero.cells := Blk.below (blk_newd _ Ent.zero.cells _ _ (by simp)) hb3 (by simp); obtain ⟨z0, z1, z2, z3, z4, z5, z6, z7, z8, z9⟩ := entAt0 hz; obtain ⟨y0, y1, y2, y3, y4, y5, y6, y7, y8, y9⟩ := entFree hz; simp only [Nat.zero_add] at z1 z2 z3 z4 z5 z6 z7 z8 z9; have HZ := Lib.hid hz; clear hz) | skip))
    · have hw3 : Below w1.heap.size w1 w3 := ((Below.refl _ w1).drew).trans (hb3.mono (by simp))
      have HAl := Lib.hid (fun o : Obj => Below.alloc hw3 hw3.size o)
      have hz3 := hw3.size
      clear hb3 hw3 q1 q2
      go_wp2_with fail
      go_meet
      exact ⟨w3.heap.size, rfl, rfl, HAl.out _, hz3, blk_new _ (Ent.cells ⟨x0, x1, x2, x3, x4, x5, x6, x7, x8, true⟩) _ _ rfl⟩
    · have hw3 : Below w1.heap.size w1 w3 := (((Below.refl _ w1).alloc (Nat.le_refl _) _).drew).trans (hb3.mono (by simp))
      have HW3 := Lib.hid hw3
      clear hb3 hw3 q1 q2
      go_wp2_with fail
      go_meet
      obtain ⟨po, pb⟩ := put10 HZ.out x0 x1 x2 x3 x4 x5 x6 x7 x8 true
      exact ⟨_, rfl, rfl, HW3.out.trans (po.below.mono (Nat.le_refl _)), Nat.le_refl _, pb⟩
  case rest =>
  obtain ⟨ge, rfl, rfl, hwx, hge, HE2⟩ := hcut
  have HB2 := Lib.hid (HB1.out.trans (hwx.mono HB1.out.size))
  have HMB2 := Lib.hid (HMB1.out.below hwx HMB1.out.lt)
  have HRB2 := Lib.hid (HRB1.out.below hwx HRB1.out.lt)
  clear hwx c2 m2
  have e9 := (entAt0 HE2.out).c9
  simp only [Nat.zero_add] at e9
  go_wp2_with (refine wl_store rfl (.tmp 4) (.tmp 31) 33 rfl (w.heap.size + 1) 0 33 Msg.zero.cells rfl rfl msgSize _ HRB2.out (msgOne _) (by simp [Msg.cells]) ?d1)
  case d1 =>
    intro wz hoz hblk
    have HK := Lib.hid (msgOver (m := Msg.zero) (m' := Msg.zero) hblk)
    have HBz := Lib.hid (HB2.out.trans (hoz.below.mono (by omega)))
    clear hoz hblk
    go_wp2
    exact bodyPost_ret (v := .tuple #[Msg.zero.val, .bool false]) (results_msg2 Tryd.results16 Msg.zero _ rfl rfl HK.out) rfl ⟨rfl, HF.out _ HBz.out⟩

end Go.Proofs.YtnieambhpmnliaaDoor
