/- A cache: Answer. Printed by gen_ans.py. -/
import Derived.Test.YtnieambhpmnliaaDoorFwd3
import Derived.Deep.DeepCutAuto
import Derived.Deep.RegionHeld3
namespace Go.Proofs.YtnieambhpmnliaaDoor
set_option linter.all false
set_option linter.unusedVariables false
set_option linter.unusedSimpArgs false
open Go Go.RowKit Go.Sort

/-- What an answer of the home makes of a line's entry. -/
def ansEnt (x : Ent) (m : Msg) : Ent :=
  if m.kind = 14 then setWord { x with held := false } m.word m.value
  else if m.has then ⟨m.line, m.state, m.mode, m.epoch, m.d0, m.d1, m.d2, m.d3, false, true⟩ else ⟨m.line, m.state, m.mode, m.epoch, x.d0, x.d1, x.d2, x.d3, false, true⟩
/-- Answer: what the home is told, if it may be; what the cache is then. -/
def answerC (c : Ca) (m : Msg) : Msg × Bool × Ca :=
  if !mineC c m 3 then (Msg.zero, false, c)
  else if m.kind = 15 then (Msg.zero, true, { c with M := dropM c.M m.line })
  else if !(getA c.A m.line).isSome && !m.has then (Msg.zero, false, c)
  else match putA c.A (ansEnt (entC c m.line) m) with
    | none => (Msg.zero, false, c)
    | some A' => ({ Msg.zero with kind := 12, core := c.core, line := m.line }, true, { c with A := touchA A' m.line, M := dropM c.M m.line })

theorem pool_three {k : Int} (h : pool k = 3) : k = 13 ∨ k = 14 ∨ k = 15 := by
  unfold pool at h; (repeat' split at h) <;> omega
/-- A step of the array. -/
theorem CR.adone {B w w' cb ab sb tb wbs L c A'} (h : CR B w cb ab sb tb wbs L c) (ha : ArrR B w' ab sb wbs A') (hk : AOk c.n c.k A') {S : List TypeId} (hf : Fr B S w w') (hS : ∀ T ∈ S, T = 69 ∨ T = 92) : CR B w' cb ab sb tb wbs L { c with A := A' } :=
  ⟨h.hB, h.bc.fr hf (fun hm => by rcases hS _ hm with e | e <;> exact absurd e (by decide)), ha, h.tab.fr hf (fun hm => by rcases hS _ hm with e | e <;> exact absurd e (by decide)) (fun hm => by rcases hS _ hm with e | e <;> exact absurd e (by decide)), ⟨hk, h.ok.m⟩⟩
theorem CStep.of {B w w' cb ab sb tb wbs L L' c'} (h : CR B w' cb ab sb tb wbs L' c') (hG : Grow w L L') (hF : FrL (cb :: ab :: sb :: (wbs ++ L)) w w') : CStep B w cb (cb :: ab :: sb :: (wbs ++ L)) w' c' := by
  refine ⟨cb :: ab :: sb :: (wbs ++ L'), ⟨ab, sb, tb, wbs, L', h, rfl⟩, ⟨fun x hx => ?_, fun x hx => ?_⟩, hF⟩
  · simp only [List.mem_cons, List.mem_append] at hx ⊢
    rcases hx with h1 | h1 | h1 | h1 | h1
    · exact Or.inl h1
    · exact Or.inr (Or.inl h1)
    · exact Or.inr (Or.inr (Or.inl h1))
    · exact Or.inr (Or.inr (Or.inr (Or.inl h1)))
    · exact Or.inr (Or.inr (Or.inr (Or.inr (hG.1 x h1))))
  · simp only [List.mem_cons, List.mem_append] at hx ⊢
    rcases hx with h1 | h1 | h1 | h1 | h1
    · exact Or.inl (Or.inl h1)
    · exact Or.inl (Or.inr (Or.inl h1))
    · exact Or.inl (Or.inr (Or.inr (Or.inl h1)))
    · exact Or.inl (Or.inr (Or.inr (Or.inr (Or.inl h1))))
    · exact (hG.2 x h1).imp (fun h2 => Or.inr (Or.inr (Or.inr (Or.inr h2)))) id

set_option maxRecDepth 100000 in
set_option maxHeartbeats 8000000 in
theorem ans_mine (B : Nat) (c : Ca) (m : Msg) (p : Nat → Addr) (cb : Nat) (F : List Nat) (w : World) (h : CAt B w cb c F) (hg : Sent B w p) (hmi : mineC c m 3 = false) :
    Calls Tryd.prog 12 #[.pointer (some ⟨cb, 0, none⟩), m.val] w fun e w' => e = .returned (.tuple #[Msg.zero.val, .bool false]) ∧ CStep B w cb F w' c := by
  have hB := hg.size
  have HF := Lib.hid (fun w1 (hb : Below w.heap.size w w1) => CStep.same h hb)
  have HLT := Lib.hid h.lt
  have HMI := Lib.hid (fun w1 (hb : Below w.heap.size w w1) => mine_calls B c m 3 cb F w1 (h.below hb))
  rw [hmi] at HMI
  have HMB := Lib.hid (blk_new w m.cells 33 _ rfl)
  have hb0 := ((Below.refl w.heap.size w).alloc (Nat.le_refl _) (.cells m.cells.toArray 33)).alloc (by simp) (.cells Msg.zero.cells.toArray 33)
  have HMB0 := Lib.hid (HMB.out.below ((Below.refl _ _).alloc (Nat.le_refl _) (.cells Msg.zero.cells.toArray 33)) HMB.out.lt)
  have HRB0 := Lib.hid (blk_new (w.alloc (.cells m.cells.toArray 33)) Msg.zero.cells 33 (w.heap.size + 1) (by simp))
  have hz0 : ((w.alloc (.cells m.cells.toArray 33)).alloc (.cells Msg.zero.cells.toArray 33)).heap.size = w.heap.size + 2 := by simp
  have HB0 := Lib.hid hb0
  clear HMB hb0
  clear h hg hmi
  obtain ⟨r1, r2, r3, r4, r5, r6, r7, r8, r9, r10, r11, r12, r13⟩ := m
  simp only [Msg.cells, Msg.val, Msg.zero] at *
  go_enter Tryd.func12, Tryd.ntmps12
  go_wp2_with fail
  generalize (w.alloc (.cells #[.int .i64 r1, .int .i64 r2, .int .i64 r3, .int .i64 r4, .int .i64 r5, .int .i64 r6, .int .i64 r7, .int .u32 r8, .int .u32 r9, .int .u32 r10, .int .u32 r11, .int .u32 r12, .bool r13] 33)).alloc (.cells #[.int .i64 0, .int .i64 0, .int .i64 0, .int .i64 0, .int .i64 0, .int .i64 0, .int .i64 0, .int .u32 0, .int .u32 0, .int .u32 0, .int .u32 0, .int .u32 0, .bool false] 33) = W at *
  refine (HMI.out _ HB0.out).mono ?_
  rintro e w1 ⟨rfl, hb1⟩
  have HB1 := Lib.hid (HB0.out.trans (hb1.mono HB0.out.size))
  have HMB1 := Lib.hid (HMB0.out.below hb1 HMB0.out.lt)
  have HRB1 := Lib.hid (HRB0.out.below hb1 HRB0.out.lt)
  clear hb1
  go_wp2_with (refine wl_store rfl (.tmp 4) (.tmp 12) 33 rfl (w.heap.size + 1) 0 33 Msg.zero.cells rfl rfl msgSize _ HRB1.out (msgOne _) (by simp [Msg.cells]) ?d1)
  case d1 =>
    intro wz hoz hblk
    have HK := Lib.hid (msgOver (m := Msg.zero) (m' := Msg.zero) hblk)
    have HSz := Lib.hid (HF.out _ (HB1.out.trans (hoz.below.mono (by omega))))
    clear hoz hblk
    go_wp2
    exact bodyPost_ret (v := .tuple #[Msg.zero.val, .bool false]) (results_msg2 Tryd.results12 Msg.zero _ rfl rfl HK.out) rfl ⟨rfl, HSz.out⟩

set_option maxRecDepth 100000 in
set_option maxHeartbeats 8000000 in
theorem ans_none (B : Nat) (c : Ca) (m : Msg) (p : Nat → Addr) (cb : Nat) (F : List Nat) (w : World) (h : CAt B w cb c F) (hg : Sent B w p) (hmi : mineC c m 3 = true) (hk : m.kind ≠ 15) (hs : (getA c.A m.line).isSome = false) (hh : m.has = false) :
    Calls Tryd.prog 12 #[.pointer (some ⟨cb, 0, none⟩), m.val] w fun e w' => e = .returned (.tuple #[Msg.zero.val, .bool false]) ∧ CStep B w cb F w' c := by
  have hB := hg.size
  have HF := Lib.hid (fun w1 (hb : Below w.heap.size w w1) => CStep.same h hb)
  have HLT := Lib.hid h.lt
  have HMI := Lib.hid (fun w1 (hb : Below w.heap.size w w1) => mine_calls B c m 3 cb F w1 (h.below hb))
  have HRI := Lib.hid (mine_right hmi)
  obtain ⟨hl', hwd, hst, hmd, hep⟩ := right_facts HRI.out.1
  have HWL := Lib.hid hl'
  clear hl'
  obtain ⟨ab, sb, tb, wbs, L, h, rfl⟩ := h
  have h8 := h.ok.m.most8
  have hlen := h.ok.m.len
  have HC := Lib.hid (fun w1 (hb : Below w.heap.size w w1) => h.below hb)
  have HMS := Lib.hid (fun w1 (hb : Below w.heap.size w w1) => get_calls c.M m.line c.most tb w1 (by omega) (h.tab.below hb).tab)
  have HAG := Lib.hid (fun w1 (hb : Below w.heap.size w w1) => aget_calls B c.n c.k c.A m.line ab sb wbs w1 h.ok.a (h.ar.below hb))
  have HOK := Lib.hid h.ok
  have hbc := h.bc.lt
  rw [hmi] at HMI
  unfold getV at HAG
  rw [hs] at HAG
  generalize (getA c.A m.line).getD .zero = x at HAG
  obtain ⟨x0, x1, x2, x3, x4, x5, x6, x7, x8, x9⟩ := x
  simp only [Ent.val] at HAG
  have HK1 : Hid ((m.kind == 15) = false) := by simpa [Hid] using hk
  have HHH := Lib.hid hh
  clear h hg hmi hs hk hh
  have HMB := Lib.hid (blk_new w m.cells 33 _ rfl)
  have hb0 := ((Below.refl w.heap.size w).alloc (Nat.le_refl _) (.cells m.cells.toArray 33)).alloc (by simp) (.cells Msg.zero.cells.toArray 33)
  have HMB0 := Lib.hid (HMB.out.below ((Below.refl _ _).alloc (Nat.le_refl _) (.cells Msg.zero.cells.toArray 33)) HMB.out.lt)
  have HRB0 := Lib.hid (blk_new (w.alloc (.cells m.cells.toArray 33)) Msg.zero.cells 33 (w.heap.size + 1) (by simp))
  have hz0 : ((w.alloc (.cells m.cells.toArray 33)).alloc (.cells Msg.zero.cells.toArray 33)).heap.size = w.heap.size + 2 := by simp
  have HB0 := Lib.hid hb0
  clear HMB hb0
  obtain ⟨r1, r2, r3, r4, r5, r6, r7, r8, r9, r10, r11, r12, r13⟩ := m
  have hhh := HHH.out
  simp only at hhh
  subst hhh
  simp only [Msg.cells, Msg.val, Msg.zero] at *
  go_enter Tryd.func12, Tryd.ntmps12
  go_wp2_with fail
  generalize (w.alloc (.cells #[.int .i64 r1, .int .i64 r2, .int .i64 r3, .int .i64 r4, .int .i64 r5, .int .i64 r6, .int .i64 r7, .int .u32 r8, .int .u32 r9, .int .u32 r10, .int .u32 r11, .int .u32 r12, .bool false] 33)).alloc (.cells #[.int .i64 0, .int .i64 0, .int .i64 0, .int .i64 0, .int .i64 0, .int .i64 0, .int .i64 0, .int .u32 0, .int .u32 0, .int .u32 0, .int .u32 0, .int .u32 0, .bool false] 33) = W at *
  refine (HMI.out _ HB0.out).mono ?_
  rintro e w1 ⟨rfl, hb1⟩
  have HB1 := Lib.hid (HB0.out.trans (hb1.mono HB0.out.size))
  have HMB1 := Lib.hid (HMB0.out.below hb1 HMB0.out.lt)
  have HRB1 := Lib.hid (HRB0.out.below hb1 HRB0.out.lt)
  clear hb1
  have c2 := (HC.out _ HB1.out).bc.cell 2
  simp at c2
  have m2 := (msgAt (m := ⟨r1, r2, r3, r4, r5, r6, r7, r8, r9, r10, r11, r12, false⟩) HMB1.out).c2
  have hz1 : w.heap.size + 2 ≤ w1.heap.size := by have := HRB1.out.lt; omega
  simp only at m2
  have hcb1 : cb < w1.heap.size := by omega
  have hcm1 : w.heap.size < w1.heap.size := by omega
  go_wp2_with fail
  go_cut [6, 7] (fun s6 s7 wx => ∃ g : Nat, s6 = .pointer (some ⟨g, 0, none⟩) ∧ s7 = .bool false ∧ Below w1.heap.size w1 wx ∧ w1.heap.size ≤ g ∧ Hid (Blk wx g 69 (Ent.cells ⟨x0, x1, x2, x3, x4, x5, x6, x7, x8, x9⟩)))
  case first =>
    go_region_held3 (fun w' => w'.cell? ⟨cb, 2, none⟩ = some (.pointer (some ⟨ab, 0, none⟩)) ∧ w'.cell? ⟨w.heap.size, 2, none⟩ = some (.int .i64 r3)) (first | (go_keep; done) | (refine ⟨?_, ?_⟩ <;> first | (go_keep; done) | (simp [World.cell?_setCell_other, *]; done))) ((go_at_call 26; refine (HAG.out _ (by first | exact HB1.out.drew | exact (Below.alloc HB1.out HB1.out.size _).drew)).mono ?_; rintro e w3 ⟨rfl, hb3⟩; have q1 := hb3.cell (p := ⟨cb, 2, none⟩) (by simp; omega); have q2 := hb3.cell (p := ⟨w.heap.size, 2, none⟩) (by simp; try omega); simp [World.cell?_alloc_lt, hcb1, hcm1, Nat.ne_of_lt hcb1, Nat.ne_of_lt hcm1, c2, m2] at q1 q2; first | (have hz : Blk w3 w1.heap.size 69 Ent.zero.cells := Blk.below (blk_newd _ Ent.zero.cells _ _ (by simp)) hb3 (by simp); obtain ⟨z0, z1, z2, z3, z4, z5, z6, z7, z8, z9⟩ := entAt0 hz; obtain ⟨y0, y1, y2, y3, y4, y5, y6, y7, y8, y9⟩ := entFree hz; simp only [Nat.zero_add] at z1 z2 z3 z4 z5 z6 z7 z8 z9; have HZ := Lib.hid hz; clear hz) | skip))
    · have hw3 : Below w1.heap.size w1 w3 := ((Below.refl _ w1).drew).trans (hb3.mono (by simp))
      have HAl := Lib.hid (fun o : Obj => Below.alloc hw3 hw3.size o)
      have hz3 := hw3.size
      clear hb3 hw3 q1 q2
      go_wp2_with fail
      go_meet
      exact ⟨w3.heap.size, rfl, rfl, HAl.out _, hz3, blk_new _ (Ent.cells ⟨x0, x1, x2, x3, x4, x5, x6, x7, x8, x9⟩) _ _ rfl⟩
    · have hw3 : Below w1.heap.size w1 w3 := (((Below.refl _ w1).alloc (Nat.le_refl _) _).drew).trans (hb3.mono (by simp))
      have HW3 := Lib.hid hw3
      clear hb3 hw3 q1 q2
      go_wp2_with fail
      go_meet
      obtain ⟨po, pb⟩ := put10 HZ.out x0 x1 x2 x3 x4 x5 x6 x7 x8 x9
      exact ⟨_, rfl, rfl, HW3.out.trans (po.below.mono (Nat.le_refl _)), Nat.le_refl _, pb⟩
  case rest =>
  obtain ⟨ge, rfl, rfl, hwx, hge, HE2⟩ := hcut
  have HB2 := Lib.hid (HB1.out.trans (hwx.mono HB1.out.size))
  have HMB2 := Lib.hid (HMB1.out.below hwx HMB1.out.lt)
  have HRB2 := Lib.hid (HRB1.out.below hwx HRB1.out.lt)
  have HX2 := Lib.hid hwx
  clear hwx c2 m2
  have hk1 : (r1 == 15) = false := HK1.out
  obtain ⟨e0, e1, e2, e3, e4, e5, e6, e7, e8, e9⟩ := entAt0 HE2.out
  obtain ⟨m0, m1, m2, m3, m4, m5, m6, m7, m8, m9, m10, m11, m12⟩ := msgAt (m := ⟨r1, r2, r3, r4, r5, r6, r7, r8, r9, r10, r11, r12, false⟩) HMB2.out
  simp only [Nat.zero_add] at e0 m0 m2 m3 m4 m5 m6 m7 m8 m9 m10 m11 m12 e1 e2 e3 e4 e5 e6 e7 e8 e9
  go_wp2_with (refine wl_store rfl (.tmp 4) (.tmp 59) 33 rfl (w.heap.size + 1) 0 33 Msg.zero.cells rfl rfl msgSize _ HRB2.out (msgOne _) (by simp [Msg.cells]) ?d1)
  case d1 =>
    intro wz hoz hblk
    have HK := Lib.hid (msgOver (m := Msg.zero) (m' := Msg.zero) hblk)
    have HSz := Lib.hid (HF.out _ (HB2.out.trans (hoz.below.mono (by omega))))
    clear hoz hblk
    go_wp2
    exact bodyPost_ret (v := .tuple #[Msg.zero.val, .bool false]) (results_msg2 Tryd.results12 Msg.zero _ rfl rfl HK.out) rfl ⟨rfl, HSz.out⟩

set_option maxRecDepth 100000 in
set_option maxHeartbeats 8000000 in
theorem ans_gone (B : Nat) (c : Ca) (m : Msg) (p : Nat → Addr) (cb : Nat) (F : List Nat) (w : World) (h : CAt B w cb c F) (hg : Sent B w p) (hmi : mineC c m 3 = true) (hk : m.kind = 15) :
    Calls Tryd.prog 12 #[.pointer (some ⟨cb, 0, none⟩), m.val] w fun e w' => e = .returned (.tuple #[Msg.zero.val, .bool true]) ∧ CStep B w cb F w' { c with M := dropM c.M m.line } := by
  have hB := hg.size
  have HF := Lib.hid (fun w1 (hb : Below w.heap.size w w1) => CStep.same h hb)
  have HLT := Lib.hid h.lt
  have HMI := Lib.hid (fun w1 (hb : Below w.heap.size w w1) => mine_calls B c m 3 cb F w1 (h.below hb))
  have HRI := Lib.hid (mine_right hmi)
  obtain ⟨hl', hwd, hst, hmd, hep⟩ := right_facts HRI.out.1
  have HWL := Lib.hid hl'
  clear hl'
  obtain ⟨ab, sb, tb, wbs, L, h, rfl⟩ := h
  have h8 := h.ok.m.most8
  have hlen := h.ok.m.len
  have HC := Lib.hid (fun w1 (hb : Below w.heap.size w w1) => h.below hb)
  have HMS := Lib.hid (fun w1 (hb : Below w.heap.size w w1) => get_calls c.M m.line c.most tb w1 (by omega) (h.tab.below hb).tab)
  have HAG := Lib.hid (fun w1 (hb : Below w.heap.size w w1) => aget_calls B c.n c.k c.A m.line ab sb wbs w1 h.ok.a (h.ar.below hb))
  have HOK := Lib.hid h.ok
  have hbc := h.bc.lt
  rw [hmi] at HMI
  unfold getV at HAG
  generalize (getA c.A m.line).isSome = ok at HAG
  generalize (getA c.A m.line).getD .zero = x at HAG
  obtain ⟨x0, x1, x2, x3, x4, x5, x6, x7, x8, x9⟩ := x
  simp only [Ent.val] at HAG
  have HKK := Lib.hid hk
  clear h hg hmi hk
  have HMB := Lib.hid (blk_new w m.cells 33 _ rfl)
  have hb0 := ((Below.refl w.heap.size w).alloc (Nat.le_refl _) (.cells m.cells.toArray 33)).alloc (by simp) (.cells Msg.zero.cells.toArray 33)
  have HMB0 := Lib.hid (HMB.out.below ((Below.refl _ _).alloc (Nat.le_refl _) (.cells Msg.zero.cells.toArray 33)) HMB.out.lt)
  have HRB0 := Lib.hid (blk_new (w.alloc (.cells m.cells.toArray 33)) Msg.zero.cells 33 (w.heap.size + 1) (by simp))
  have hz0 : ((w.alloc (.cells m.cells.toArray 33)).alloc (.cells Msg.zero.cells.toArray 33)).heap.size = w.heap.size + 2 := by simp
  have HB0 := Lib.hid hb0
  clear HMB hb0
  obtain ⟨r1, r2, r3, r4, r5, r6, r7, r8, r9, r10, r11, r12, r13⟩ := m
  have hkk := HKK.out
  simp only at hkk
  subst hkk
  simp only [Msg.cells, Msg.val, Msg.zero] at *
  go_enter Tryd.func12, Tryd.ntmps12
  go_wp2_with fail
  generalize (w.alloc (.cells #[.int .i64 15, .int .i64 r2, .int .i64 r3, .int .i64 r4, .int .i64 r5, .int .i64 r6, .int .i64 r7, .int .u32 r8, .int .u32 r9, .int .u32 r10, .int .u32 r11, .int .u32 r12, .bool r13] 33)).alloc (.cells #[.int .i64 0, .int .i64 0, .int .i64 0, .int .i64 0, .int .i64 0, .int .i64 0, .int .i64 0, .int .u32 0, .int .u32 0, .int .u32 0, .int .u32 0, .int .u32 0, .bool false] 33) = W at *
  refine (HMI.out _ HB0.out).mono ?_
  rintro e w1 ⟨rfl, hb1⟩
  have HB1 := Lib.hid (HB0.out.trans (hb1.mono HB0.out.size))
  have HMB1 := Lib.hid (HMB0.out.below hb1 HMB0.out.lt)
  have HRB1 := Lib.hid (HRB0.out.below hb1 HRB0.out.lt)
  clear hb1
  have c2 := (HC.out _ HB1.out).bc.cell 2
  simp at c2
  have m2 := (msgAt (m := ⟨15, r2, r3, r4, r5, r6, r7, r8, r9, r10, r11, r12, r13⟩) HMB1.out).c2
  have hz1 : w.heap.size + 2 ≤ w1.heap.size := by have := HRB1.out.lt; omega
  simp only at m2
  have hcb1 : cb < w1.heap.size := by omega
  have hcm1 : w.heap.size < w1.heap.size := by omega
  go_wp2_with fail
  go_cut [6, 7] (fun s6 s7 wx => ∃ g : Nat, s6 = .pointer (some ⟨g, 0, none⟩) ∧ s7 = .bool ok ∧ Below w1.heap.size w1 wx ∧ w1.heap.size ≤ g ∧ Hid (Blk wx g 69 (Ent.cells ⟨x0, x1, x2, x3, x4, x5, x6, x7, x8, x9⟩)))
  case first =>
    go_region_held3 (fun w' => w'.cell? ⟨cb, 2, none⟩ = some (.pointer (some ⟨ab, 0, none⟩)) ∧ w'.cell? ⟨w.heap.size, 2, none⟩ = some (.int .i64 r3)) (first | (go_keep; done) | (refine ⟨?_, ?_⟩ <;> first | (go_keep; done) | (simp [World.cell?_setCell_other, *]; done))) ((go_at_call 26; refine (HAG.out _ (by first | exact HB1.out.drew | exact (Below.alloc HB1.out HB1.out.size _).drew)).mono ?_; rintro e w3 ⟨rfl, hb3⟩; have q1 := hb3.cell (p := ⟨cb, 2, none⟩) (by simp; omega); have q2 := hb3.cell (p := ⟨w.heap.size, 2, none⟩) (by simp; try omega); simp [World.cell?_alloc_lt, hcb1, hcm1, Nat.ne_of_lt hcb1, Nat.ne_of_lt hcm1, c2, m2] at q1 q2; first | (have hz : Blk w3 w1.heap.size 69 Ent.zero.cells := Blk.below (blk_newd _ Ent.zero.cells _ _ (by simp)) hb3 (by simp); obtain ⟨z0, z1, z2, z3, z4, z5, z6, z7, z8, z9⟩ := entAt0 hz; obtain ⟨y0, y1, y2, y3, y4, y5, y6, y7, y8, y9⟩ := entFree hz; simp only [Nat.zero_add] at z1 z2 z3 z4 z5 z6 z7 z8 z9; have HZ := Lib.hid hz; clear hz) | skip))
    · have hw3 : Below w1.heap.size w1 w3 := ((Below.refl _ w1).drew).trans (hb3.mono (by simp))
      have HAl := Lib.hid (fun o : Obj => Below.alloc hw3 hw3.size o)
      have hz3 := hw3.size
      clear hb3 hw3 q1 q2
      go_wp2_with fail
      go_meet
      exact ⟨w3.heap.size, rfl, rfl, HAl.out _, hz3, blk_new _ (Ent.cells ⟨x0, x1, x2, x3, x4, x5, x6, x7, x8, x9⟩) _ _ rfl⟩
    · have hw3 : Below w1.heap.size w1 w3 := (((Below.refl _ w1).alloc (Nat.le_refl _) _).drew).trans (hb3.mono (by simp))
      have HW3 := Lib.hid hw3
      clear hb3 hw3 q1 q2
      go_wp2_with fail
      go_meet
      obtain ⟨po, pb⟩ := put10 HZ.out x0 x1 x2 x3 x4 x5 x6 x7 x8 x9
      exact ⟨_, rfl, rfl, HW3.out.trans (po.below.mono (Nat.le_refl _)), Nat.le_refl _, pb⟩
  case rest =>
  obtain ⟨ge, rfl, rfl, hwx, hge, HE2⟩ := hcut
  have HB2 := Lib.hid (HB1.out.trans (hwx.mono HB1.out.size))
  have HMB2 := Lib.hid (HMB1.out.below hwx HMB1.out.lt)
  have HRB2 := Lib.hid (HRB1.out.below hwx HRB1.out.lt)
  have HX2 := Lib.hid hwx
  clear hwx c2 m2
  obtain ⟨e0, e1, e2, e3, e4, e5, e6, e7, e8, e9⟩ := entAt0 HE2.out
  obtain ⟨m0, m1, m2, m3, m4, m5, m6, m7, m8, m9, m10, m11, m12⟩ := msgAt (m := ⟨15, r2, r3, r4, r5, r6, r7, r8, r9, r10, r11, r12, r13⟩) HMB2.out
  simp only [Nat.zero_add] at e0 m0 m2 m3 m4 m5 m6 m7 m8 m9 m10 m11 m12 e1 e2 e3 e4 e5 e6 e7 e8 e9
  have c3 := (HC.out _ HB2.out).bc.cell 3
  simp at c3
  go_wp2_with fail
  go_still_tail 6, (by kernel_rfl)
  change wpList _ _ _ _ _ wc.drew
  have HBd : Hid (Below w.heap.size w wc.drew) := HB2.out.drew
  have HRd : Hid (Blk wc.drew _ _ _) := HRB2.out
  clear c3 e0 e1 e2 e3 e4 e5 e6 e7 e8 e9 m0 m1 m2 m3 m4 m5 m6 m7 m8 m9 m10 m11 m12
  generalize wc.drew = wd at HBd HRd ⊢
  go_wp2_with fail
  refine (mdrop_calls B L c.M r3 c.most tb wd (by omega) (Nat.le_trans hB HBd.out.size) (HC.out _ HBd.out).tab).mono ?_
  rintro e wa ⟨⟨ba, rfl⟩, ⟨L', hT, hG⟩, hfa, hla⟩
  have HSa := Lib.hid ((HC.out _ HBd.out).mstep hT hG hfa hla (dropM_ok c.M r3 c.most HOK.out.m))
  have HRa := Lib.hid (HRd.out.fr hfa (by decide))
  clear hT hG hfa hla
  go_wp2_with (refine wl_store rfl (.tmp 4) (.tmp 50) 33 rfl (w.heap.size + 1) 0 33 Msg.zero.cells rfl rfl msgSize _ HRa.out (msgOne _) (by simp [Msg.cells]) ?d1)
  case d1 =>
    intro wz hoz hblk
    have HK := Lib.hid (msgOver (m := Msg.zero) (m' := Msg.zero) hblk)
    have HSz := Lib.hid (HSa.out.only HBd.out HLT.out (by omega) HRd.out.lt hoz)
    clear hoz hblk
    go_wp2
    exact bodyPost_ret (v := .tuple #[Msg.zero.val, .bool true]) (results_msg2 Tryd.results12 Msg.zero _ rfl rfl HK.out) rfl ⟨rfl, HSz.out⟩

end Go.Proofs.YtnieambhpmnliaaDoor
