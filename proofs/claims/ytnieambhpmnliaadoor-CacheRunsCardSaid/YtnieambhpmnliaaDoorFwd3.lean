/- A cache: Forward: a line that is there. Printed by gen_fwd.py. -/
import Derived.Test.YtnieambhpmnliaaDoorFwd2
import Derived.Deep.DeepCutAuto
import Derived.Deep.RegionHeld3
namespace Go.Proofs.YtnieambhpmnliaaDoor
set_option linter.all false
set_option linter.unusedVariables false
set_option linter.unusedSimpArgs false
open Go Go.RowKit Go.Sort

section
variable {P : Program} {ops : Array Oper} {rest : List Oper} {o : Oper} {a : Act} {w : World} {Q : Exit → Act → World → Prop}
/-- A value into a block. -/
theorem wl_storeV (hg : o.guard = none) (x y : Operand) (ty : TypeId) (ho : o.op = .store ty x y) (g off : Nat) (e : TypeId) (cells : List Value) (v : Value)
    (hx : a.eval x = .pointer (some ⟨g, off, none⟩)) (hy : a.eval y = v) (hc : v.cells = cells.toArray) (hs : (P.info? ty).map (·.size) = some cells.length)
    (cur : List Value) (hb : Blk w g e cur) (h1 : ∀ u ∈ cells, u.oneCell' = true) (hfit : off + cells.length ≤ cur.length)
    (hk : ∀ w1, Only g w w1 → Blk w1 g e (cur.take off ++ cells ++ cur.drop (off + cells.length)) → wpList P ops Q rest (a.put o.dst undef) w1) :
    wpList P ops Q (o :: rest) a w := by
  have hr : (storeVar ty ⟨g, off, none⟩ v).run P w = .ok () (w.setRow g (cur.take off ++ cells ++ cur.drop (off + cells.length)).toArray) := by
    obtain ⟨i, hi, hi1⟩ := Option.map_eq_some_iff.1 hs
    have hst := run_storeCells_at P g off e cells 0 cur.toArray w hb (by simpa using hfit) h1
    simp only [Nat.add_zero] at hst
    simp [storeVar, sizeOf, typeInfo, hi, hi1, hc, hst]
  exact wpList_plain hg fun K hK => by
    unfold Oper.wp execOp
    simp only [ho, hx, hy, Instr.storeAt, Instr.sureAddr, Sem.run_bind, Sem.run_pure, Result.andThen_ok, hr]
    exact hK _ _ (hk _ (Only.setRow _ _ _) hb.setRow)
end
theorem intSize1 : (Tryd.prog.info? 3).map (·.size) = some 1 := by kernel_rfl
theorem boolSize1 : (Tryd.prog.info? 4).map (·.size) = some 1 := by kernel_rfl
theorem u32Size1 : (Tryd.prog.info? 29).map (·.size) = some 1 := by kernel_rfl
theorem one1 (v : Value) (h : v.oneCell' = true) : ∀ u ∈ [v], u.oneCell' = true := by intro u hu; simp at hu; subst hu; exact h
/-- A step of the array, behind a step of the table of misses. -/
theorem CStep.arr {B w w7 w8 cb ab sb tb wbs L L' c7 A'} (h7 : CR B w7 cb ab sb tb wbs L' c7) (hG : Grow w L L') (hF : FrL (cb :: ab :: sb :: (wbs ++ L)) w w7) (ha : ArrR B w8 ab sb wbs A') (hk : AOk c7.n c7.k A') {S : List TypeId} (hf : Fr B S w7 w8)
    (hS : ∀ T ∈ S, T = 69 ∨ T = 92) (hfl : FrL (sb :: wbs) w7 w8) : CStep B w cb (cb :: ab :: sb :: (wbs ++ L)) w8 { c7 with A := A' } := by
  refine ⟨cb :: ab :: sb :: (wbs ++ L'), ⟨ab, sb, tb, wbs, L', ⟨h7.hB, h7.bc.fr hf (fun hm => by rcases hS _ hm with e | e <;> exact absurd e (by decide)), ha, h7.tab.fr hf (fun hm => by rcases hS _ hm with e | e <;> exact absurd e (by decide)) (fun hm => by rcases hS _ hm with e | e <;> exact absurd e (by decide)), ⟨hk, h7.ok.m⟩⟩, rfl⟩, ⟨fun x hx => ?_, fun x hx => ?_⟩, hF.trans (hfl.sub (fun x hx => by simp at hx ⊢; rcases hx with h1 | h1 <;> simp [h1]))⟩
  · simp only [List.mem_cons, List.mem_append] at hx ⊢
    rcases hx with h1 | h1 | h1 | h1 | h1
    · exact Or.inl h1
    · exact Or.inr (Or.inl h1)
    · exact Or.inr (Or.inr (Or.inl h1))
    · exact Or.inr (Or.inr (Or.inr (Or.inl h1)))
    · exact Or.inr (Or.inr (Or.inr (Or.inr (hG.1 x h1))))
  · simp only [List.mem_cons, List.mem_append] at hx ⊢
    rcases hx with h1 | h1 | h1 | h1 | h1
    · exact Or.inl (Or.inl h1)
    · exact Or.inl (Or.inr (Or.inl h1))
    · exact Or.inl (Or.inr (Or.inr (Or.inl h1)))
    · exact Or.inl (Or.inr (Or.inr (Or.inr (Or.inl h1))))
    · exact (hG.2 x h1).imp (fun h2 => Or.inr (Or.inr (Or.inr (Or.inr h2)))) id
theorem CR.out {B w w' cb ab sb tb wbs K c L} (h : CR B w cb ab sb tb wbs K c) (hf : FrL L w w') (hn : ∀ x ∈ cb :: ab :: sb :: (wbs ++ K), x ∉ L) : CR B w' cb ab sb tb wbs K c := by
  obtain ⟨⟨t1, t2, t3⟩, lv, cap, t4, t5, t6⟩ := h.tab
  refine ⟨h.hB, h.bc.frl hf (hn _ (by simp)), ?_, ⟨⟨t1, t2, fun x hx => ⟨(t3 x hx).1, Nat.lt_of_lt_of_le (t3 x hx).2 hf.size⟩⟩, lv, cap, t4.frl hf (hn _ (by simp [t2])), ?_, t6⟩, h.ok⟩
  · exact { h.ar with
      ba := h.ar.ba.frl hf (hn _ (by simp))
      bs := h.ar.bs.frl hf (hn _ (by simp))
      bw := fun i hi hj => ⟨(h.ar.bw i hi hj).1, (h.ar.bw i hi hj).2.frl hf (hn _ (by simp [List.getElem_mem hj]))⟩ }
  · rcases t5 with h5 | ⟨lb, r, h1, h2, h3⟩
    · exact Or.inl h5
    · exact Or.inr ⟨lb, r, h1, h2.frl hf (hn _ (by have := (t6 _ h1).2; simp at this; simp [this])), h3⟩

set_option maxRecDepth 100000 in
set_option maxHeartbeats 8000000 in
theorem fwd_5_put (B : Nat) (c : Ca) (m : Msg) (p : Nat → Addr) (cb : Nat) (F : List Nat) (w : World) (h : CAt B w cb c F) (hB : B ≤ w.heap.size) (hmi : mineC c m 1 = true) (x : Ent) (hx : getA c.A m.line = some x) (hfr : x.fresh = false) (hk : m.kind = 5) (s' : Int) (hs : Bool) (hn : next x.state m.kind m.mode = (s', hs)) (hz : s' ≠ 0) (hs1 : 1 ≤ s' ∧ s' ≤ 4) (A' : Sets) (hp : putA c.A ({ x with state := s' }) = some A') :
    Calls Tryd.prog 16 #[.pointer (some ⟨cb, 0, none⟩), m.val] w fun e w' => e = .returned (.tuple #[Msg.val ⟨11, c.core, m.line, s', 0, 0, 0, 0, if hs then x.d0 else 0, if hs then x.d1 else 0, if hs then x.d2 else 0, if hs then x.d3 else 0, hs⟩, .bool true]) ∧ CStep B w cb F w' { c with A := A' } := by
  have HF := Lib.hid (fun w1 (hb : Below w.heap.size w w1) => CStep.same h hb)
  have HLT := Lib.hid h.lt
  have HMI := Lib.hid (fun w1 (hb : Below w.heap.size w w1) => mine_calls B c m 1 cb F w1 (h.below hb))
  have HRI := Lib.hid (mine_right hmi)
  obtain ⟨hl', hwd, hst, hmd, hep⟩ := right_facts HRI.out.1
  have HWL := Lib.hid hl'
  clear hl'
  obtain ⟨ab, sb, tb, wbs, L, h, rfl⟩ := h
  have h8 := h.ok.m.most8
  have hlen := h.ok.m.len
  have HC := Lib.hid (fun w1 (hb : Below w.heap.size w w1) => h.below hb)
  have HMS := Lib.hid (fun w1 (hb : Below w.heap.size w w1) => get_calls c.M m.line c.most tb w1 (by omega) (h.tab.below hb).tab)
  have HAG := Lib.hid (fun w1 (hb : Below w.heap.size w w1) => aget_calls B c.n c.k c.A m.line ab sb wbs w1 h.ok.a (h.ar.below hb))
  have HOK := Lib.hid h.ok
  have hbc := h.bc.lt
  rw [hmi] at HMI
  unfold getV at HAG
  have hxo := (getA_some HOK.out.a hx).2.2.2.1
  rw [hx] at HAG
  simp only [Option.getD_some, Option.isSome_some] at HAG
  have HNX := Lib.hid (fun w1 => next_calls x.state m.kind m.mode w1)
  rw [hn] at HNX
  generalize (missOf c.M m.line).1 = mk at HMS
  generalize (missOf c.M m.line).2 = mb at HMS
  have HOX := Lib.hid hxo
  have HP := Lib.hid hp
  obtain ⟨x0, x1, x2, x3, x4, x5, x6, x7, x8, x9⟩ := x
  simp only [Ent.val] at HAG HNX hfr HOX ⊢
  simp only at HP
  subst hfr
  have HKK := Lib.hid hk
  clear h hmi hx hn hk hxo hp
  have HMB := Lib.hid (blk_new w m.cells 33 _ rfl)
  have hb0 := ((Below.refl w.heap.size w).alloc (Nat.le_refl _) (.cells m.cells.toArray 33)).alloc (by simp) (.cells Msg.zero.cells.toArray 33)
  have HMB0 := Lib.hid (HMB.out.below ((Below.refl _ _).alloc (Nat.le_refl _) (.cells Msg.zero.cells.toArray 33)) HMB.out.lt)
  have HRB0 := Lib.hid (blk_new (w.alloc (.cells m.cells.toArray 33)) Msg.zero.cells 33 (w.heap.size + 1) (by simp))
  have hz0 : ((w.alloc (.cells m.cells.toArray 33)).alloc (.cells Msg.zero.cells.toArray 33)).heap.size = w.heap.size + 2 := by simp
  have HB0 := Lib.hid hb0
  clear HMB hb0
  obtain ⟨r1, r2, r3, r4, r5, r6, r7, r8, r9, r10, r11, r12, r13⟩ := m
  have hkk := HKK.out
  simp only at hkk
  subst hkk
  simp only [Msg.cells, Msg.val, Msg.zero] at *
  go_enter Tryd.func16, Tryd.ntmps16
  go_wp2_with fail
  generalize (w.alloc (.cells #[.int .i64 5, .int .i64 r2, .int .i64 r3, .int .i64 r4, .int .i64 r5, .int .i64 r6, .int .i64 r7, .int .u32 r8, .int .u32 r9, .int .u32 r10, .int .u32 r11, .int .u32 r12, .bool r13] 33)).alloc (.cells #[.int .i64 0, .int .i64 0, .int .i64 0, .int .i64 0, .int .i64 0, .int .i64 0, .int .i64 0, .int .u32 0, .int .u32 0, .int .u32 0, .int .u32 0, .int .u32 0, .bool false] 33) = W at *
  refine (HMI.out _ HB0.out).mono ?_
  rintro e w1 ⟨rfl, hb1⟩
  have HB1 := Lib.hid (HB0.out.trans (hb1.mono HB0.out.size))
  have HMB1 := Lib.hid (HMB0.out.below hb1 HMB0.out.lt)
  have HRB1 := Lib.hid (HRB0.out.below hb1 HRB0.out.lt)
  clear hb1
  have c2 := (HC.out _ HB1.out).bc.cell 2
  simp at c2
  have m2 := (msgAt (m := ⟨5, r2, r3, r4, r5, r6, r7, r8, r9, r10, r11, r12, r13⟩) HMB1.out).c2
  have hz1 : w.heap.size + 2 ≤ w1.heap.size := by have := HRB1.out.lt; omega
  simp only at m2
  have hcb1 : cb < w1.heap.size := by omega
  have hcm1 : w.heap.size < w1.heap.size := by omega
  go_wp2_with fail
  go_cut [6, 7] (fun s6 s7 wx => ∃ g : Nat, s6 = .pointer (some ⟨g, 0, none⟩) ∧ s7 = .bool true ∧ Below w1.heap.size w1 wx ∧ w1.heap.size ≤ g ∧ Hid (Blk wx g 69 (Ent.cells ⟨x0, x1, x2, x3, x4, x5, x6, x7, x8, false⟩)))
  case first =>
    go_region_held3 (fun w' => w'.cell? ⟨cb, 2, none⟩ = some (.pointer (some ⟨ab, 0, none⟩)) ∧ w'.cell? ⟨w.heap.size, 2, none⟩ = some (.int .i64 r3)) (first | (go_keep; done) | (refine ⟨?_, ?_⟩ <;> first | (go_keep; done) | (simp [World.cell?_setCell_other, *]; done))) ((go_at_call 26; refine (HAG.out _ (by first | exact HB1.out.drew | exact (Below.alloc HB1.out HB1.out.size _).drew)).mono ?_; rintro e w3 ⟨rfl, hb3⟩; have q1 := hb3.cell (p := ⟨cb, 2, none⟩) (by simp; omega); have q2 := hb3.cell (p := ⟨w.heap.size, 2, none⟩) (by simp; try omega); simp [World.cell?_alloc_lt, hcb1, hcm1, Nat.ne_of_lt hcb1, Nat.ne_of_lt hcm1, c2, m2] at q1 q2; first | (have hz : Blk w3 w1.heap.size 69 Ent.zero.cells := Blk.below (blk_newd _ Ent.zero.cells _ _ (by simp)) hb3 (by simp); obtain ⟨z0, z1, z2, z3, z4, z5, z6, z7, z8, z9⟩ := entAt0 hz; obtain ⟨y0, y1, y2, y3, y4, y5, y6, y7, y8, y9⟩ := entFree hz; simp only [Nat.zero_add] at z1 z2 z3 z4 z5 z6 z7 z8 z9; have HZ := Lib.hid hz; clear hz) | skip))
    · have hw3 : Below w1.heap.size w1 w3 := ((Below.refl _ w1).drew).trans (hb3.mono (by simp))
      have HAl := Lib.hid (fun o : Obj => Below.alloc hw3 hw3.size o)
      have hz3 := hw3.size
      clear hb3 hw3 q1 q2
      go_wp2_with fail
      go_meet
      exact ⟨w3.heap.size, rfl, rfl, HAl.out _, hz3, blk_new _ (Ent.cells ⟨x0, x1, x2, x3, x4, x5, x6, x7, x8, false⟩) _ _ rfl⟩
    · have hw3 : Below w1.heap.size w1 w3 := (((Below.refl _ w1).alloc (Nat.le_refl _) _).drew).trans (hb3.mono (by simp))
      have HW3 := Lib.hid hw3
      clear hb3 hw3 q1 q2
      go_wp2_with fail
      go_meet
      obtain ⟨po, pb⟩ := put10 HZ.out x0 x1 x2 x3 x4 x5 x6 x7 x8 false
      exact ⟨_, rfl, rfl, HW3.out.trans (po.below.mono (Nat.le_refl _)), Nat.le_refl _, pb⟩
  case rest =>
  obtain ⟨ge, rfl, rfl, hwx, hge, HE2⟩ := hcut
  have HB2 := Lib.hid (HB1.out.trans (hwx.mono HB1.out.size))
  have HMB2 := Lib.hid (HMB1.out.below hwx HMB1.out.lt)
  have HRB2 := Lib.hid (HRB1.out.below hwx HRB1.out.lt)
  have hwx4 := hwx
  clear hwx c2 m2
  have e9 := (entAt0 HE2.out).c9
  simp only [Nat.zero_add] at e9
  have c3 := (HC.out _ HB2.out).bc.cell 3
  simp at c3
  have m0 := (msgAt (m := ⟨5, r2, r3, r4, r5, r6, r7, r8, r9, r10, r11, r12, r13⟩) HMB2.out).c2
  simp only at m0
  have k3 := cell_regrown c3
  have km := cell_regrown m0
  have HG6 := Lib.hid (fun d os => Calls.regrown_of (w := wc) (d := d) (os := os) (HMS.out _ (HB2.out.trans ((below_regrown wc d os).mono HB2.out.size))))
  clear c3 m0
  go_wp2_with fail
  refine wp_region_quiet_below (by kernel_rfl) (by kernel_rfl) ?_
  repeat (go_big_quiet_step (exact HG6.out _ _))
  refine wpQuiet_nil ?_
  intro _ hw'
  obtain ⟨⟨dq, osq⟩, hw''⟩ := hw'
  subst hw''
  have hb4 := below_regrown wc dq osq
  clear k3 km
  generalize grow (redrawn wc dq) osq = w4 at hb4 ⊢
  have HB4 := Lib.hid (HB2.out.trans (hb4.mono HB2.out.size))
  have HMB4 := Lib.hid (HMB2.out.below hb4 HMB2.out.lt)
  have HRB4 := Lib.hid (HRB2.out.below hb4 HRB2.out.lt)
  have HE4 := Lib.hid (HE2.out.below hb4 HE2.out.lt)
  have HX4 := Lib.hid (hwx4.trans (hb4.mono hwx4.size))
  clear hb4 e9 hwx4
  have m0 := (msgAt (m := ⟨5, r2, r3, r4, r5, r6, r7, r8, r9, r10, r11, r12, r13⟩) HMB4.out).c0
  simp only at m0
  have c0 := (HC.out _ HB4.out).bc.cell 0
  simp at c0
  have m2 := (msgAt (m := ⟨5, r2, r3, r4, r5, r6, r7, r8, r9, r10, r11, r12, r13⟩) HMB4).c2
  simp only at m2
  have hcb9 := (HC.out _ HB4.out).bc.lt
  have hcm9 := HMB4.lt
  have hrb9 := HRB4.lt
  go_wp2_with fail
  go_region_held3 (fun w' => w'.cell? ⟨cb, 0, none⟩ = some (.int .i64 c.core) ∧ w'.cell? ⟨w.heap.size, 2, none⟩ = some (.int .i64 r3)) (first | (go_keep; done) | (refine ⟨?_, ?_⟩ <;> first | (go_keep; done) | (simp [World.cell?_setCell_other, *]; done))) (fail)
  clear c0 m2
  have hge9 := HE4.out.lt
  have ng1 : ge ≠ w4.heap.size := by omega
  have ng2 : w.heap.size ≠ w4.heap.size := by omega
  have m0 := (msgAt (m := ⟨5, r2, r3, r4, r5, r6, r7, r8, r9, r10, r11, r12, r13⟩) HMB4.out).c0
  have m4 := (msgAt (m := ⟨5, r2, r3, r4, r5, r6, r7, r8, r9, r10, r11, r12, r13⟩) HMB4.out).c4
  obtain ⟨e0, e1, e2, e3, e4, e5, e6, e7, e8, e9⟩ := entAt0 HE4.out
  simp only [Nat.zero_add] at m0 m4 e1 e2 e3 e4 e5 e6 e7 e8 e9
  have hz1 : (s' == 0) = false := by simpa using hz
  clear hz
  cases hs
  · go_wp2_with (first | (go_at_call 38; refine (HNX.out _).mono ?_; rintro e w' ⟨rfl, rfl⟩) | (refine wl_storeV rfl (.tmp 85) (.tmp 84) 3 rfl ge 1 69 [.int .i64 s'] (.int .i64 s') rfl rfl rfl intSize1 _ (HE4.out.below (Below.alloc (Below.refl _ _) (Nat.le_refl _) _).drew HE4.out.lt) (one1 _ rfl) (by simp [Ent.cells]) ?d1))
    case d1 =>
      intro w7 ho7 hblk7
      have HE7 := Lib.hid (show Blk w7 ge 69 (Ent.cells ⟨x0, s', x2, x3, x4, x5, x6, x7, x8, false⟩) from hblk7)
      have HO7 := Lib.hid (ho7.blk (blk_newd w4 (Msg.cells ⟨11, c.core, r3, s', 0, 0, 0, 0, 0, 0, 0, 0, false⟩) 33 _ rfl) (Ne.symm ng1))
      have hbn := (Below.alloc (Below.refl w4.heap.size w4) (Nat.le_refl _) (.cells (Msg.cells ⟨11, c.core, r3, s', 0, 0, 0, 0, 0, 0, 0, 0, false⟩).toArray 33)).drew
      have HMB7 := Lib.hid (ho7.blk (HMB4.out.below hbn HMB4.out.lt) (by omega))
      have HRB7 := Lib.hid (ho7.blk (HRB4.out.below hbn HRB4.out.lt) (by omega))
      have HB7 := Lib.hid ((HB4.out.trans (hbn.mono HB4.out.size)).trans (ho7.below.mono (by omega)))
      have HC7 := Lib.hid (HC.out _ HB7.out)
      have HX7 := Lib.hid ((HX4.out.trans (hbn.mono HX4.out.size)).trans (ho7.below.mono hge))
      have HF7 := Lib.hid (FrL.below (cb :: ab :: sb :: (wbs ++ L)) HX7.out)
      have HGR := Lib.hid (Grow.refl w1 L)
      clear ho7 hblk7 hbn e0 e1 e2 e3 e4 e5 e6 e7 e8 e9 m0 m4
      obtain ⟨e0, e1, e2, e3, e4, e5, e6, e7, e8, e9⟩ := entAt0 HE7.out
      obtain ⟨m0, m1, m2, m3, m4, m5, m6, m7, m8, m9, m10, m11, m12⟩ := msgAt (m := ⟨5, r2, r3, r4, r5, r6, r7, r8, r9, r10, r11, r12, r13⟩) HMB7.out
      simp only [Nat.zero_add] at e0 m0 m2 m4 m5 m6 m7 e1 e2 e3 e4 e5 e6 e7 e8 e9
      clear m1 m3 m8 m9 m10 m11 m12
      have c2 := HC7.out.bc.cell 2
      simp at c2
      go_wp2_with fail
      go_still_tail 5, (by kernel_rfl)
      change wpList _ _ _ _ _ w7.drew
      have HCd : Hid (CR B w7.drew cb ab sb tb wbs L _) := HC7.out.below ((Below.refl _ _).drew)
      have HFd : Hid (FrL (cb :: ab :: sb :: (wbs ++ L)) w1 w7.drew) := HF7.out.drew
      have HOd : Hid (Blk w7.drew _ _ _) := HO7.out
      have HRd : Hid (Blk w7.drew _ _ _) := HRB7.out
      have HLE : Hid (B ≤ w7.drew.heap.size) := by have := HF7.out.size; have := HB1.out.size; show B ≤ w7.heap.size; omega
      clear c2
      clear e0 e1 e2 e3 e4 e5 e6 e7 e8 e9 m0 m2 m4 m5 m6 m7
      generalize w7.drew = wd at HCd HFd HOd HRd HLE ⊢
      go_wp2_with fail
      refine (put_calls B c.n c.k c.A A' ⟨x0, s', x2, x3, x4, x5, x6, x7, x8, false⟩ ab sb wbs wd HCd.out.ok.a HCd.out.ar ⟨HOX.out.line, hs1, HOX.out.mode, HOX.out.epoch⟩ HLE.out HP.out).mono ?_
      rintro e wa ⟨rfl, haa, hka, hfa, hla⟩
      have HSa := Lib.hid (CStep.arr HCd.out HGR.out HFd.out haa hka hfa (fun T hT => Or.inl (by simpa using hT)) hla)
      have HOa := Lib.hid (HOd.out.fr hfa (by decide))
      have HRa := Lib.hid (HRd.out.fr hfa (by decide))
      obtain ⟨o0, o1, o2, o3, o4, o5, o6, o7, o8, o9, o10, o11, o12⟩ := msgAt HOa.out
      simp only at o0 o1 o2 o3 o4 o5 o6 o7 o8 o9 o10 o11 o12
      clear haa hka hfa hla
      go_wp2_with (refine wl_store rfl (.tmp 4) (.tmp 124) 33 rfl (w.heap.size + 1) 0 33 (Msg.cells ⟨11, c.core, r3, s', 0, 0, 0, 0, 0, 0, 0, 0, false⟩) rfl rfl msgSize _ HRa.out (msgOne _) (by simp [Msg.cells]) ?d9)
      case d9 =>
      intro wz hoz hblk
      have HK := Lib.hid (msgOver (m := Msg.zero) (m' := ⟨11, c.core, r3, s', 0, 0, 0, 0, 0, 0, 0, 0, false⟩) hblk)
      have HSz := Lib.hid (HSa.out.only HB1.out HLT.out (by omega) HRB1.out.lt hoz)
      clear hoz hblk
      go_wp2
      exact bodyPost_ret (v := .tuple #[Msg.val ⟨11, c.core, r3, s', 0, 0, 0, 0, 0, 0, 0, 0, false⟩, .bool true]) (results_msg2 Tryd.results16 ⟨11, c.core, r3, s', 0, 0, 0, 0, 0, 0, 0, 0, false⟩ _ rfl rfl HK.out) rfl ⟨rfl, HSz.out⟩
  · go_wp2_with (first | (go_at_call 38; refine (HNX.out _).mono ?_; rintro e w' ⟨rfl, rfl⟩) | (refine wl_storeV rfl (.tmp 85) (.tmp 84) 3 rfl ge 1 69 [.int .i64 s'] (.int .i64 s') rfl rfl rfl intSize1 _ (HE4.out.below (Below.alloc (Below.refl _ _) (Nat.le_refl _) _).drew HE4.out.lt) (one1 _ rfl) (by simp [Ent.cells]) ?d1))
    case d1 =>
      intro w7 ho7 hblk7
      have HE7 := Lib.hid (show Blk w7 ge 69 (Ent.cells ⟨x0, s', x2, x3, x4, x5, x6, x7, x8, false⟩) from hblk7)
      have HO7 := Lib.hid (ho7.blk (blk_newd w4 (Msg.cells ⟨11, c.core, r3, s', 0, 0, 0, 0, x4, x5, x6, x7, true⟩) 33 _ rfl) (Ne.symm ng1))
      have hbn := (Below.alloc (Below.refl w4.heap.size w4) (Nat.le_refl _) (.cells (Msg.cells ⟨11, c.core, r3, s', 0, 0, 0, 0, x4, x5, x6, x7, true⟩).toArray 33)).drew
      have HMB7 := Lib.hid (ho7.blk (HMB4.out.below hbn HMB4.out.lt) (by omega))
      have HRB7 := Lib.hid (ho7.blk (HRB4.out.below hbn HRB4.out.lt) (by omega))
      have HB7 := Lib.hid ((HB4.out.trans (hbn.mono HB4.out.size)).trans (ho7.below.mono (by omega)))
      have HC7 := Lib.hid (HC.out _ HB7.out)
      have HX7 := Lib.hid ((HX4.out.trans (hbn.mono HX4.out.size)).trans (ho7.below.mono hge))
      have HF7 := Lib.hid (FrL.below (cb :: ab :: sb :: (wbs ++ L)) HX7.out)
      have HGR := Lib.hid (Grow.refl w1 L)
      clear ho7 hblk7 hbn e0 e1 e2 e3 e4 e5 e6 e7 e8 e9 m0 m4
      obtain ⟨e0, e1, e2, e3, e4, e5, e6, e7, e8, e9⟩ := entAt0 HE7.out
      obtain ⟨m0, m1, m2, m3, m4, m5, m6, m7, m8, m9, m10, m11, m12⟩ := msgAt (m := ⟨5, r2, r3, r4, r5, r6, r7, r8, r9, r10, r11, r12, r13⟩) HMB7.out
      simp only [Nat.zero_add] at e0 m0 m2 m4 m5 m6 m7 e1 e2 e3 e4 e5 e6 e7 e8 e9
      clear m1 m3 m8 m9 m10 m11 m12
      have c2 := HC7.out.bc.cell 2
      simp at c2
      go_wp2_with fail
      go_still_tail 5, (by kernel_rfl)
      change wpList _ _ _ _ _ w7.drew
      have HCd : Hid (CR B w7.drew cb ab sb tb wbs L _) := HC7.out.below ((Below.refl _ _).drew)
      have HFd : Hid (FrL (cb :: ab :: sb :: (wbs ++ L)) w1 w7.drew) := HF7.out.drew
      have HOd : Hid (Blk w7.drew _ _ _) := HO7.out
      have HRd : Hid (Blk w7.drew _ _ _) := HRB7.out
      have HLE : Hid (B ≤ w7.drew.heap.size) := by have := HF7.out.size; have := HB1.out.size; show B ≤ w7.heap.size; omega
      clear c2
      clear e0 e1 e2 e3 e4 e5 e6 e7 e8 e9 m0 m2 m4 m5 m6 m7
      generalize w7.drew = wd at HCd HFd HOd HRd HLE ⊢
      go_wp2_with fail
      refine (put_calls B c.n c.k c.A A' ⟨x0, s', x2, x3, x4, x5, x6, x7, x8, false⟩ ab sb wbs wd HCd.out.ok.a HCd.out.ar ⟨HOX.out.line, hs1, HOX.out.mode, HOX.out.epoch⟩ HLE.out HP.out).mono ?_
      rintro e wa ⟨rfl, haa, hka, hfa, hla⟩
      have HSa := Lib.hid (CStep.arr HCd.out HGR.out HFd.out haa hka hfa (fun T hT => Or.inl (by simpa using hT)) hla)
      have HOa := Lib.hid (HOd.out.fr hfa (by decide))
      have HRa := Lib.hid (HRd.out.fr hfa (by decide))
      obtain ⟨o0, o1, o2, o3, o4, o5, o6, o7, o8, o9, o10, o11, o12⟩ := msgAt HOa.out
      simp only at o0 o1 o2 o3 o4 o5 o6 o7 o8 o9 o10 o11 o12
      clear haa hka hfa hla
      go_wp2_with (refine wl_store rfl (.tmp 4) (.tmp 124) 33 rfl (w.heap.size + 1) 0 33 (Msg.cells ⟨11, c.core, r3, s', 0, 0, 0, 0, x4, x5, x6, x7, true⟩) rfl rfl msgSize _ HRa.out (msgOne _) (by simp [Msg.cells]) ?d9)
      case d9 =>
      intro wz hoz hblk
      have HK := Lib.hid (msgOver (m := Msg.zero) (m' := ⟨11, c.core, r3, s', 0, 0, 0, 0, x4, x5, x6, x7, true⟩) hblk)
      have HSz := Lib.hid (HSa.out.only HB1.out HLT.out (by omega) HRB1.out.lt hoz)
      clear hoz hblk
      go_wp2
      exact bodyPost_ret (v := .tuple #[Msg.val ⟨11, c.core, r3, s', 0, 0, 0, 0, x4, x5, x6, x7, true⟩, .bool true]) (results_msg2 Tryd.results16 ⟨11, c.core, r3, s', 0, 0, 0, 0, x4, x5, x6, x7, true⟩ _ rfl rfl HK.out) rfl ⟨rfl, HSz.out⟩

set_option maxRecDepth 100000 in
set_option maxHeartbeats 8000000 in
theorem fwd_5_drop (B : Nat) (c : Ca) (m : Msg) (p : Nat → Addr) (cb : Nat) (F : List Nat) (w : World) (h : CAt B w cb c F) (hB : B ≤ w.heap.size) (hmi : mineC c m 1 = true) (x : Ent) (hx : getA c.A m.line = some x) (hfr : x.fresh = false) (hk : m.kind = 5) (s' : Int) (hs : Bool) (hn : next x.state m.kind m.mode = (s', hs)) (hz : s' = 0) :
    Calls Tryd.prog 16 #[.pointer (some ⟨cb, 0, none⟩), m.val] w fun e w' => e = .returned (.tuple #[Msg.val ⟨11, c.core, m.line, s', 0, 0, 0, 0, if hs then x.d0 else 0, if hs then x.d1 else 0, if hs then x.d2 else 0, if hs then x.d3 else 0, hs⟩, .bool true]) ∧ CStep B w cb F w' { c with A := dropA c.A m.line } := by
  have HF := Lib.hid (fun w1 (hb : Below w.heap.size w w1) => CStep.same h hb)
  have HLT := Lib.hid h.lt
  have HMI := Lib.hid (fun w1 (hb : Below w.heap.size w w1) => mine_calls B c m 1 cb F w1 (h.below hb))
  have HRI := Lib.hid (mine_right hmi)
  obtain ⟨hl', hwd, hst, hmd, hep⟩ := right_facts HRI.out.1
  have HWL := Lib.hid hl'
  clear hl'
  obtain ⟨ab, sb, tb, wbs, L, h, rfl⟩ := h
  have h8 := h.ok.m.most8
  have hlen := h.ok.m.len
  have HC := Lib.hid (fun w1 (hb : Below w.heap.size w w1) => h.below hb)
  have HMS := Lib.hid (fun w1 (hb : Below w.heap.size w w1) => get_calls c.M m.line c.most tb w1 (by omega) (h.tab.below hb).tab)
  have HAG := Lib.hid (fun w1 (hb : Below w.heap.size w w1) => aget_calls B c.n c.k c.A m.line ab sb wbs w1 h.ok.a (h.ar.below hb))
  have HOK := Lib.hid h.ok
  have hbc := h.bc.lt
  rw [hmi] at HMI
  unfold getV at HAG
  have hxo := (getA_some HOK.out.a hx).2.2.2.1
  rw [hx] at HAG
  simp only [Option.getD_some, Option.isSome_some] at HAG
  have HNX := Lib.hid (fun w1 => next_calls x.state m.kind m.mode w1)
  rw [hn] at HNX
  generalize (missOf c.M m.line).1 = mk at HMS
  generalize (missOf c.M m.line).2 = mb at HMS
  have HOX := Lib.hid hxo
  obtain ⟨x0, x1, x2, x3, x4, x5, x6, x7, x8, x9⟩ := x
  simp only [Ent.val] at HAG HNX hfr HOX ⊢
  subst hfr
  have HKK := Lib.hid hk
  clear h hmi hx hn hk hxo
  have HMB := Lib.hid (blk_new w m.cells 33 _ rfl)
  have hb0 := ((Below.refl w.heap.size w).alloc (Nat.le_refl _) (.cells m.cells.toArray 33)).alloc (by simp) (.cells Msg.zero.cells.toArray 33)
  have HMB0 := Lib.hid (HMB.out.below ((Below.refl _ _).alloc (Nat.le_refl _) (.cells Msg.zero.cells.toArray 33)) HMB.out.lt)
  have HRB0 := Lib.hid (blk_new (w.alloc (.cells m.cells.toArray 33)) Msg.zero.cells 33 (w.heap.size + 1) (by simp))
  have hz0 : ((w.alloc (.cells m.cells.toArray 33)).alloc (.cells Msg.zero.cells.toArray 33)).heap.size = w.heap.size + 2 := by simp
  have HB0 := Lib.hid hb0
  clear HMB hb0
  obtain ⟨r1, r2, r3, r4, r5, r6, r7, r8, r9, r10, r11, r12, r13⟩ := m
  have hkk := HKK.out
  simp only at hkk
  subst hkk
  simp only [Msg.cells, Msg.val, Msg.zero] at *
  go_enter Tryd.func16, Tryd.ntmps16
  go_wp2_with fail
  generalize (w.alloc (.cells #[.int .i64 5, .int .i64 r2, .int .i64 r3, .int .i64 r4, .int .i64 r5, .int .i64 r6, .int .i64 r7, .int .u32 r8, .int .u32 r9, .int .u32 r10, .int .u32 r11, .int .u32 r12, .bool r13] 33)).alloc (.cells #[.int .i64 0, .int .i64 0, .int .i64 0, .int .i64 0, .int .i64 0, .int .i64 0, .int .i64 0, .int .u32 0, .int .u32 0, .int .u32 0, .int .u32 0, .int .u32 0, .bool false] 33) = W at *
  refine (HMI.out _ HB0.out).mono ?_
  rintro e w1 ⟨rfl, hb1⟩
  have HB1 := Lib.hid (HB0.out.trans (hb1.mono HB0.out.size))
  have HMB1 := Lib.hid (HMB0.out.below hb1 HMB0.out.lt)
  have HRB1 := Lib.hid (HRB0.out.below hb1 HRB0.out.lt)
  clear hb1
  have c2 := (HC.out _ HB1.out).bc.cell 2
  simp at c2
  have m2 := (msgAt (m := ⟨5, r2, r3, r4, r5, r6, r7, r8, r9, r10, r11, r12, r13⟩) HMB1.out).c2
  have hz1 : w.heap.size + 2 ≤ w1.heap.size := by have := HRB1.out.lt; omega
  simp only at m2
  have hcb1 : cb < w1.heap.size := by omega
  have hcm1 : w.heap.size < w1.heap.size := by omega
  go_wp2_with fail
  go_cut [6, 7] (fun s6 s7 wx => ∃ g : Nat, s6 = .pointer (some ⟨g, 0, none⟩) ∧ s7 = .bool true ∧ Below w1.heap.size w1 wx ∧ w1.heap.size ≤ g ∧ Hid (Blk wx g 69 (Ent.cells ⟨x0, x1, x2, x3, x4, x5, x6, x7, x8, false⟩)))
  case first =>
    go_region_held3 (fun w' => w'.cell? ⟨cb, 2, none⟩ = some (.pointer (some ⟨ab, 0, none⟩)) ∧ w'.cell? ⟨w.heap.size, 2, none⟩ = some (.int .i64 r3)) (first | (go_keep; done) | (refine ⟨?_, ?_⟩ <;> first | (go_keep; done) | (simp [World.cell?_setCell_other, *]; done))) ((go_at_call 26; refine (HAG.out _ (by first | exact HB1.out.drew | exact (Below.alloc HB1.out HB1.out.size _).drew)).mono ?_; rintro e w3 ⟨rfl, hb3⟩; have q1 := hb3.cell (p := ⟨cb, 2, none⟩) (by simp; omega); have q2 := hb3.cell (p := ⟨w.heap.size, 2, none⟩) (by simp; try omega); simp [World.cell?_alloc_lt, hcb1, hcm1, Nat.ne_of_lt hcb1, Nat.ne_of_lt hcm1, c2, m2] at q1 q2; first | (have hz : Blk w3 w1.heap.size 69 Ent.zero.cells := Blk.below (blk_newd _ Ent.zero.cells _ _ (by simp)) hb3 (by simp); obtain ⟨z0, z1, z2, z3, z4, z5, z6, z7, z8, z9⟩ := entAt0 hz; obtain ⟨y0, y1, y2, y3, y4, y5, y6, y7, y8, y9⟩ := entFree hz; simp only [Nat.zero_add] at z1 z2 z3 z4 z5 z6 z7 z8 z9; have HZ := Lib.hid hz; clear hz) | skip))
    · have hw3 : Below w1.heap.size w1 w3 := ((Below.refl _ w1).drew).trans (hb3.mono (by simp))
      have HAl := Lib.hid (fun o : Obj => Below.alloc hw3 hw3.size o)
      have hz3 := hw3.size
      clear hb3 hw3 q1 q2
      go_wp2_with fail
      go_meet
      exact ⟨w3.heap.size, rfl, rfl, HAl.out _, hz3, blk_new _ (Ent.cells ⟨x0, x1, x2, x3, x4, x5, x6, x7, x8, false⟩) _ _ rfl⟩
    · have hw3 : Below w1.heap.size w1 w3 := (((Below.refl _ w1).alloc (Nat.le_refl _) _).drew).trans (hb3.mono (by simp))
      have HW3 := Lib.hid hw3
      clear hb3 hw3 q1 q2
      go_wp2_with fail
      go_meet
      obtain ⟨po, pb⟩ := put10 HZ.out x0 x1 x2 x3 x4 x5 x6 x7 x8 false
      exact ⟨_, rfl, rfl, HW3.out.trans (po.below.mono (Nat.le_refl _)), Nat.le_refl _, pb⟩
  case rest =>
  obtain ⟨ge, rfl, rfl, hwx, hge, HE2⟩ := hcut
  have HB2 := Lib.hid (HB1.out.trans (hwx.mono HB1.out.size))
  have HMB2 := Lib.hid (HMB1.out.below hwx HMB1.out.lt)
  have HRB2 := Lib.hid (HRB1.out.below hwx HRB1.out.lt)
  have hwx4 := hwx
  clear hwx c2 m2
  have e9 := (entAt0 HE2.out).c9
  simp only [Nat.zero_add] at e9
  have c3 := (HC.out _ HB2.out).bc.cell 3
  simp at c3
  have m0 := (msgAt (m := ⟨5, r2, r3, r4, r5, r6, r7, r8, r9, r10, r11, r12, r13⟩) HMB2.out).c2
  simp only at m0
  have k3 := cell_regrown c3
  have km := cell_regrown m0
  have HG6 := Lib.hid (fun d os => Calls.regrown_of (w := wc) (d := d) (os := os) (HMS.out _ (HB2.out.trans ((below_regrown wc d os).mono HB2.out.size))))
  clear c3 m0
  go_wp2_with fail
  refine wp_region_quiet_below (by kernel_rfl) (by kernel_rfl) ?_
  repeat (go_big_quiet_step (exact HG6.out _ _))
  refine wpQuiet_nil ?_
  intro _ hw'
  obtain ⟨⟨dq, osq⟩, hw''⟩ := hw'
  subst hw''
  have hb4 := below_regrown wc dq osq
  clear k3 km
  generalize grow (redrawn wc dq) osq = w4 at hb4 ⊢
  have HB4 := Lib.hid (HB2.out.trans (hb4.mono HB2.out.size))
  have HMB4 := Lib.hid (HMB2.out.below hb4 HMB2.out.lt)
  have HRB4 := Lib.hid (HRB2.out.below hb4 HRB2.out.lt)
  have HE4 := Lib.hid (HE2.out.below hb4 HE2.out.lt)
  have HX4 := Lib.hid (hwx4.trans (hb4.mono hwx4.size))
  clear hb4 e9 hwx4
  have m0 := (msgAt (m := ⟨5, r2, r3, r4, r5, r6, r7, r8, r9, r10, r11, r12, r13⟩) HMB4.out).c0
  simp only at m0
  have c0 := (HC.out _ HB4.out).bc.cell 0
  simp at c0
  have m2 := (msgAt (m := ⟨5, r2, r3, r4, r5, r6, r7, r8, r9, r10, r11, r12, r13⟩) HMB4).c2
  simp only at m2
  have hcb9 := (HC.out _ HB4.out).bc.lt
  have hcm9 := HMB4.lt
  have hrb9 := HRB4.lt
  go_wp2_with fail
  go_region_held3 (fun w' => w'.cell? ⟨cb, 0, none⟩ = some (.int .i64 c.core) ∧ w'.cell? ⟨w.heap.size, 2, none⟩ = some (.int .i64 r3)) (first | (go_keep; done) | (refine ⟨?_, ?_⟩ <;> first | (go_keep; done) | (simp [World.cell?_setCell_other, *]; done))) (fail)
  clear c0 m2
  have hge9 := HE4.out.lt
  have ng1 : ge ≠ w4.heap.size := by omega
  have ng2 : w.heap.size ≠ w4.heap.size := by omega
  have m0 := (msgAt (m := ⟨5, r2, r3, r4, r5, r6, r7, r8, r9, r10, r11, r12, r13⟩) HMB4.out).c0
  have m4 := (msgAt (m := ⟨5, r2, r3, r4, r5, r6, r7, r8, r9, r10, r11, r12, r13⟩) HMB4.out).c4
  obtain ⟨e0, e1, e2, e3, e4, e5, e6, e7, e8, e9⟩ := entAt0 HE4.out
  simp only [Nat.zero_add] at m0 m4 e1 e2 e3 e4 e5 e6 e7 e8 e9
  subst hz
  cases hs
  · go_wp2_with (first | (go_at_call 38; refine (HNX.out _).mono ?_; rintro e w' ⟨rfl, rfl⟩) | (refine wl_storeV rfl (.tmp 85) (.tmp 84) 3 rfl ge 1 69 [.int .i64 0] (.int .i64 0) rfl rfl rfl intSize1 _ (HE4.out.below (Below.alloc (Below.refl _ _) (Nat.le_refl _) _).drew HE4.out.lt) (one1 _ rfl) (by simp [Ent.cells]) ?d1))
    case d1 =>
      intro w7 ho7 hblk7
      have HE7 := Lib.hid (show Blk w7 ge 69 (Ent.cells ⟨x0, 0, x2, x3, x4, x5, x6, x7, x8, false⟩) from hblk7)
      have HO7 := Lib.hid (ho7.blk (blk_newd w4 (Msg.cells ⟨11, c.core, r3, 0, 0, 0, 0, 0, 0, 0, 0, 0, false⟩) 33 _ rfl) (Ne.symm ng1))
      have hbn := (Below.alloc (Below.refl w4.heap.size w4) (Nat.le_refl _) (.cells (Msg.cells ⟨11, c.core, r3, 0, 0, 0, 0, 0, 0, 0, 0, 0, false⟩).toArray 33)).drew
      have HMB7 := Lib.hid (ho7.blk (HMB4.out.below hbn HMB4.out.lt) (by omega))
      have HRB7 := Lib.hid (ho7.blk (HRB4.out.below hbn HRB4.out.lt) (by omega))
      have HB7 := Lib.hid ((HB4.out.trans (hbn.mono HB4.out.size)).trans (ho7.below.mono (by omega)))
      have HC7 := Lib.hid (HC.out _ HB7.out)
      have HX7 := Lib.hid ((HX4.out.trans (hbn.mono HX4.out.size)).trans (ho7.below.mono hge))
      have HF7 := Lib.hid (FrL.below (cb :: ab :: sb :: (wbs ++ L)) HX7.out)
      have HGR := Lib.hid (Grow.refl w1 L)
      clear ho7 hblk7 hbn e0 e1 e2 e3 e4 e5 e6 e7 e8 e9 m0 m4
      obtain ⟨e0, e1, e2, e3, e4, e5, e6, e7, e8, e9⟩ := entAt0 HE7.out
      obtain ⟨m0, m1, m2, m3, m4, m5, m6, m7, m8, m9, m10, m11, m12⟩ := msgAt (m := ⟨5, r2, r3, r4, r5, r6, r7, r8, r9, r10, r11, r12, r13⟩) HMB7.out
      simp only [Nat.zero_add] at e0 m0 m2 m4 m5 m6 m7 e1 e2 e3 e4 e5 e6 e7 e8 e9
      clear m1 m3 m8 m9 m10 m11 m12
      have c2 := HC7.out.bc.cell 2
      simp at c2
      go_wp2_with fail
      go_still_tail 6, (by kernel_rfl)
      change wpList _ _ _ _ _ w7.drew
      have HCd : Hid (CR B w7.drew cb ab sb tb wbs L _) := HC7.out.below ((Below.refl _ _).drew)
      have HFd : Hid (FrL (cb :: ab :: sb :: (wbs ++ L)) w1 w7.drew) := HF7.out.drew
      have HOd : Hid (Blk w7.drew _ _ _) := HO7.out
      have HRd : Hid (Blk w7.drew _ _ _) := HRB7.out
      have HLE : Hid (B ≤ w7.drew.heap.size) := by have := HF7.out.size; have := HB1.out.size; show B ≤ w7.heap.size; omega
      clear c2
      clear e0 e1 e2 e3 e4 e5 e6 e7 e8 e9 m0 m2 m4 m5 m6 m7
      generalize w7.drew = wd at HCd HFd HOd HRd HLE ⊢
      go_wp2_with fail
      refine (adrop_calls B c.n c.k c.A r3 ab sb wbs wd HCd.out.ok.a HCd.out.ar HWL.out HLE.out).mono ?_
      rintro e wa ⟨rfl, haa, hka, hfa, hla⟩
      have HSa := Lib.hid (CStep.arr HCd.out HGR.out HFd.out haa hka hfa (fun T hT => Or.inl (by simpa using hT)) hla)
      have HOa := Lib.hid (HOd.out.fr hfa (by decide))
      have HRa := Lib.hid (HRd.out.fr hfa (by decide))
      obtain ⟨o0, o1, o2, o3, o4, o5, o6, o7, o8, o9, o10, o11, o12⟩ := msgAt HOa.out
      simp only at o0 o1 o2 o3 o4 o5 o6 o7 o8 o9 o10 o11 o12
      clear haa hka hfa hla
      go_wp2_with (refine wl_store rfl (.tmp 4) (.tmp 124) 33 rfl (w.heap.size + 1) 0 33 (Msg.cells ⟨11, c.core, r3, 0, 0, 0, 0, 0, 0, 0, 0, 0, false⟩) rfl rfl msgSize _ HRa.out (msgOne _) (by simp [Msg.cells]) ?d9)
      case d9 =>
      intro wz hoz hblk
      have HK := Lib.hid (msgOver (m := Msg.zero) (m' := ⟨11, c.core, r3, 0, 0, 0, 0, 0, 0, 0, 0, 0, false⟩) hblk)
      have HSz := Lib.hid (HSa.out.only HB1.out HLT.out (by omega) HRB1.out.lt hoz)
      clear hoz hblk
      go_wp2
      exact bodyPost_ret (v := .tuple #[Msg.val ⟨11, c.core, r3, 0, 0, 0, 0, 0, 0, 0, 0, 0, false⟩, .bool true]) (results_msg2 Tryd.results16 ⟨11, c.core, r3, 0, 0, 0, 0, 0, 0, 0, 0, 0, false⟩ _ rfl rfl HK.out) rfl ⟨rfl, HSz.out⟩
  · go_wp2_with (first | (go_at_call 38; refine (HNX.out _).mono ?_; rintro e w' ⟨rfl, rfl⟩) | (refine wl_storeV rfl (.tmp 85) (.tmp 84) 3 rfl ge 1 69 [.int .i64 0] (.int .i64 0) rfl rfl rfl intSize1 _ (HE4.out.below (Below.alloc (Below.refl _ _) (Nat.le_refl _) _).drew HE4.out.lt) (one1 _ rfl) (by simp [Ent.cells]) ?d1))
    case d1 =>
      intro w7 ho7 hblk7
      have HE7 := Lib.hid (show Blk w7 ge 69 (Ent.cells ⟨x0, 0, x2, x3, x4, x5, x6, x7, x8, false⟩) from hblk7)
      have HO7 := Lib.hid (ho7.blk (blk_newd w4 (Msg.cells ⟨11, c.core, r3, 0, 0, 0, 0, 0, x4, x5, x6, x7, true⟩) 33 _ rfl) (Ne.symm ng1))
      have hbn := (Below.alloc (Below.refl w4.heap.size w4) (Nat.le_refl _) (.cells (Msg.cells ⟨11, c.core, r3, 0, 0, 0, 0, 0, x4, x5, x6, x7, true⟩).toArray 33)).drew
      have HMB7 := Lib.hid (ho7.blk (HMB4.out.below hbn HMB4.out.lt) (by omega))
      have HRB7 := Lib.hid (ho7.blk (HRB4.out.below hbn HRB4.out.lt) (by omega))
      have HB7 := Lib.hid ((HB4.out.trans (hbn.mono HB4.out.size)).trans (ho7.below.mono (by omega)))
      have HC7 := Lib.hid (HC.out _ HB7.out)
      have HX7 := Lib.hid ((HX4.out.trans (hbn.mono HX4.out.size)).trans (ho7.below.mono hge))
      have HF7 := Lib.hid (FrL.below (cb :: ab :: sb :: (wbs ++ L)) HX7.out)
      have HGR := Lib.hid (Grow.refl w1 L)
      clear ho7 hblk7 hbn e0 e1 e2 e3 e4 e5 e6 e7 e8 e9 m0 m4
      obtain ⟨e0, e1, e2, e3, e4, e5, e6, e7, e8, e9⟩ := entAt0 HE7.out
      obtain ⟨m0, m1, m2, m3, m4, m5, m6, m7, m8, m9, m10, m11, m12⟩ := msgAt (m := ⟨5, r2, r3, r4, r5, r6, r7, r8, r9, r10, r11, r12, r13⟩) HMB7.out
      simp only [Nat.zero_add] at e0 m0 m2 m4 m5 m6 m7 e1 e2 e3 e4 e5 e6 e7 e8 e9
      clear m1 m3 m8 m9 m10 m11 m12
      have c2 := HC7.out.bc.cell 2
      simp at c2
      go_wp2_with fail
      go_still_tail 6, (by kernel_rfl)
      change wpList _ _ _ _ _ w7.drew
      have HCd : Hid (CR B w7.drew cb ab sb tb wbs L _) := HC7.out.below ((Below.refl _ _).drew)
      have HFd : Hid (FrL (cb :: ab :: sb :: (wbs ++ L)) w1 w7.drew) := HF7.out.drew
      have HOd : Hid (Blk w7.drew _ _ _) := HO7.out
      have HRd : Hid (Blk w7.drew _ _ _) := HRB7.out
      have HLE : Hid (B ≤ w7.drew.heap.size) := by have := HF7.out.size; have := HB1.out.size; show B ≤ w7.heap.size; omega
      clear c2
      clear e0 e1 e2 e3 e4 e5 e6 e7 e8 e9 m0 m2 m4 m5 m6 m7
      generalize w7.drew = wd at HCd HFd HOd HRd HLE ⊢
      go_wp2_with fail
      refine (adrop_calls B c.n c.k c.A r3 ab sb wbs wd HCd.out.ok.a HCd.out.ar HWL.out HLE.out).mono ?_
      rintro e wa ⟨rfl, haa, hka, hfa, hla⟩
      have HSa := Lib.hid (CStep.arr HCd.out HGR.out HFd.out haa hka hfa (fun T hT => Or.inl (by simpa using hT)) hla)
      have HOa := Lib.hid (HOd.out.fr hfa (by decide))
      have HRa := Lib.hid (HRd.out.fr hfa (by decide))
      obtain ⟨o0, o1, o2, o3, o4, o5, o6, o7, o8, o9, o10, o11, o12⟩ := msgAt HOa.out
      simp only at o0 o1 o2 o3 o4 o5 o6 o7 o8 o9 o10 o11 o12
      clear haa hka hfa hla
      go_wp2_with (refine wl_store rfl (.tmp 4) (.tmp 124) 33 rfl (w.heap.size + 1) 0 33 (Msg.cells ⟨11, c.core, r3, 0, 0, 0, 0, 0, x4, x5, x6, x7, true⟩) rfl rfl msgSize _ HRa.out (msgOne _) (by simp [Msg.cells]) ?d9)
      case d9 =>
      intro wz hoz hblk
      have HK := Lib.hid (msgOver (m := Msg.zero) (m' := ⟨11, c.core, r3, 0, 0, 0, 0, 0, x4, x5, x6, x7, true⟩) hblk)
      have HSz := Lib.hid (HSa.out.only HB1.out HLT.out (by omega) HRB1.out.lt hoz)
      clear hoz hblk
      go_wp2
      exact bodyPost_ret (v := .tuple #[Msg.val ⟨11, c.core, r3, 0, 0, 0, 0, 0, x4, x5, x6, x7, true⟩, .bool true]) (results_msg2 Tryd.results16 ⟨11, c.core, r3, 0, 0, 0, 0, 0, x4, x5, x6, x7, true⟩ _ rfl rfl HK.out) rfl ⟨rfl, HSz.out⟩

set_option maxRecDepth 100000 in
set_option maxHeartbeats 8000000 in
theorem fwd_10_end (B : Nat) (c : Ca) (m : Msg) (p : Nat → Addr) (cb : Nat) (F : List Nat) (w : World) (h : CAt B w cb c F) (hB : B ≤ w.heap.size) (hmi : mineC c m 1 = true) (x : Ent) (hx : getA c.A m.line = some x) (hfr : x.fresh = false) (hk : m.kind = 10) (s' : Int) (hs : Bool) (hn : next x.state m.kind m.mode = (s', hs)) (hd : (missOf c.M m.line).1 = 4) (hz : s' = 0) :
    Calls Tryd.prog 16 #[.pointer (some ⟨cb, 0, none⟩), m.val] w fun e w' => e = .returned (.tuple #[Msg.val ⟨11, c.core, m.line, s', 0, 0, 0, 0, if hs then x.d0 else 0, if hs then x.d1 else 0, if hs then x.d2 else 0, if hs then x.d3 else 0, hs⟩, .bool true]) ∧ CStep B w cb F w' { c with M := dropM c.M m.line, A := dropA c.A m.line } := by
  have HF := Lib.hid (fun w1 (hb : Below w.heap.size w w1) => CStep.same h hb)
  have HLT := Lib.hid h.lt
  have HMI := Lib.hid (fun w1 (hb : Below w.heap.size w w1) => mine_calls B c m 1 cb F w1 (h.below hb))
  have HRI := Lib.hid (mine_right hmi)
  obtain ⟨hl', hwd, hst, hmd, hep⟩ := right_facts HRI.out.1
  have HWL := Lib.hid hl'
  clear hl'
  obtain ⟨ab, sb, tb, wbs, L, h, rfl⟩ := h
  have h8 := h.ok.m.most8
  have hlen := h.ok.m.len
  have HC := Lib.hid (fun w1 (hb : Below w.heap.size w w1) => h.below hb)
  have HMS := Lib.hid (fun w1 (hb : Below w.heap.size w w1) => get_calls c.M m.line c.most tb w1 (by omega) (h.tab.below hb).tab)
  have HAG := Lib.hid (fun w1 (hb : Below w.heap.size w w1) => aget_calls B c.n c.k c.A m.line ab sb wbs w1 h.ok.a (h.ar.below hb))
  have HOK := Lib.hid h.ok
  have hbc := h.bc.lt
  rw [hmi] at HMI
  unfold getV at HAG
  have hxo := (getA_some HOK.out.a hx).2.2.2.1
  rw [hx] at HAG
  simp only [Option.getD_some, Option.isSome_some] at HAG
  have HNX := Lib.hid (fun w1 => next_calls x.state m.kind m.mode w1)
  rw [hn] at HNX
  rw [hd] at HMS
  generalize (missOf c.M m.line).2 = mb at HMS
  have HOX := Lib.hid hxo
  obtain ⟨x0, x1, x2, x3, x4, x5, x6, x7, x8, x9⟩ := x
  simp only [Ent.val] at HAG HNX hfr HOX ⊢
  subst hfr
  have HKK := Lib.hid hk
  clear h hmi hx hn hk hxo hd
  have HMB := Lib.hid (blk_new w m.cells 33 _ rfl)
  have hb0 := ((Below.refl w.heap.size w).alloc (Nat.le_refl _) (.cells m.cells.toArray 33)).alloc (by simp) (.cells Msg.zero.cells.toArray 33)
  have HMB0 := Lib.hid (HMB.out.below ((Below.refl _ _).alloc (Nat.le_refl _) (.cells Msg.zero.cells.toArray 33)) HMB.out.lt)
  have HRB0 := Lib.hid (blk_new (w.alloc (.cells m.cells.toArray 33)) Msg.zero.cells 33 (w.heap.size + 1) (by simp))
  have hz0 : ((w.alloc (.cells m.cells.toArray 33)).alloc (.cells Msg.zero.cells.toArray 33)).heap.size = w.heap.size + 2 := by simp
  have HB0 := Lib.hid hb0
  clear HMB hb0
  obtain ⟨r1, r2, r3, r4, r5, r6, r7, r8, r9, r10, r11, r12, r13⟩ := m
  have hkk := HKK.out
  simp only at hkk
  subst hkk
  simp only [Msg.cells, Msg.val, Msg.zero] at *
  go_enter Tryd.func16, Tryd.ntmps16
  go_wp2_with fail
  generalize (w.alloc (.cells #[.int .i64 10, .int .i64 r2, .int .i64 r3, .int .i64 r4, .int .i64 r5, .int .i64 r6, .int .i64 r7, .int .u32 r8, .int .u32 r9, .int .u32 r10, .int .u32 r11, .int .u32 r12, .bool r13] 33)).alloc (.cells #[.int .i64 0, .int .i64 0, .int .i64 0, .int .i64 0, .int .i64 0, .int .i64 0, .int .i64 0, .int .u32 0, .int .u32 0, .int .u32 0, .int .u32 0, .int .u32 0, .bool false] 33) = W at *
  refine (HMI.out _ HB0.out).mono ?_
  rintro e w1 ⟨rfl, hb1⟩
  have HB1 := Lib.hid (HB0.out.trans (hb1.mono HB0.out.size))
  have HMB1 := Lib.hid (HMB0.out.below hb1 HMB0.out.lt)
  have HRB1 := Lib.hid (HRB0.out.below hb1 HRB0.out.lt)
  clear hb1
  have c2 := (HC.out _ HB1.out).bc.cell 2
  simp at c2
  have m2 := (msgAt (m := ⟨10, r2, r3, r4, r5, r6, r7, r8, r9, r10, r11, r12, r13⟩) HMB1.out).c2
  have hz1 : w.heap.size + 2 ≤ w1.heap.size := by have := HRB1.out.lt; omega
  simp only at m2
  have hcb1 : cb < w1.heap.size := by omega
  have hcm1 : w.heap.size < w1.heap.size := by omega
  go_wp2_with fail
  go_cut [6, 7] (fun s6 s7 wx => ∃ g : Nat, s6 = .pointer (some ⟨g, 0, none⟩) ∧ s7 = .bool true ∧ Below w1.heap.size w1 wx ∧ w1.heap.size ≤ g ∧ Hid (Blk wx g 69 (Ent.cells ⟨x0, x1, x2, x3, x4, x5, x6, x7, x8, false⟩)))
  case first =>
    go_region_held3 (fun w' => w'.cell? ⟨cb, 2, none⟩ = some (.pointer (some ⟨ab, 0, none⟩)) ∧ w'.cell? ⟨w.heap.size, 2, none⟩ = some (.int .i64 r3)) (first | (go_keep; done) | (refine ⟨?_, ?_⟩ <;> first | (go_keep; done) | (simp [World.cell?_setCell_other, *]; done))) ((go_at_call 26; refine (HAG.out _ (by first | exact HB1.out.drew | exact (Below.alloc HB1.out HB1.out.size _).drew)).mono ?_; rintro e w3 ⟨rfl, hb3⟩; have q1 := hb3.cell (p := ⟨cb, 2, none⟩) (by simp; omega); have q2 := hb3.cell (p := ⟨w.heap.size, 2, none⟩) (by simp; try omega); simp [World.cell?_alloc_lt, hcb1, hcm1, Nat.ne_of_lt hcb1, Nat.ne_of_lt hcm1, c2, m2] at q1 q2; first | (have hz : Blk w3 w1.heap.size 69 Ent.zero.cells := Blk.below (blk_newd _ Ent.zero.cells _ _ (by simp)) hb3 (by simp); obtain ⟨z0, z1, z2, z3, z4, z5, z6, z7, z8, z9⟩ := entAt0 hz; obtain ⟨y0, y1, y2, y3, y4, y5, y6, y7, y8, y9⟩ := entFree hz; simp only [Nat.zero_add] at z1 z2 z3 z4 z5 z6 z7 z8 z9; have HZ := Lib.hid hz; clear hz) | skip))
    · have hw3 : Below w1.heap.size w1 w3 := ((Below.refl _ w1).drew).trans (hb3.mono (by simp))
      have HAl := Lib.hid (fun o : Obj => Below.alloc hw3 hw3.size o)
      have hz3 := hw3.size
      clear hb3 hw3 q1 q2
      go_wp2_with fail
      go_meet
      exact ⟨w3.heap.size, rfl, rfl, HAl.out _, hz3, blk_new _ (Ent.cells ⟨x0, x1, x2, x3, x4, x5, x6, x7, x8, false⟩) _ _ rfl⟩
    · have hw3 : Below w1.heap.size w1 w3 := (((Below.refl _ w1).alloc (Nat.le_refl _) _).drew).trans (hb3.mono (by simp))
      have HW3 := Lib.hid hw3
      clear hb3 hw3 q1 q2
      go_wp2_with fail
      go_meet
      obtain ⟨po, pb⟩ := put10 HZ.out x0 x1 x2 x3 x4 x5 x6 x7 x8 false
      exact ⟨_, rfl, rfl, HW3.out.trans (po.below.mono (Nat.le_refl _)), Nat.le_refl _, pb⟩
  case rest =>
  obtain ⟨ge, rfl, rfl, hwx, hge, HE2⟩ := hcut
  have HB2 := Lib.hid (HB1.out.trans (hwx.mono HB1.out.size))
  have HMB2 := Lib.hid (HMB1.out.below hwx HMB1.out.lt)
  have HRB2 := Lib.hid (HRB1.out.below hwx HRB1.out.lt)
  have hwx4 := hwx
  clear hwx c2 m2
  have e9 := (entAt0 HE2.out).c9
  simp only [Nat.zero_add] at e9
  have c3 := (HC.out _ HB2.out).bc.cell 3
  simp at c3
  have m0 := (msgAt (m := ⟨10, r2, r3, r4, r5, r6, r7, r8, r9, r10, r11, r12, r13⟩) HMB2.out).c2
  simp only at m0
  have k3 := cell_regrown c3
  have km := cell_regrown m0
  have HG6 := Lib.hid (fun d os => Calls.regrown_of (w := wc) (d := d) (os := os) (HMS.out _ (HB2.out.trans ((below_regrown wc d os).mono HB2.out.size))))
  clear c3 m0
  go_wp2_with fail
  refine wp_region_quiet_below (by kernel_rfl) (by kernel_rfl) ?_
  repeat (go_big_quiet_step (exact HG6.out _ _))
  refine wpQuiet_nil ?_
  intro _ hw'
  obtain ⟨⟨dq, osq⟩, hw''⟩ := hw'
  subst hw''
  have hb4 := below_regrown wc dq osq
  clear k3 km
  generalize grow (redrawn wc dq) osq = w4 at hb4 ⊢
  have HB4 := Lib.hid (HB2.out.trans (hb4.mono HB2.out.size))
  have HMB4 := Lib.hid (HMB2.out.below hb4 HMB2.out.lt)
  have HRB4 := Lib.hid (HRB2.out.below hb4 HRB2.out.lt)
  have HE4 := Lib.hid (HE2.out.below hb4 HE2.out.lt)
  have HX4 := Lib.hid (hwx4.trans (hb4.mono hwx4.size))
  clear hb4 e9 hwx4
  have m0 := (msgAt (m := ⟨10, r2, r3, r4, r5, r6, r7, r8, r9, r10, r11, r12, r13⟩) HMB4.out).c0
  simp only at m0
  have c3 := (HC.out _ HB4.out).bc.cell 3
  have m2 := (msgAt (m := ⟨10, r2, r3, r4, r5, r6, r7, r8, r9, r10, r11, r12, r13⟩) HMB4.out).c2
  simp at c3
  simp only at m2
  go_wp2_with fail
  go_still_tail 6, (by kernel_rfl)
  change wpList _ _ _ _ _ w4.drew
  have hb4d := HB4.out.drew
  have HX5 : Hid (Below w1.heap.size w1 w4.drew) := HX4.out.drew
  have HMB4d : Hid (Blk w4.drew _ _ _) := HMB4.out
  have HRB4d : Hid (Blk w4.drew _ _ _) := HRB4.out
  have HE4d : Hid (Blk w4.drew _ _ _) := HE4.out
  clear c3 m2 m0
  generalize w4.drew = w5 at hb4d HMB4d HRB4d HE4d HX5 ⊢
  go_wp2_with fail
  refine (mdrop_calls B L c.M r3 c.most tb w5 (by omega) (Nat.le_trans hB hb4d.size) (HC.out _ hb4d).tab).mono ?_
  rintro e w6 ⟨⟨b6, rfl⟩, ⟨L', hT, hG⟩, hf6, hl6⟩
  have HC6 := Lib.hid ((HC.out _ hb4d).mdone hT hf6 (dropM_ok c.M r3 c.most HOK.out.m))
  have HS6 := Lib.hid ((HC.out _ hb4d).mstep hT hG hf6 hl6 (dropM_ok c.M r3 c.most HOK.out.m))
  have HMB6 := Lib.hid (HMB4d.out.fr hf6 (by decide))
  have HRB6 := Lib.hid (HRB4d.out.fr hf6 (by decide))
  have HB5 := Lib.hid hb4d
  have HE6 := Lib.hid (HE4d.out.frl hl6 (fun hm => by have := HLT.out ge (by simp [hm]); omega))
  have HG5 := Lib.hid hG
  have HGL := Lib.hid HE4d.out.lt
  have HG6 := Lib.hid (show Grow w1 L L' from ⟨hG.1, fun x hx => (hG.2 x hx).imp id (fun h => Nat.le_trans (HX5.out.size) h)⟩)
  have HF6 := Lib.hid ((FrL.below (cb :: ab :: sb :: (wbs ++ L)) HX5.out).trans (hl6.sub (fun x hx => by simp [hx])))
  clear hT hG hf6 hl6 hb4d
  have c0 := (HC6.out).bc.cell 0
  simp at c0
  have m2 := (msgAt (m := ⟨10, r2, r3, r4, r5, r6, r7, r8, r9, r10, r11, r12, r13⟩) HMB6).c2
  simp only at m2
  have hcb9 := (HC6.out).bc.lt
  have hcm9 := HMB6.lt
  have hrb9 := HRB6.lt
  go_wp2_with fail
  go_region_held3 (fun w' => w'.cell? ⟨cb, 0, none⟩ = some (.int .i64 c.core) ∧ w'.cell? ⟨w.heap.size, 2, none⟩ = some (.int .i64 r3)) (first | (go_keep; done) | (refine ⟨?_, ?_⟩ <;> first | (go_keep; done) | (simp [World.cell?_setCell_other, *]; done))) (fail)
  clear c0 m2
  have hge9 := HE6.out.lt
  have ng1 : ge ≠ w6.heap.size := by omega
  have ng2 : w.heap.size ≠ w6.heap.size := by omega
  have m0 := (msgAt (m := ⟨10, r2, r3, r4, r5, r6, r7, r8, r9, r10, r11, r12, r13⟩) HMB6.out).c0
  have m4 := (msgAt (m := ⟨10, r2, r3, r4, r5, r6, r7, r8, r9, r10, r11, r12, r13⟩) HMB6.out).c4
  obtain ⟨e0, e1, e2, e3, e4, e5, e6, e7, e8, e9⟩ := entAt0 HE6.out
  simp only [Nat.zero_add] at m0 m4 e1 e2 e3 e4 e5 e6 e7 e8 e9
  subst hz
  have HNE : Hid (∀ x ∈ cb :: ab :: sb :: (wbs ++ L'), x ≠ ge) := fun x hx e => by
    simp only [List.mem_cons, List.mem_append] at hx
    have hold : ∀ y ∈ cb :: ab :: sb :: (wbs ++ L), y ≠ ge := fun y hy e2 => by have := HLT.out y hy; omega
    rcases hx with h1 | h1 | h1 | h1 | h1
    · exact hold x (by simp [h1]) e
    · exact hold x (by simp [h1]) e
    · exact hold x (by simp [h1]) e
    · exact hold x (by simp [h1]) e
    · rcases HG5.out.2 x h1 with h2 | h2
      · exact hold x (by simp [h2]) e
      · have := HGL.out; omega
  cases hs
  · go_wp2_with (first | (go_at_call 38; refine (HNX.out _).mono ?_; rintro e w' ⟨rfl, rfl⟩) | (refine wl_storeV rfl (.tmp 85) (.tmp 84) 3 rfl ge 1 69 [.int .i64 0] (.int .i64 0) rfl rfl rfl intSize1 _ (HE6.out.below (Below.alloc (Below.refl _ _) (Nat.le_refl _) _).drew HE6.out.lt) (one1 _ rfl) (by simp [Ent.cells]) ?d1))
    case d1 =>
      intro w7 ho7 hblk7
      have HE7 := Lib.hid (show Blk w7 ge 69 (Ent.cells ⟨x0, 0, x2, x3, x4, x5, x6, x7, x8, false⟩) from hblk7)
      have HO7 := Lib.hid (ho7.blk (blk_newd w6 (Msg.cells ⟨11, c.core, r3, 0, 0, 0, 0, 0, 0, 0, 0, 0, false⟩) 33 _ rfl) (Ne.symm ng1))
      have hbn := (Below.alloc (Below.refl w6.heap.size w6) (Nat.le_refl _) (.cells (Msg.cells ⟨11, c.core, r3, 0, 0, 0, 0, 0, 0, 0, 0, 0, false⟩).toArray 33)).drew
      have HMB7 := Lib.hid (ho7.blk (HMB6.out.below hbn HMB6.out.lt) (by omega))
      have HRB7 := Lib.hid (ho7.blk (HRB6.out.below hbn HRB6.out.lt) (by omega))
      have HC7 := Lib.hid ((HC6.out.below hbn).out (ho7.frl [ge] (by simp)) (fun x hx hm => HNE.out x hx (by simpa using hm)))
      have HF7 := Lib.hid ((HF6.out.trans (FrL.below _ hbn)).trans' (ho7.frl [ge] (by simp)) (fun x hx => by simp at hx; subst hx; exact Or.inr hge))
      have HGR := HG6
      clear ho7 hblk7 hbn e0 e1 e2 e3 e4 e5 e6 e7 e8 e9 m0 m4
      obtain ⟨e0, e1, e2, e3, e4, e5, e6, e7, e8, e9⟩ := entAt0 HE7.out
      obtain ⟨m0, m1, m2, m3, m4, m5, m6, m7, m8, m9, m10, m11, m12⟩ := msgAt (m := ⟨10, r2, r3, r4, r5, r6, r7, r8, r9, r10, r11, r12, r13⟩) HMB7.out
      simp only [Nat.zero_add] at e0 m0 m2 m4 m5 m6 m7 e1 e2 e3 e4 e5 e6 e7 e8 e9
      clear m1 m3 m8 m9 m10 m11 m12
      have c2 := HC7.out.bc.cell 2
      simp at c2
      go_wp2_with fail
      go_still_tail 6, (by kernel_rfl)
      change wpList _ _ _ _ _ w7.drew
      have HCd : Hid (CR B w7.drew cb ab sb tb wbs L' _) := HC7.out.below ((Below.refl _ _).drew)
      have HFd : Hid (FrL (cb :: ab :: sb :: (wbs ++ L)) w1 w7.drew) := HF7.out.drew
      have HOd : Hid (Blk w7.drew _ _ _) := HO7.out
      have HRd : Hid (Blk w7.drew _ _ _) := HRB7.out
      have HLE : Hid (B ≤ w7.drew.heap.size) := by have := HF7.out.size; have := HB1.out.size; show B ≤ w7.heap.size; omega
      clear c2
      clear e0 e1 e2 e3 e4 e5 e6 e7 e8 e9 m0 m2 m4 m5 m6 m7
      generalize w7.drew = wd at HCd HFd HOd HRd HLE ⊢
      go_wp2_with fail
      refine (adrop_calls B c.n c.k c.A r3 ab sb wbs wd HCd.out.ok.a HCd.out.ar HWL.out HLE.out).mono ?_
      rintro e wa ⟨rfl, haa, hka, hfa, hla⟩
      have HSa := Lib.hid (CStep.arr HCd.out HGR.out HFd.out haa hka hfa (fun T hT => Or.inl (by simpa using hT)) hla)
      have HOa := Lib.hid (HOd.out.fr hfa (by decide))
      have HRa := Lib.hid (HRd.out.fr hfa (by decide))
      obtain ⟨o0, o1, o2, o3, o4, o5, o6, o7, o8, o9, o10, o11, o12⟩ := msgAt HOa.out
      simp only at o0 o1 o2 o3 o4 o5 o6 o7 o8 o9 o10 o11 o12
      clear haa hka hfa hla
      go_wp2_with (refine wl_store rfl (.tmp 4) (.tmp 124) 33 rfl (w.heap.size + 1) 0 33 (Msg.cells ⟨11, c.core, r3, 0, 0, 0, 0, 0, 0, 0, 0, 0, false⟩) rfl rfl msgSize _ HRa.out (msgOne _) (by simp [Msg.cells]) ?d9)
      case d9 =>
      intro wz hoz hblk
      have HK := Lib.hid (msgOver (m := Msg.zero) (m' := ⟨11, c.core, r3, 0, 0, 0, 0, 0, 0, 0, 0, 0, false⟩) hblk)
      have HSz := Lib.hid (HSa.out.only HB1.out HLT.out (by omega) HRB1.out.lt hoz)
      clear hoz hblk
      go_wp2
      exact bodyPost_ret (v := .tuple #[Msg.val ⟨11, c.core, r3, 0, 0, 0, 0, 0, 0, 0, 0, 0, false⟩, .bool true]) (results_msg2 Tryd.results16 ⟨11, c.core, r3, 0, 0, 0, 0, 0, 0, 0, 0, 0, false⟩ _ rfl rfl HK.out) rfl ⟨rfl, HSz.out⟩
  · go_wp2_with (first | (go_at_call 38; refine (HNX.out _).mono ?_; rintro e w' ⟨rfl, rfl⟩) | (refine wl_storeV rfl (.tmp 85) (.tmp 84) 3 rfl ge 1 69 [.int .i64 0] (.int .i64 0) rfl rfl rfl intSize1 _ (HE6.out.below (Below.alloc (Below.refl _ _) (Nat.le_refl _) _).drew HE6.out.lt) (one1 _ rfl) (by simp [Ent.cells]) ?d1))
    case d1 =>
      intro w7 ho7 hblk7
      have HE7 := Lib.hid (show Blk w7 ge 69 (Ent.cells ⟨x0, 0, x2, x3, x4, x5, x6, x7, x8, false⟩) from hblk7)
      have HO7 := Lib.hid (ho7.blk (blk_newd w6 (Msg.cells ⟨11, c.core, r3, 0, 0, 0, 0, 0, x4, x5, x6, x7, true⟩) 33 _ rfl) (Ne.symm ng1))
      have hbn := (Below.alloc (Below.refl w6.heap.size w6) (Nat.le_refl _) (.cells (Msg.cells ⟨11, c.core, r3, 0, 0, 0, 0, 0, x4, x5, x6, x7, true⟩).toArray 33)).drew
      have HMB7 := Lib.hid (ho7.blk (HMB6.out.below hbn HMB6.out.lt) (by omega))
      have HRB7 := Lib.hid (ho7.blk (HRB6.out.below hbn HRB6.out.lt) (by omega))
      have HC7 := Lib.hid ((HC6.out.below hbn).out (ho7.frl [ge] (by simp)) (fun x hx hm => HNE.out x hx (by simpa using hm)))
      have HF7 := Lib.hid ((HF6.out.trans (FrL.below _ hbn)).trans' (ho7.frl [ge] (by simp)) (fun x hx => by simp at hx; subst hx; exact Or.inr hge))
      have HGR := HG6
      clear ho7 hblk7 hbn e0 e1 e2 e3 e4 e5 e6 e7 e8 e9 m0 m4
      obtain ⟨e0, e1, e2, e3, e4, e5, e6, e7, e8, e9⟩ := entAt0 HE7.out
      obtain ⟨m0, m1, m2, m3, m4, m5, m6, m7, m8, m9, m10, m11, m12⟩ := msgAt (m := ⟨10, r2, r3, r4, r5, r6, r7, r8, r9, r10, r11, r12, r13⟩) HMB7.out
      simp only [Nat.zero_add] at e0 m0 m2 m4 m5 m6 m7 e1 e2 e3 e4 e5 e6 e7 e8 e9
      clear m1 m3 m8 m9 m10 m11 m12
      have c2 := HC7.out.bc.cell 2
      simp at c2
      go_wp2_with fail
      go_still_tail 6, (by kernel_rfl)
      change wpList _ _ _ _ _ w7.drew
      have HCd : Hid (CR B w7.drew cb ab sb tb wbs L' _) := HC7.out.below ((Below.refl _ _).drew)
      have HFd : Hid (FrL (cb :: ab :: sb :: (wbs ++ L)) w1 w7.drew) := HF7.out.drew
      have HOd : Hid (Blk w7.drew _ _ _) := HO7.out
      have HRd : Hid (Blk w7.drew _ _ _) := HRB7.out
      have HLE : Hid (B ≤ w7.drew.heap.size) := by have := HF7.out.size; have := HB1.out.size; show B ≤ w7.heap.size; omega
      clear c2
      clear e0 e1 e2 e3 e4 e5 e6 e7 e8 e9 m0 m2 m4 m5 m6 m7
      generalize w7.drew = wd at HCd HFd HOd HRd HLE ⊢
      go_wp2_with fail
      refine (adrop_calls B c.n c.k c.A r3 ab sb wbs wd HCd.out.ok.a HCd.out.ar HWL.out HLE.out).mono ?_
      rintro e wa ⟨rfl, haa, hka, hfa, hla⟩
      have HSa := Lib.hid (CStep.arr HCd.out HGR.out HFd.out haa hka hfa (fun T hT => Or.inl (by simpa using hT)) hla)
      have HOa := Lib.hid (HOd.out.fr hfa (by decide))
      have HRa := Lib.hid (HRd.out.fr hfa (by decide))
      obtain ⟨o0, o1, o2, o3, o4, o5, o6, o7, o8, o9, o10, o11, o12⟩ := msgAt HOa.out
      simp only at o0 o1 o2 o3 o4 o5 o6 o7 o8 o9 o10 o11 o12
      clear haa hka hfa hla
      go_wp2_with (refine wl_store rfl (.tmp 4) (.tmp 124) 33 rfl (w.heap.size + 1) 0 33 (Msg.cells ⟨11, c.core, r3, 0, 0, 0, 0, 0, x4, x5, x6, x7, true⟩) rfl rfl msgSize _ HRa.out (msgOne _) (by simp [Msg.cells]) ?d9)
      case d9 =>
      intro wz hoz hblk
      have HK := Lib.hid (msgOver (m := Msg.zero) (m' := ⟨11, c.core, r3, 0, 0, 0, 0, 0, x4, x5, x6, x7, true⟩) hblk)
      have HSz := Lib.hid (HSa.out.only HB1.out HLT.out (by omega) HRB1.out.lt hoz)
      clear hoz hblk
      go_wp2
      exact bodyPost_ret (v := .tuple #[Msg.val ⟨11, c.core, r3, 0, 0, 0, 0, 0, x4, x5, x6, x7, true⟩, .bool true]) (results_msg2 Tryd.results16 ⟨11, c.core, r3, 0, 0, 0, 0, 0, x4, x5, x6, x7, true⟩ _ rfl rfl HK.out) rfl ⟨rfl, HSz.out⟩

end Go.Proofs.YtnieambhpmnliaaDoor
