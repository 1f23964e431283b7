/- cache.New at a configuration that may be. -/
import Derived.Test.YtnieambhpmnliaaDoorGeom
import Derived.Test.YtnieambhpmnliaaDoorEvict
import Derived.Test.YtnieambhpmnliaaDoorFwd3
namespace Go.Proofs.YtnieambhpmnliaaDoor
set_option linter.all false
set_option linter.unusedVariables false
set_option linter.unusedSimpArgs false
open Go Go.RowKit

/-- A new cache. -/
def newC (core : Int) (n k : Nat) (most : Int) : Ca := ⟨core, n, k, most, List.replicate n (0, List.replicate k Ent.zero), []⟩
theorem newC_ok (core : Int) (n k : Nat) (most : Int) (hn : power n 8 = true) (hk : power k 8 = true) (hm : 1 ≤ most ∧ most ≤ 8) : COk (newC core n k most) := by
  refine ⟨⟨by simp [newC], hn, hk, ?_, ?_, ?_⟩, ⟨fun i j hi hj _ => by simp [newC] at hi, fun i hi => by simp [newC] at hi, hm.2, by simp [newC]; omega⟩⟩
  · intro s hs; simp [newC] at hs; rw [hs.2]; simp [newC]
  · intro s hs; simp [newC] at hs; rw [hs.2]; simp
  · intro s hs e he h0; simp [newC] at hs; rw [hs.2] at he; simp at he; rw [he.2] at h0; simp [Ent.zero] at h0

theorem ArrR.only {B g : Nat} {w w' : World} {ab sb wbs A} (h : ArrR B w ab sb wbs A) (ho : Only g w w') (hn : ∀ b ∈ ab :: sb :: wbs, b ≠ g) : ArrR B w' ab sb wbs A :=
  { h with
    ba := ho.blk h.ba (hn _ (by simp))
    bs := ho.blk h.bs (hn _ (by simp))
    bw := fun i hi hj => ⟨(h.bw i hi hj).1, ho.blk (h.bw i hi hj).2 (hn _ (by simp [List.getElem_mem hj]))⟩ }
theorem CAt.mono {B B' w cb c F} (h : CAt B w cb c F) (hB : B' ≤ B) : CAt B' w cb c F := by
  obtain ⟨ab, sb, tb, wbs, L, h, e⟩ := h
  obtain ⟨⟨t1, t2, t3⟩, lv, cap, t4, t5, t6⟩ := h.tab
  exact ⟨ab, sb, tb, wbs, L, ⟨Nat.le_trans hB h.hB, h.bc, h.ar.mono hB, ⟨⟨Nat.le_trans hB t1, t2, fun x hx => ⟨Nat.le_trans hB (t3 x hx).1, (t3 x hx).2⟩⟩, lv, cap, t4, t5, fun q hq => ⟨Nat.le_trans hB (t6 q hq).1, (t6 q hq).2⟩⟩, h.ok⟩, e⟩
theorem ptrSizeA : (Tryd.prog.info? 58).map (·.size) = some 1 := by kernel_rfl
theorem ptrSizeM : (Tryd.prog.info? 59).map (·.size) = some 1 := by kernel_rfl
set_option maxRecDepth 100000 in
set_option maxHeartbeats 4000000 in
theorem new_calls (B : Nat) (c1 c2 c5 c6 c7 c8 c9 core : Int) (n k : Nat) (p : Nat → Addr) (w : World) (hg : Sent B w p) (hlow : -1 ≤ c9) (hok : (Cfg.bad ⟨c1, c2, n, k, c5, c6, c7, c8, c9⟩) < 0) (hcore : 0 ≤ core ∧ core < c1) (hn : power n 8 = true) (hk : power k 8 = true) (hm : 1 ≤ c5 ∧ c5 ≤ 8) :
    Calls Tryd.prog 10 #[Cfg.val ⟨c1, c2, n, k, c5, c6, c7, c8, c9⟩, .int .i64 core] w
      fun e w' => ∃ cb F, e = .returned (.tuple #[.pointer (some ⟨cb, 0, none⟩), .nilIface]) ∧ CAt B w' cb (newC core n k c5) F ∧ (∀ x ∈ F, w.heap.size ≤ x) ∧ Below w.heap.size w w' := by
  have hB := hg.size
  have HC := Lib.hid (fun w1 (hb : Below w.heap.size w w1) => check_calls B ⟨c1, c2, n, k, c5, c6, c7, c8, c9⟩ p w1 (hg.below hb) hlow)
  rw [show checkv p ⟨c1, c2, n, k, c5, c6, c7, c8, c9⟩ = .nilIface from if_pos hok] at HC
  obtain ⟨k0, k1⟩ := hcore
  have HA := Lib.hid (fun w1 => anew_calls w1.heap.size n k w1 (Nat.le_refl _) hn hk)
  have HM := Lib.hid (fun w1 => mnew_calls w1.heap.size c5 w1 hm (Nat.le_refl _))
  have HOK := Lib.hid (newC_ok core n k c5 hn hk hm)
  clear hg hok
  have hbk := blk_new w [.int .i64 c1, .int .i64 c2, .int .i64 n, .int .i64 k, .int .i64 c5, .int .i64 c6, .int .i64 c7, .int .i64 c8, .int .i64 c9] 28 _ rfl
  have hb0 := (Below.refl w.heap.size w).alloc (Nat.le_refl _) (.cells #[.int .i64 c1, .int .i64 c2, .int .i64 n, .int .i64 k, .int .i64 c5, .int .i64 c6, .int .i64 c7, .int .i64 c8, .int .i64 c9] 28)
  have HBK := Lib.hid hbk
  have HB0 := Lib.hid hb0
  clear hbk hb0
  simp only [Cfg.val] at HC ⊢
  go_enter Tryd.func10, Tryd.ntmps10
  go_wp2_with fail
  generalize w.alloc (.cells #[.int .i64 c1, .int .i64 c2, .int .i64 n, .int .i64 k, .int .i64 c5, .int .i64 c6, .int .i64 c7, .int .i64 c8, .int .i64 c9] 28) = W at *
  refine (HC.out _ HB0.out).mono ?_
  rintro e w1 ⟨rfl, hb1⟩
  have HB1 := Lib.hid (HB0.out.trans (hb1.mono HB0.out.size))
  have HBK1 := Lib.hid (HBK.out.below hb1 HBK.out.lt)
  clear hb1
  have q0 := HBK1.out.cell 0
  have q2 := HBK1.out.cell 2
  have q3 := HBK1.out.cell 3
  have hlt1 := HBK1.out.lt
  have hne1 : w.heap.size ≠ w1.heap.size := by omega
  simp only [List.getElem?_cons_succ, List.getElem?_cons_zero] at q0 q2 q3
  go_wp2_with fail
  have hb2 := HB1.out.alloc HB1.out.size (.cells #[.int .i64 core, .int .i64 n, .pointer none, .pointer none] 61)
  have HCB := Lib.hid (blk_new w1 [.int .i64 core, .int .i64 n, .pointer none, .pointer none] 61 _ rfl)
  have HBK2 := Lib.hid (HBK1.out.below ((Below.refl w1.heap.size w1).alloc (Nat.le_refl _) (.cells #[.int .i64 core, .int .i64 n, .pointer none, .pointer none] 61)) HBK1.out.lt)
  have HB2 := Lib.hid hb2
  clear hb2
  refine (HA.out _).mono ?_
  rintro e w3 ⟨ab, sb, wbs, rfl, har, hb3⟩
  have HB3 := Lib.hid (HB2.out.trans (hb3.mono HB2.out.size))
  have HCB3 := Lib.hid (HCB.out.below hb3 HCB.out.lt)
  have HBK3 := Lib.hid (HBK2.out.below hb3 HBK2.out.lt)
  have HAR := Lib.hid har
  have HLO : Hid (∀ x ∈ ab :: sb :: wbs, w1.heap.size < x) := fun x hx => by have := har.all x hx; simp at this; omega
  clear har hb3 q0 q2 q3
  go_wp2_with (refine wl_storeV rfl (.tmp 40) (.tmp 37) 58 rfl w1.heap.size 2 61 [.pointer (some ⟨ab, 0, none⟩)] (.pointer (some ⟨ab, 0, none⟩)) rfl rfl rfl ptrSizeA _ HCB3.out (one1 _ rfl) (by simp) ?d1)
  case d1 =>
  intro w4 ho4 hblk4
  have HCB4 := Lib.hid (show Blk w4 w1.heap.size 61 [.int .i64 core, .int .i64 n, .pointer (some ⟨ab, 0, none⟩), .pointer none] from hblk4)
  have HB4 := Lib.hid (HB3.out.trans (ho4.below.mono (by omega)))
  have HBK4 := Lib.hid (ho4.blk HBK3.out hne1)
  have HAR4 := Lib.hid (HAR.out.only ho4 (fun b hb e => by have := HLO.out b hb; omega))
  clear ho4 hblk4
  have q4 := HBK4.out.cell 4
  simp only [List.getElem?_cons_succ, List.getElem?_cons_zero] at q4
  go_wp2_with fail
  refine (HM.out _).mono ?_
  rintro e w5 ⟨tb, rfl, htb, hT, hb5⟩
  have HB5 := Lib.hid (HB4.out.trans (hb5.mono HB4.out.size))
  have HCB5 := Lib.hid (HCB4.out.below hb5 HCB4.out.lt)
  have HAR5 := Lib.hid (HAR4.out.below hb5)
  have HT5 := Lib.hid hT
  have hlt4 := HCB4.out.lt
  clear hT hb5 q4
  go_wp2_with (refine wl_storeV rfl (.tmp 49) (.tmp 46) 59 rfl w1.heap.size 3 61 [.pointer (some ⟨tb, 0, none⟩)] (.pointer (some ⟨tb, 0, none⟩)) rfl rfl rfl ptrSizeM _ HCB5.out (one1 _ rfl) (by simp) ?d2)
  case d2 =>
  intro w6 ho6 hblk6
  have HCB6 := Lib.hid (show Blk w6 w1.heap.size 61 [.int .i64 core, .int .i64 n, .pointer (some ⟨ab, 0, none⟩), .pointer (some ⟨tb, 0, none⟩)] from hblk6)
  have HB6 := Lib.hid (HB5.out.trans (ho6.below.mono (by omega)))
  have HAR6 := Lib.hid (HAR5.out.only ho6 (fun b hb e => by have := HLO.out b hb; omega))
  have hs4 := HB4.out.size
  have HCR : Hid (CR w.heap.size w6 w1.heap.size ab sb tb wbs [tb] (newC core n k c5)) := by
    refine ⟨by have := HB1.out.size; exact this, HCB6.out, ?_, ?_, HOK.out⟩
    · exact HAR6.out.mono (by simp; have := HB1.out.size; omega)
    · obtain ⟨⟨t1, t2, t3⟩, lv, cap, t4, t5, t6⟩ := HT5.out
      refine ⟨⟨by omega, t2, fun x hx => ⟨by have := (t3 x hx).1; omega, by rw [ho6.size]; exact (t3 x hx).2⟩⟩, lv, cap, ho6.blk t4 (by omega), ?_, fun q hq => ⟨by have := (t6 q hq).1; omega, (t6 q hq).2⟩⟩
      rcases t5 with h5 | ⟨lb, r, h1, h2, h3⟩
      · exact Or.inl h5
      · refine Or.inr ⟨lb, r, h1, ho6.blk h2 (fun e => ?_), h3⟩
        have := (t6 _ h1).1
        simp at this
        omega
  clear ho6 hblk6
  go_wp2
  go_ret2
  have hcat : CAt w.heap.size w6 w1.heap.size (newC core n k c5) (w1.heap.size :: ab :: sb :: (wbs ++ [tb])) := ⟨ab, sb, tb, wbs, [tb], HCR.out, rfl⟩
  exact ⟨w1.heap.size, _, rfl, hcat.mono hB, hcat.all, HB6.out⟩

end Go.Proofs.YtnieambhpmnliaaDoor
