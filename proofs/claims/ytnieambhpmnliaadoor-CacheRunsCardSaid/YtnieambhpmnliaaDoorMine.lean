/- A cache: is a message right, of a pool, to this core? -/
import Derived.Test.YtnieambhpmnliaaDoorMsg
import Derived.Lib.QuietBelow
namespace Go.Proofs.YtnieambhpmnliaaDoor
set_option linter.all false
set_option linter.unusedVariables false
set_option linter.unusedSimpArgs false
open Go Go.RowKit Go.Sort

def mineC (c : Ca) (m : Msg) (pl : Int) : Bool := right m && pool m.kind == pl && m.core == c.core

set_option maxHeartbeats 2000000 in
theorem mine_calls (B : Nat) (c : Ca) (m : Msg) (pl : Int) (cb : Nat) (F : List Nat) (w : World) (h : CAt B w cb c F) :
    Calls Tryd.prog 31 #[.pointer (some ⟨cb, 0, none⟩), m.val, .int .i64 pl] w fun e w' => e = .returned (.bool (mineC c m pl)) ∧ Below w.heap.size w w' := by
  obtain ⟨ab, sb, tb, wbs, L, h, rfl⟩ := h
  have hb0 := (Below.refl w.heap.size w).alloc (Nat.le_refl _) (.cells m.cells.toArray 33)
  have c0 := (h.bc.below hb0 h.bc.lt).cell 0
  simp only [List.getElem?_cons_zero] at c0
  have hm0 := blk_new w m.cells 33 _ rfl
  obtain ⟨m0, m1, m2, m3, m4, m5, m6, m7, m8, m9, m10, m11, m12⟩ := msgAt hm0
  have HB0 := Lib.hid hb0
  have HR := Lib.hid (fun (w1 : World) => right_calls m w1)
  have HP := Lib.hid (fun (w1 : World) => pool_calls m.kind w1)
  clear h hm0 hb0
  have e1 : mineC c m pl = (right m && (pool m.kind == pl) && (m.core == c.core)) := rfl
  have HE := Lib.hid e1
  clear e1
  generalize right m = r at HR HE
  obtain ⟨r1, r2, r3, r4, r5, r6, r7, r8, r9, r10, r11, r12, r13⟩ := m
  generalize pool _ = q at HP HE
  simp only [Msg.val, Msg.cells] at *
  go_enter Tryd.func31, Tryd.ntmps31
  go_wp2_with fail
  generalize w.alloc (.cells #[.int .i64 r1, .int .i64 r2, .int .i64 r3, .int .i64 r4, .int .i64 r5, .int .i64 r6, .int .i64 r7, .int .u32 r8, .int .u32 r9, .int .u32 r10, .int .u32 r11, .int .u32 r12, .bool r13] 33) = W at *
  have k0 := cell_regrown m0
  have k1 := cell_regrown m1
  have k2 := cell_regrown m2
  have k3 := cell_regrown m3
  have k4 := cell_regrown m4
  have k5 := cell_regrown m5
  have k6 := cell_regrown m6
  have k7 := cell_regrown m7
  have k8 := cell_regrown m8
  have k9 := cell_regrown m9
  have k10 := cell_regrown m10
  have k11 := cell_regrown m11
  have k12 := cell_regrown m12
  have kc := cell_regrown c0
  clear m0 m1 m2 m3 m4 m5 m6 m7 m8 m9 m10 m11 m12 c0
  have HCR := Lib.hid (fun d os => Calls.regrown_of (w := W) (d := d) (os := os) (HR.out _))
  have HCP := Lib.hid (fun d os => Calls.regrown_of (w := W) (d := d) (os := os) ((HP.out _).mono fun e w' ⟨h1, h2⟩ => (⟨h1, h2 ▸ Below.refl _ _⟩ : e = Ending.returned (.int .i64 q) ∧ Below _ _ w')))
  cases r
  · refine wp_region_quiet_below (by kernel_rfl) (by kernel_rfl) ?_
    repeat (go_big_quiet_step (first | exact HCR.out _ _ | exact HCP.out _ _))
    refine wpQuiet_nil ?_
    intro _ hw'
    obtain ⟨⟨dq, osq⟩, hw''⟩ := hw'
    subst hw''
    go_wp2
    go_ret
    exact ⟨by rw [HE.out]; rfl, HB0.out.trans ((below_regrown W dq osq).mono HB0.out.size)⟩
  · cases hq : (q == pl)
    · refine wp_region_quiet_below (by kernel_rfl) (by kernel_rfl) ?_
      repeat (go_big_quiet_step (first | exact HCR.out _ _ | exact HCP.out _ _))
      refine wpQuiet_nil ?_
      intro _ hw'
      obtain ⟨⟨dq, osq⟩, hw''⟩ := hw'
      subst hw''
      go_wp2
      go_ret
      exact ⟨by rw [HE.out, hq]; rfl, HB0.out.trans ((below_regrown W dq osq).mono HB0.out.size)⟩
    · refine wp_region_quiet_below (by kernel_rfl) (by kernel_rfl) ?_
      repeat (go_big_quiet_step (first | exact HCR.out _ _ | exact HCP.out _ _))
      refine wpQuiet_nil ?_
      intro _ hw'
      obtain ⟨⟨dq, osq⟩, hw''⟩ := hw'
      subst hw''
      go_wp2
      go_ret
      exact ⟨by rw [HE.out, hq]; rfl, HB0.out.trans ((below_regrown W dq osq).mono HB0.out.size)⟩

end Go.Proofs.YtnieambhpmnliaaDoor
