/- A cache: absent, evict, Want. -/
import Derived.Test.YtnieambhpmnliaaDoorCache2
import Derived.Deep.DeepCutAuto
import Derived.Deep.RegionHeld3
namespace Go.Proofs.YtnieambhpmnliaaDoor
set_option linter.all false
set_option linter.unusedVariables false
set_option linter.unusedSimpArgs false
open Go Go.RowKit

/-- Is something under way for a line of that set that isn't there? -/
def absentC (c : Ca) (line : Int) : Bool := c.M.any (fun m => !(getA c.A m.1).isSome && gset m.1 c.n == gset line c.n)

theorem entFree {w : World} {b : Nat} {c : List Value} {T : TypeId} (h : Blk w b T c) : w.frozen? ⟨b, 0, none⟩ = false ∧ w.frozen? ⟨b, 1, none⟩ = false ∧ w.frozen? ⟨b, 2, none⟩ = false ∧ w.frozen? ⟨b, 3, none⟩ = false ∧ w.frozen? ⟨b, 4, none⟩ = false ∧ w.frozen? ⟨b, 5, none⟩ = false ∧ w.frozen? ⟨b, 6, none⟩ = false ∧ w.frozen? ⟨b, 7, none⟩ = false ∧ w.frozen? ⟨b, 8, none⟩ = false ∧ w.frozen? ⟨b, 9, none⟩ = false :=
  ⟨h.free _, h.free _, h.free _, h.free _, h.free _, h.free _, h.free _, h.free _, h.free _, h.free _⟩
theorem blk_newd (w : World) (c : List Value) (T : TypeId) (b : Nat) (e : b = w.heap.size) : Blk (w.alloc (.cells c.toArray T)).drew b T c := by subst e; exact heap_alloc_new w _
theorem setc {w : World} {g : Nat} {T : TypeId} {c : List Value} (h : Blk w g T c) (i : Nat) (v : Value) : Only g w (w.setCell ⟨g, i, none⟩ v) ∧ Blk (w.setCell ⟨g, i, none⟩ v) g T (c.set i v) := by
  have e : w.setCell ⟨g, i, none⟩ v = w.setRow g (c.set i v).toArray := by rw [setCell_eq_setRow w g i _ _ _ _ h]; congr 1; simp
  rw [e]; exact ⟨Only.setRow _ _ _, h.setRow⟩
/-- An entry, cell by cell, into a variable that was laid ahead. -/
theorem put10 {w : World} {g : Nat} (h0 : Blk w g 69 Ent.zero.cells) (x0 x1 x2 x3 x4 x5 x6 x7 : Int) (x8 x9 : Bool) :
    Only g w ((((((((((w.setCell ⟨g, 0, none⟩ (.int .i64 x0)).setCell ⟨g, 1, none⟩ (.int .i64 x1)).setCell ⟨g, 2, none⟩ (.int .i64 x2)).setCell ⟨g, 3, none⟩ (.int .i64 x3)).setCell ⟨g, 4, none⟩ (.int .u32 x4)).setCell ⟨g, 5, none⟩ (.int .u32 x5)).setCell ⟨g, 6, none⟩ (.int .u32 x6)).setCell ⟨g, 7, none⟩ (.int .u32 x7)).setCell ⟨g, 8, none⟩ (.bool x8)).setCell ⟨g, 9, none⟩ (.bool x9)) ∧ Blk ((((((((((w.setCell ⟨g, 0, none⟩ (.int .i64 x0)).setCell ⟨g, 1, none⟩ (.int .i64 x1)).setCell ⟨g, 2, none⟩ (.int .i64 x2)).setCell ⟨g, 3, none⟩ (.int .i64 x3)).setCell ⟨g, 4, none⟩ (.int .u32 x4)).setCell ⟨g, 5, none⟩ (.int .u32 x5)).setCell ⟨g, 6, none⟩ (.int .u32 x6)).setCell ⟨g, 7, none⟩ (.int .u32 x7)).setCell ⟨g, 8, none⟩ (.bool x8)).setCell ⟨g, 9, none⟩ (.bool x9)) g 69 (Ent.cells ⟨x0, x1, x2, x3, x4, x5, x6, x7, x8, x9⟩) := by
  have h1 := setc h0 0 (.int .i64 x0)
  have h2 := setc h1.2 1 (.int .i64 x1)
  have h3 := setc h2.2 2 (.int .i64 x2)
  have h4 := setc h3.2 3 (.int .i64 x3)
  have h5 := setc h4.2 4 (.int .u32 x4)
  have h6 := setc h5.2 5 (.int .u32 x5)
  have h7 := setc h6.2 6 (.int .u32 x6)
  have h8 := setc h7.2 7 (.int .u32 x7)
  have h9 := setc h8.2 8 (.bool x8)
  have h10 := setc h9.2 9 (.bool x9)
  exact ⟨(((((((((h1.1.trans h2.1).trans h3.1).trans h4.1).trans h5.1).trans h6.1).trans h7.1).trans h8.1).trans h9.1).trans h10.1), h10.2⟩
theorem anyTake {α : Type} (p : α → Bool) (l : List α) (t : Nat) (ht : t < l.length) : (l.take (t + 1)).any p = ((l.take t).any p || p l[t]) := by
  rw [← List.take_append_getElem ht, List.any_append]; simp

theorem anyOfTake {α : Type} (p : α → Bool) (l : List α) (t : Nat) (h : (l.take t).any p = true) : l.any p = true := by
  obtain ⟨x, hx, hp⟩ := List.any_eq_true.1 h
  exact List.any_eq_true.2 ⟨x, List.mem_of_mem_take hx, hp⟩

set_option maxRecDepth 100000 in
set_option maxHeartbeats 4000000 in
theorem absent_calls (B : Nat) (c : Ca) (line : Int) (cb : Nat) (F : List Nat) (w : World) (h : CAt B w cb c F) :
    Calls Tryd.prog 27 #[.pointer (some ⟨cb, 0, none⟩), .int .i64 line] w fun e w' => e = .returned (.bool (absentC c line)) ∧ Below w.heap.size w w' := by
  obtain ⟨ab, sb, tb, wbs, L, h, rfl⟩ := h
  have c3 := h.bc.cell 3
  simp at c3
  have h8 := h.ok.m.most8
  have hlen := h.ok.m.len
  have HL := Lib.hid (mlist_calls c.M c.most tb w (by omega) h.tab.tab)
  have HG := Lib.hid (fun (l : Int) w1 (hb : Below w.heap.size w w1) => aget_calls B c.n c.k c.A l ab sb wbs w1 h.ok.a (h.ar.below hb))
  have HB := Lib.hid (fun w1 (hb : Below w.heap.size w w1) => (h.bc.below hb h.bc.lt))
  clear h
  go_enter Tryd.func27, Tryd.ntmps27
  go_wp2_with fail
  refine HL.out.mono ?_
  rintro e w1 ⟨lv, cap, rfl, hs, hb1⟩
  have HS := Lib.hid hs
  clear hs
  go_wp2
  go_loopw [15] (fun x wr => ∃ t : Nat, t ≤ c.M.length ∧ x = .int .i64 t ∧ Below w1.heap.size w1 wr ∧ Hid ((c.M.take t).any (fun m => !(getA c.A m.1).isSome && gset m.1 c.n == gset line c.n) = false)) (fun x _ => c.M.length - (intOf x).toNat)
  case atStart => exact ⟨0, Nat.zero_le _, rfl, Below.refl _ _, by simp [Hid]⟩
  case round =>
    obtain ⟨t, ht, rfl, hbel, hno⟩ := hrel
    by_cases hlt : t < c.M.length
    · have hs2 := HS.out.below hbel
      rcases hs2 with ⟨rfl, hm, rfl⟩ | ⟨lb, r, rfl, h2, h3⟩
      · rw [hm] at hlt; simp at hlt
      have hbw := hb1.trans (hbel.mono hb1.size)
      have g0 := (h2.cell _).trans (missCells_get c.M t hlt r).1
      have g1 := (h2.cell _).trans (missCells_get c.M t hlt r).2
      have c2 := (HB.out _ hbw).cell 2
      have c1 := (HB.out _ hbw).cell 1
      simp at c1 c2
      have hcb := (HB.out _ hbw).lt
      have hcb1 : cb ≠ wr.heap.size + 1 := by omega
      have hcb2 : cb ≠ wr.heap.size := by omega
      have HW := Lib.hid (fun o : Obj => hbw.alloc hbw.size o)
      have hna := anyTake (fun m => !(getA c.A m.1).isSome && gset m.1 c.n == gset line c.n) c.M t hlt
      have HN := Lib.hid hna
      clear h2 h3 hna
      have HG2 := Lib.hid (fun w2 hb => HG.out c.M[t].1 w2 hb)
      unfold getV at HG2
      generalize c.M[t].1 = ml at g0 HG2 HN
      generalize c.M[t].2 = mk at g1
      generalize (getA c.A ml).getD .zero = x at HG2
      generalize (getA c.A ml).isSome = ok at HG2 HN
      obtain ⟨x0, x1, x2, x3, x4, x5, x6, x7, x8, x9⟩ := x
      simp only [Ent.val] at HG2
      go_wp2_with fail
      go_cut [7, 8] (fun s7 s8 wx => ∃ g : Nat, s7 = .pointer (some ⟨g, 0, none⟩) ∧ s8 = .bool ok ∧ Below wr.heap.size wr wx ∧ wx.cell? ⟨wr.heap.size, 0, none⟩ = some (.int .i64 ml) ∧ wr.heap.size < wx.heap.size)
      case first =>
        go_region_held3 (fun w' => w'.cell? ⟨cb, 2, none⟩ = some (.pointer (some ⟨ab, 0, none⟩)) ∧ w'.cell? ⟨wr.heap.size, 0, none⟩ = some (.int .i64 ml)) (first | (go_keep; done) | (refine ⟨?_, ?_⟩ <;> first | (go_keep; done) | (simp [World.cell?_setCell_other, hcb1, hcb2, Ne.symm hcb1, *]; done))) ((go_at_call 26; refine (HG2.out _ (by first | exact (HW.out _).drew | exact Below.alloc (HW.out _).drew (HW.out _).drew.size _)).mono ?_; rintro e w3 ⟨rfl, hb3⟩; have q1 := hb3.cell (p := ⟨cb, 2, none⟩) (by simp; omega); have q2 := hb3.cell (p := ⟨wr.heap.size, 0, none⟩) (by simp; try omega); simp [Nat.ne_of_lt hcb, Nat.ne_of_lt (Nat.lt_succ_of_lt hcb), c2, World.cell?_alloc_lt, hcb, Nat.lt_succ_of_lt hcb] at q1 q2; first | (have hz : Blk w3 (wr.heap.size + 1) 69 Ent.zero.cells := Blk.below (blk_newd _ Ent.zero.cells _ _ (by simp)) hb3 (by simp); obtain ⟨z0, z1, z2, z3, z4, z5, z6, z7, z8, z9⟩ := entAt0 hz; obtain ⟨y0, y1, y2, y3, y4, y5, y6, y7, y8, y9⟩ := entFree hz; simp only [Nat.zero_add] at z1 z2 z3 z4 z5 z6 z7 z8 z9; have HZ := Lib.hid hz; clear hz) | skip))
        · have hw3 : Below wr.heap.size wr w3 := (((Below.refl _ wr).alloc (Nat.le_refl _) _).drew).trans (hb3.mono (by simp))
          have hz3 : wr.heap.size < w3.heap.size := by have := hb3.size; simp at this; omega
          have HM3 := Lib.hid q2
          have HAl := Lib.hid (fun o : Obj => Below.alloc hw3 hw3.size o)
          have HCl := Lib.hid (fun o : Obj => (World.cell?_alloc_lt w3 o ⟨wr.heap.size, 0, none⟩ hz3).trans q2)
          clear hb3 hw3 q1 q2
          go_wp2_with fail
          go_meet
          exact ⟨w3.heap.size, rfl, rfl, HAl.out _, HCl.out _, by simp; omega⟩
        · have hw3 : Below wr.heap.size wr w3 := ((((Below.refl _ wr).alloc (Nat.le_refl _) _).alloc (by simp) _).drew).trans (hb3.mono (by simp; omega))
          have hz3 : wr.heap.size < w3.heap.size := by have := hb3.size; simp at this; omega
          have HW3 := Lib.hid hw3
          have HM3 := Lib.hid q2
          clear hb3 hw3 q1 q2
          go_wp2_with fail
          go_meet
          obtain ⟨po, pb⟩ := put10 HZ.out x0 x1 x2 x3 x4 x5 x6 x7 x8 x9
          exact ⟨_, rfl, rfl, HW3.out.trans (po.below.mono (Nat.le_succ _)), (by have := po.block wr.heap.size (by omega); have h2 := HM3.out; simp only [World.cell?] at h2 ⊢; rw [this]; exact h2), by rw [po.size]; exact hz3⟩
      case rest =>
        obtain ⟨g, rfl, rfl, hwx, hm, hz⟩ := hcut
        have c1x := (hwx.cell (p := ⟨cb, 1, none⟩) hcb).trans c1
        have HX := Lib.hid (hbel.trans (hwx.mono hbel.size))
        clear hwx c1 c2
        have HQ := Lib.hid (fun (l : Int) (w' : World) => (gset_calls l (c.n : Int) w').mono fun e w'' ⟨h1, h2⟩ => (⟨h1, h2.symm⟩ : e = Ending.returned (.int .i64 (gset l c.n)) ∧ w'' = w'))
        go_wp2_with fail
        cases ok
        · cases hq : (gset ml c.n == gset line c.n)
          · go_quiet ((go_at_call 50; exact Calls.quiet_of_same (HQ.out _ _)))
            go_wp2
            go_roundw
            case rel => exact ⟨t + 1, by omega, by go_num, Below.drewN' HX.out _, by rw [HN.out, hno.out, hq]; rfl⟩
            case measure => simp [intOf]; omega
          · go_quiet ((go_at_call 50; exact Calls.quiet_of_same (HQ.out _ _)))
            go_wp2
            go_ret
            refine ⟨ret_bool ?_, hb1.trans ((Below.drewN' HX.out _).mono hb1.size)⟩
            exact (anyOfTake _ _ _ (by rw [HN.out, hq]; simp)).symm
        · go_quiet ((go_at_call 50; exact Calls.quiet_of_same (HQ.out _ _)))
          go_wp2
          go_roundw
          case rel => exact ⟨t + 1, by omega, by go_num, Below.drewN' HX.out _, by rw [HN.out, hno.out]; rfl⟩
          case measure => simp [intOf]; omega
    · have : t = c.M.length := by omega
      subst this
      go_wp2
      go_ret
      have := hno.out
      rw [List.take_of_length_le (Nat.le_refl _)] at this
      exact ⟨ret_bool this.symm, hb1.trans (hbel.mono hb1.size)⟩

end Go.Proofs.YtnieambhpmnliaaDoor
