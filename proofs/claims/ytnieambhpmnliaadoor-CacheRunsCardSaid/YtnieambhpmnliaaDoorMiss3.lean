/- The table of misses (mshr): Clone, List. -/
import Derived.Test.YtnieambhpmnliaaDoorMiss2
import Derived.Test.YtnieambhpmnliaaDoorRules
namespace Go.Proofs.YtnieambhpmnliaaDoor
set_option linter.all false
set_option linter.unusedVariables false
set_option linter.unusedSimpArgs false
open Go Go.RowKit

theorem missInfo : (Tryd.prog.info? 97).map (fun i => (i.zero, i.size, i.bytes)) = some (some (.agg #[.int .i64 0, .int .i64 0]), 2, 16) := by kernel_rfl
theorem missSize : (Tryd.prog.info? 97).map (·.size) = some 2 := by kernel_rfl
theorem missCells_one (us : List (Int × Int)) : ∀ u ∈ missCells us, u.oneCell' = true := by
  intro u hu
  simp [missCells, List.mem_flatMap] at hu
  obtain ⟨a, b, _, h | h⟩ := hu <;> subst h <;> rfl

set_option maxHeartbeats 400000 in
theorem clone_calls (us : List (Int × Int)) (lv : Option Addr) (cap : Nat) (w : World) (hlen : us.length ≤ 1000) (hs : SlAt w lv us cap) :
    Calls Tryd.prog 69 #[.slice lv us.length cap] w fun e w' => ∃ lv' cap', e = .returned (.slice lv' us.length cap') ∧ SlAt w' lv' us cap' ∧ Below w.heap.size w w' := by
  have hq := fun (w : World) (a : Option Addr) (l c : Nat) => Lib.run_eql_slice_nil (P := Tryd.prog) w 45 97 a l c 0 0 Tryd.underlying45
  rcases hs with ⟨rfl, rfl, rfl⟩ | ⟨lb, r, rfl, h2, h3⟩
  · go_enter Tryd.func69, Tryd.ntmps69
    go_wp2
    go_ret
    exact ⟨none, 0, rfl, Or.inl ⟨rfl, rfl, rfl⟩, Below.refl _ _⟩
  · have hcells : ∀ (w1 : World), Blk w1 lb 97 (missCells us ++ r) → ∀ j u, (missCells us)[j]? = some u → w1.cell? ((⟨lb, 0, none⟩ : Addr).add j) = some u := by
      intro w1 hb j u hu
      rw [Addr.add_lit, Nat.zero_add, hb.cell]
      rw [List.getElem?_append_left (by rw [List.getElem?_eq_some_iff] at hu; exact hu.1)]; exact hu
    have hne : lb < w.heap.size := h2.lt
    have H2 := Lib.hid h2
    have HC := Lib.hid hcells
    clear h2 hcells
    by_cases hz : 0 < us.length
    · go_enter Tryd.func69, Tryd.ntmps69
      go_wp2_with (at_builtin; refine wl_append_grow rfl (.tmp 5) (.tmp 6) _ _ 97 rfl Tryd.underlying45 2 16 _ missInfo rfl (some ⟨w.heap.size, 0, none⟩) 0 0 rfl (.slice (some ⟨lb, 0, none⟩) us.length cap) us.length rfl [] (missCells us) ?c1 ?c2 (by omega) (by omega) (by omega) (by omega) ?c3)
      case c1 => simp [Builtin.firstCells, loadCells, loadCellsFrom]
      case c2 => exact Src.ofSlice _ Tryd.underlying45 _ _ _ _ (by rw [missCells_length]; omega) (HC.out _ (H2.out.below ((Below.refl _ _).alloc (Nat.le_refl _) _) hne)) (missCells_one us)
      case c3 =>
        intro w1 cap' r' hb1 hsz hge hmax hr' hblk
        go_wp2
        go_ret
        refine ⟨some ⟨_, 0, none⟩, cap', by rfl, Or.inr ⟨_, r', rfl, hblk, hge, hmax, by rw [hr']; omega⟩, ((Below.refl _ _).alloc (Nat.le_refl _) _).trans (hb1.mono (by simp))⟩
    · obtain rfl : us = [] := by cases us with | nil => rfl | cons a l => simp at hz
      go_enter Tryd.func69, Tryd.ntmps69
      go_wp2_with (at_builtin; refine wl_append_room rfl (.tmp 5) (.tmp 6) 45 45 97 rfl Tryd.underlying45 2 missSize w.heap.size 0 0 rfl ⟨lb, 0, none⟩ 0 cap rfl [] [] ?c1 rfl (fun j u h => by simp at h) (fun u h => by simp at h) (Nat.le_refl _) (Nat.le_refl _) ?c3)
      case c1 => exact heap_alloc_new w _
      case c3 =>
        intro w1 ho hblk
        go_wp2
        go_ret
        have hb := (Below.refl w.heap.size w).alloc (Nat.le_refl _) (.cells #[] 97)
        exact ⟨some ⟨_, 0, none⟩, 0, rfl, Or.inr ⟨_, [], rfl, by simpa [missCells] using hblk, by simp, by simp, by simp⟩, hb.trans ho.below⟩

set_option maxHeartbeats 400000 in
theorem mlist_calls (us : List (Int × Int)) (most : Int) (tb : Nat) (w : World) (hlen : us.length ≤ 1000) (h : TabAt w tb most us) :
    Calls Tryd.prog 44 #[.pointer (some ⟨tb, 0, none⟩)] w fun e w' => ∃ lv' cap', e = .returned (.slice lv' us.length cap') ∧ SlAt w' lv' us cap' ∧ Below w.heap.size w w' := by
  obtain ⟨lv, cap, hb, hs⟩ := h
  have c1 := hb.cell 1
  simp at c1
  have HC := Lib.hid (clone_calls us lv cap w hlen hs)
  clear hs hb
  go_enter Tryd.func44, Tryd.ntmps44
  go_wp2_with fail
  refine HC.out.mono ?_
  rintro e w1 ⟨lv', cap', rfl, hs1, hb1⟩
  have HS := Lib.hid hs1
  clear hs1
  go_wp2
  go_ret
  exact ⟨lv', cap', rfl, HS.out, hb1⟩

end Go.Proofs.YtnieambhpmnliaaDoor
