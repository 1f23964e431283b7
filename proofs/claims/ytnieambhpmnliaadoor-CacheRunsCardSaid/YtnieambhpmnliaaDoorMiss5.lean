/- The table of misses (mshr): Insert as one, Delete. -/
import Derived.Test.YtnieambhpmnliaaDoorMiss4
namespace Go.Proofs.YtnieambhpmnliaaDoor
set_option linter.all false
set_option linter.unusedVariables false
set_option linter.unusedSimpArgs false
open Go Go.RowKit

theorem insert_calls (B : Nat) (L : List Nat) (us : List (Int × Int)) (pos : Nat) (x : Int × Int) (lv : Option Addr) (cap vb : Nat) (w : World) (hlen : us.length ≤ 1000) (hpos : pos ≤ us.length) (hs : SlAt w lv us cap) (hB : B ≤ w.heap.size) (hBl : ∀ a, lv = some a → B ≤ a.block ∧ a.block ∈ L)
    (hv : Blk w vb 97 [.int .i64 x.1, .int .i64 x.2]) (hvl : ∀ a, lv = some a → a.block ≠ vb) :
    Calls Tryd.prog 55 #[.slice lv us.length cap, .int .i64 pos, .slice (some ⟨vb, 0, none⟩) 1 1] w (Ins B L (us.take pos ++ x :: us.drop pos) w) := by
  by_cases he : pos = us.length
  · subst he
    rw [List.take_of_length_le (Nat.le_refl _), List.drop_of_length_le (Nat.le_refl _)]
    exact insert_end B L us x lv cap vb w hlen hs hB hBl hv hvl
  · rcases hs with ⟨rfl, rfl, rfl⟩ | ⟨lb, r, rfl, h2, h3, h4, h5⟩
    · simp at hpos; simp [hpos] at he
    · by_cases hroom : us.length + 1 ≤ cap
      · exact insert_mid_room B L us pos x lb cap vb r w hlen (by omega) (hBl _ rfl).1 (hBl _ rfl).2 h2 hroom h4 h5 hv (fun h => hvl _ rfl h.symm)
      · exact insert_mid_grow B L us pos x lb cap vb r w hlen (by omega) hB h2 h3 (by omega) hv

theorem delete_cells (us : List (Int × Int)) (pos : Nat) (r zs : List Value) (hpos : pos < us.length) :
    ((missCells us).take (pos * 2) ++ (missCells us).drop ((pos + 1) * 2)) = missCells (us.take pos ++ us.drop (pos + 1)) ∧
    ((missCells us ++ r).take (pos * 2) ++ (missCells us).drop ((pos + 1) * 2) ++ (missCells us ++ r).drop (pos * 2 + ((missCells us).drop ((pos + 1) * 2)).length)).take ((us.length - 1) * 2) = missCells (us.take pos ++ us.drop (pos + 1)) := by
  have h1 : ((missCells us).take (pos * 2) ++ (missCells us).drop ((pos + 1) * 2)) = missCells (us.take pos ++ us.drop (pos + 1)) := by
    rw [missCells_append, missCells_take, missCells_drop]
  refine ⟨h1, ?_⟩
  rw [List.take_append_of_le_length (l₁ := missCells us) (by rw [missCells_length]; omega), h1, List.take_append_of_le_length (by rw [missCells_length]; simp; omega), List.take_of_length_le (by rw [missCells_length]; simp; omega)]

set_option maxHeartbeats 1000000 in
theorem delete_calls (B : Nat) (L : List Nat) (us : List (Int × Int)) (pos lb cap : Nat) (r : List Value) (w : World) (hlen : us.length ≤ 1000) (hpos : pos < us.length) (hB : B ≤ lb) (hL : lb ∈ L)
    (hb : Blk w lb 97 (missCells us ++ r)) (hcap : us.length ≤ cap) (hcm : cap ≤ maxLen) (hr : 2 * us.length + r.length = 2 * cap) (hne : ¬ cap = pos + 1) :
    Calls Tryd.prog 58 #[.slice (some ⟨lb, 0, none⟩) us.length cap, .int .i64 pos, .int .i64 ((pos : Int) + 1)] w
      fun e w' => e = .returned (.slice (some ⟨lb, 0, none⟩) (us.length - 1) cap) ∧ SlAt w' (some ⟨lb, 0, none⟩) (us.take pos ++ us.drop (pos + 1)) cap ∧ Fr B [97] w w' ∧ FrL L w w' := by
  have HB := Lib.hid hb
  have hp0 : (0 : Int) ≤ (pos : Int) + 1 := by omega
  have hp1 : (pos : Int) + 1 ≤ ((us.length : Nat) : Int) := by omega
  have hp2 : ((pos : Int) + 1).toNat = pos + 1 := by omega
  have hp3 : pos ≤ us.length := by omega
  have hp4 : ((pos : Int) == (pos : Int) + 1) = false := by simp; omega
  have hp5 : (pos : Int) ≤ (cap : Int) := by omega
  have hp6 : (pos : Int) ≤ (pos : Int) + 1 := by omega
  have hp7 : (us.length : Int) ≤ (cap : Int) := by omega
  clear hb
  go_enter Tryd.func58, Tryd.ntmps58
  go_wp2_with fail
  have s1 : Hid (((missCells us).drop ((pos + 1) * 2)).length = (us.length - (pos + 1)) * 2) := by simp [Hid, missCells_length]; omega
  have s2 : Hid (∀ j u, ((missCells us).drop ((pos + 1) * 2))[j]? = some u → w.drew.cell? ((⟨lb, (pos + 1) * 2, none⟩ : Addr).add j) = some u) :=
    cells_at (HB.out : Blk w.drew _ _ _) _ _ ⟨r, by rw [List.drop_append_of_le_length (by rw [missCells_length]; omega)]⟩
  have s3 : Hid (∀ u ∈ (missCells us).drop ((pos + 1) * 2), u.oneCell' = true) := fun u hu => missCells_one us u (List.mem_of_mem_drop hu)
  have s4 : Hid (pos * 2 + ((missCells us).drop ((pos + 1) * 2)).length ≤ (missCells us ++ r).length) := by
    rw [s1.out]; simp only [List.length_append, missCells_length]; unfold Hid; omega
  go_region_law (refine step_append rfl (.tmp 22) (.tmp 25) 45 97 rfl Tryd.underlying45 2 missSize lb pos cap (by simp [Act.eval, Act.put]) ⟨lb, (pos + 1) * 2, none⟩ (us.length - (pos + 1)) (cap - (pos + 1)) (by simp [Act.eval, Act.put]) _ ((missCells us).drop ((pos + 1) * 2)) (HB.out : Blk w.drew _ _ _) s1.out s2.out s3.out (by omega) s4.out ?_)
  have e1 : (missCells us ++ r).take (pos * 2) ++ ((missCells us).drop ((pos + 1) * 2) ++ (missCells us ++ r).drop (pos * 2 + ((missCells us).length - (pos + 1) * 2))) = missCells (us.take pos ++ us.drop (pos + 1)) ++ (missCells us ++ r).drop (pos * 2 + ((missCells us).length - (pos + 1) * 2)) := by
    rw [List.take_append_of_le_length (l₁ := missCells us) (by rw [missCells_length]; omega), ← List.append_assoc, missCells_append, missCells_take, missCells_drop]
  have hb2 : Blk (w.drew.setRow lb ((missCells us ++ r).take (pos * 2) ++ ((missCells us).drop ((pos + 1) * 2) ++ (missCells us ++ r).drop (pos * 2 + ((missCells us).length - (pos + 1) * 2)))).toArray) lb 97 (missCells (us.take pos ++ us.drop (pos + 1)) ++ (missCells us ++ r).drop (pos * 2 + ((missCells us).length - (pos + 1) * 2))) :=
    Blk.setRow' (HB.out : Blk w.drew _ _ _) e1.symm
  have o2 := Only.setRow w.drew lb ((missCells us ++ r).take (pos * 2) ++ ((missCells us).drop ((pos + 1) * 2) ++ (missCells us ++ r).drop (pos * 2 + ((missCells us).length - (pos + 1) * 2)))).toArray
  have HB2 := Lib.hid hb2
  have HO2 := Lib.hid o2
  clear hb2 o2 e1
  generalize w.drew.setRow lb _ = w2 at HB2 HO2 ⊢
  have hl : pos + (us.length - (pos + 1)) = us.length - 1 := by omega
  have hl2 : (missCells (us.take pos ++ us.drop (pos + 1))).length = (us.length - 1) * 2 := by rw [missCells_length]; simp; omega
  have hl3 : ((us.length - 1 : Nat) : Int) ≤ (us.length : Int) := by omega
  have hl4 : us.length - (us.length - 1) = 1 := by omega
  have hl5 : ¬ cap = us.length - 1 := by omega
  rw [hl]
  go_wp2_with (refine wl_clear rfl (.tmp 31) 45 97 rfl Tryd.underlying45 2 16 _ missInfo rfl ?d1 lb ((us.length - 1) * 2) 0 _ rfl _ HB2.out ?d2 ?d3)
  case d1 => intro u hu; simp [Value.cells] at hu; subst hu; rfl
  case d2 => simp [hl2, missCells_length]; omega
  case d3 =>
    intro w3 ho3 zs hz hblk
    go_wp2
    go_ret
    refine ⟨rfl, Or.inr ⟨lb, zs ++ ((missCells us ++ r).drop (pos * 2 + ((missCells us).length - (pos + 1) * 2))).drop 2, rfl, ?_, by simp; omega, hcm, ?_⟩, (Fr.refl B _ w).drew.trans ((HO2.out.trans ho3).fr (HB.out : Blk w.drew _ _ _) (by simp) hB), (FrL.refl L w).drew.trans ((HO2.out.trans ho3).frl L hL)⟩
    · have e3 : ∀ l : List Value, List.drop ((us.length - 1) * 2 + 2) (missCells (List.take pos us ++ List.drop (pos + 1) us) ++ l) = l.drop 2 := fun l => by
        rw [List.drop_append, List.drop_of_length_le (l := missCells (List.take pos us ++ List.drop (pos + 1) us)) (by omega), hl2, show (us.length - 1) * 2 + 2 - (us.length - 1) * 2 = 2 by omega]; rfl
      have hblk' := hblk
      simp only [Nat.reduceAdd, Nat.reduceMul, Nat.zero_add, e3] at hblk'
      simpa using hblk'
    · simp [hz, missCells_length]; omega


set_option maxHeartbeats 1000000 in
/-- The last one of a list that has no room behind it. -/
theorem delete_full (B : Nat) (L : List Nat) (us : List (Int × Int)) (pos lb : Nat) (w : World) (hlen : us.length ≤ 1000) (hpos : us.length = pos + 1) (hB : B ≤ lb) (hL : lb ∈ L)
    (hb : Blk w lb 97 (missCells us)) (hcm : pos + 1 ≤ maxLen) :
    Calls Tryd.prog 58 #[.slice (some ⟨lb, 0, none⟩) (pos + 1) (pos + 1), .int .i64 pos, .int .i64 ((pos : Int) + 1)] w
      fun e w' => e = .returned (.slice (some ⟨lb, 0, none⟩) pos (pos + 1)) ∧ SlAt w' (some ⟨lb, 0, none⟩) (us.take pos) (pos + 1) ∧ Fr B [97] w w' ∧ FrL L w w' := by
  have HB := Lib.hid hb
  have hp0 : (0 : Int) ≤ (pos : Int) + 1 := by omega
  have hp2 : ((pos : Int) + 1).toNat = pos + 1 := by omega
  have hp4 : ((pos : Int) == (pos : Int) + 1) = false := by simp; omega
  have hp5 : (pos : Int) ≤ (pos : Int) + 1 := by omega
  have hl2 : ((missCells us).take (pos * 2)).length = pos * 2 := by rw [List.length_take, missCells_length]; omega
  clear hb
  go_enter Tryd.func58, Tryd.ntmps58
  go_wp2_with fail
  go_region_law (refine step_append rfl (.tmp 22) (.tmp 25) 45 97 rfl Tryd.underlying45 2 missSize lb pos (pos + 1) (by simp [Act.eval, Act.put]) ⟨lb, 0, none⟩ 0 0 (by simp [Act.eval, Act.put]) _ [] (HB.out : Blk w.drew _ _ _) rfl (fun j u h => by simp at h) (fun u h => by simp at h) (by omega) (by simp [missCells_length]; omega) ?_)
  have hb2 : Blk (w.drew.setRow lb (missCells us).toArray) lb 97 (missCells us) := Blk.setRow (HB.out : Blk w.drew _ _ _)
  have HB2 := Lib.hid hb2
  have HO2 := Lib.hid (Only.setRow w.drew lb (missCells us).toArray)
  clear hb2
  generalize w.drew.setRow lb _ = w2 at HB2 HO2 ⊢
  go_wp2_with (refine wl_clear rfl (.tmp 31) 45 97 rfl Tryd.underlying45 2 16 _ missInfo rfl ?d1 lb (pos * 2) 0 1 (by simp [Act.eval]) _ HB2.out ?d2 ?d3)
  case d1 => intro u hu; simp [Value.cells] at hu; subst hu; rfl
  case d2 => simp [missCells_length]; omega
  case d3 =>
    intro w3 ho3 zs hz hblk
    go_wp2
    go_ret
    refine ⟨rfl, Or.inr ⟨lb, zs, rfl, ?_, by simp; omega, hcm, ?_⟩, (Fr.refl B _ w).drew.trans ((HO2.out.trans ho3).fr (HB.out : Blk w.drew _ _ _) (by simp) hB), (FrL.refl L w).drew.trans ((HO2.out.trans ho3).frl L hL)⟩
    · rw [missCells_take]
      have e3 : List.drop (pos * 2 + 2) (missCells us) = [] := List.drop_of_length_le (by rw [missCells_length]; omega)
      have hblk' := hblk
      simp only [Nat.reduceAdd, Nat.reduceMul, Nat.zero_add, e3] at hblk'
      simpa using hblk'
    · simp [hz]; omega

/-- The list without what stands at a place. -/
theorem delete_any (B : Nat) (L : List Nat) (us : List (Int × Int)) (pos : Nat) (lv : Option Addr) (cap : Nat) (w : World) (hlen : us.length ≤ 1000) (hpos : pos < us.length) (hs : SlAt w lv us cap) (hBl : ∀ a, lv = some a → B ≤ a.block ∧ a.block ∈ L) :
    Calls Tryd.prog 58 #[.slice lv us.length cap, .int .i64 pos, .int .i64 ((pos : Int) + 1)] w
      (Ins B L (us.take pos ++ us.drop (pos + 1)) w) := by
  rcases hs with ⟨rfl, rfl, rfl⟩ | ⟨lb, r, rfl, h2, h3, h4, h5⟩
  · simp at hpos
  · by_cases hc : cap = pos + 1
    · have hl : us.length = pos + 1 := by omega
      have hr : r = [] := List.eq_nil_of_length_eq_zero (by omega)
      subst hr
      rw [hl, hc]
      refine (delete_full B L us pos lb w hlen hl (hBl _ rfl).1 (hBl _ rfl).2 (by simpa using h2) (by omega)).mono ?_
      rintro e w' ⟨rfl, h, hf, hfl⟩
      rw [List.drop_of_length_le (by omega), List.append_nil]
      exact ⟨_, _, by rw [List.length_take, show min pos us.length = pos by omega], h, fun a ha => ⟨(hBl a ha).1, Or.inl (hBl a ha).2⟩, hf, hfl⟩
    · refine (delete_calls B L us pos lb cap r w hlen hpos (hBl _ rfl).1 (hBl _ rfl).2 h2 h3 h4 h5 hc).mono ?_
      rintro e w' ⟨rfl, h, hf, hfl⟩
      refine ⟨_, _, by rw [show (us.take pos ++ us.drop (pos + 1)).length = us.length - 1 by simp; omega], h, fun a ha => ⟨(hBl a ha).1, Or.inl (hBl a ha).2⟩, hf, hfl⟩

end Go.Proofs.YtnieambhpmnliaaDoor
