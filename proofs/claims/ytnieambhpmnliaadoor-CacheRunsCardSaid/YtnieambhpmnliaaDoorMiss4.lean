/- The table of misses (mshr): slices.Insert, Add. -/
import Derived.Test.YtnieambhpmnliaaDoorMiss3
import Derived.Deep.RegionLaw
import Derived.Lib.Overlaps
namespace Go.Proofs.YtnieambhpmnliaaDoor
set_option linter.all false
set_option linter.unusedVariables false
set_option linter.unusedSimpArgs false
open Go Go.RowKit

theorem missCells_append (a b : List (Int × Int)) : missCells (a ++ b) = missCells a ++ missCells b := by simp [missCells]
theorem missCells_take (us : List (Int × Int)) (k : Nat) : missCells (us.take k) = (missCells us).take (k * 2) := by
  induction us generalizing k with
  | nil => simp [missCells]
  | cons a l ih =>
    cases k with
    | zero => simp [missCells]
    | succ k =>
      have : (k + 1) * 2 = k * 2 + 2 := by omega
      have hc : missCells (a :: l) = .int .i64 a.1 :: .int .i64 a.2 :: missCells l := by simp [missCells]
      have hd : missCells (a :: l.take k) = .int .i64 a.1 :: .int .i64 a.2 :: missCells (l.take k) := by simp [missCells]
      rw [List.take_succ_cons, hd, hc, this, ih]; rfl
theorem missCells_drop (us : List (Int × Int)) (k : Nat) : missCells (us.drop k) = (missCells us).drop (k * 2) := by
  induction us generalizing k with
  | nil => simp [missCells]
  | cons a l ih =>
    cases k with
    | zero => simp [missCells]
    | succ k =>
      have : (k + 1) * 2 = k * 2 + 2 := by omega
      have hc : missCells (a :: l) = .int .i64 a.1 :: .int .i64 a.2 :: missCells l := by simp [missCells]
      rw [List.drop_succ_cons, ih, hc, this]; rfl

/-- The cells of a list's part, at a block's head. -/
theorem cells_at {w : World} {lb : Nat} {T : TypeId} {c : List Value} (hb : Blk w lb T c) (o : Nat) (l : List Value) (h : l <+: c.drop o) : ∀ j u, l[j]? = some u → w.cell? ((⟨lb, o, none⟩ : Addr).add j) = some u := by
  intro j u hu
  obtain ⟨r, hr⟩ := h
  rw [Addr.add_lit, hb.cell]
  have h2 : (c.drop o)[j]? = some u := by
    rw [← hr, List.getElem?_append_left (by rw [List.getElem?_eq_some_iff] at hu; exact hu.1)]; exact hu
  rwa [List.getElem?_drop] at h2

theorem one2 (a b : Int) : ∀ u ∈ [Value.int .i64 a, Value.int .i64 b], u.oneCell' = true := by
  intro u hu
  simp at hu
  rcases hu with rfl | rfl <;> rfl

/-- What an insertion leaves. -/
def Ins (B : Nat) (L : List Nat) (us : List (Int × Int)) (w : World) (e : Ending) (w' : World) : Prop :=
  ∃ lv' cap', e = .returned (.slice lv' us.length cap') ∧ SlAt w' lv' us cap' ∧ (∀ a, lv' = some a → B ≤ a.block ∧ (a.block ∈ L ∨ w.heap.size ≤ a.block)) ∧ Fr B [97] w w' ∧ FrL L w w'

set_option maxHeartbeats 400000 in
/-- Behind all: append. -/
theorem insert_end (B : Nat) (L : List Nat) (us : List (Int × Int)) (x : Int × Int) (lv : Option Addr) (cap vb : Nat) (w : World) (hlen : us.length ≤ 1000) (hs : SlAt w lv us cap) (hB : B ≤ w.heap.size) (hBl : ∀ a, lv = some a → B ≤ a.block ∧ a.block ∈ L)
    (hv : Blk w vb 97 [.int .i64 x.1, .int .i64 x.2]) (hvl : ∀ a, lv = some a → a.block ≠ vb) :
    Calls Tryd.prog 55 #[.slice lv us.length cap, .int .i64 us.length, .slice (some ⟨vb, 0, none⟩) 1 1] w (Ins B L (us ++ [x]) w) := by
  have hx : missCells (us ++ [x]) = missCells us ++ [.int .i64 x.1, .int .i64 x.2] := by rw [missCells_append]; rfl
  have HX := Lib.hid hx
  have HV := Lib.hid hv
  clear hx hv
  rcases hs with ⟨rfl, rfl, rfl⟩ | ⟨lb, r, rfl, h2, h3, h4, h5⟩
  · go_enter Tryd.func55, Tryd.ntmps55
    go_wp2_with (at_builtin; refine wl_append_grow rfl (.tmp 23) (.tmp 24) _ _ 97 rfl Tryd.underlying45 2 16 _ missInfo rfl none 0 0 rfl (.slice (some ⟨vb, 0, none⟩) 1 1) 1 rfl [] [.int .i64 x.1, .int .i64 x.2] ?c1 ?c2 (by omega) (by omega) (by omega) (by omega) ?c3)
    case c1 => simp [Builtin.firstCells]
    case c2 => exact Src.ofSlice _ Tryd.underlying45 _ _ _ _ rfl (cells_at HV.out 0 _ ⟨[], rfl⟩) (one2 _ _)
    case c3 =>
      intro w1 cap' r' hb1 hsz hge hmax hr' hblk
      go_wp2
      go_ret
      exact ⟨_, cap', rfl, Or.inr ⟨_, r', rfl, by simpa [missCells] using hblk, hge, hmax, by rw [hr']; simp at hge ⊢; omega⟩, fun a h => by cases h; exact ⟨hB, Or.inr (Nat.le_refl _)⟩, Fr.below hb1 hB, FrL.below L hb1⟩
  · have H2 := Lib.hid h2
    clear h2
    by_cases hroom : us.length + 1 ≤ cap
    · go_enter Tryd.func55, Tryd.ntmps55
      go_wp2_with (at_builtin; refine wl_append_room rfl (.tmp 23) (.tmp 24) 45 45 97 rfl Tryd.underlying45 2 missSize lb us.length cap rfl ⟨vb, 0, none⟩ 1 1 rfl _ [.int .i64 x.1, .int .i64 x.2] H2.out rfl ?c1 (one2 _ _) hroom ?c2 ?c3)
      case c1 => exact cells_at HV.out 0 _ ⟨[], rfl⟩
      case c2 => first | (simp [missCells_length]; omega) | simp [missCells_length]
      case c3 =>
        intro w1 ho hblk
        go_wp2
        go_ret
        refine ⟨some ⟨lb, 0, none⟩, cap, by simp, Or.inr ⟨lb, r.drop 2, rfl, ?_, by simpa using hroom, h4, by simp; omega⟩, fun a h => ⟨(hBl a h).1, Or.inl (hBl a h).2⟩, ho.fr H2.out (by simp) (hBl _ rfl).1, ho.frl L (hBl _ rfl).2⟩
        have e1 : (missCells us ++ r).take (us.length * 2) = missCells us := by rw [List.take_append_of_le_length (by rw [missCells_length]; omega), List.take_of_length_le (by rw [missCells_length]; omega)]
        have e2 : (missCells us ++ r).drop (us.length * 2 + 2) = r.drop 2 := by rw [List.drop_append, List.drop_of_length_le (by rw [missCells_length]; omega), missCells_length]; simp; congr 1; omega
        rw [HX.out]
        simpa [e1, e2] using hblk
    · go_enter Tryd.func55, Tryd.ntmps55
      go_wp2_with (at_builtin; refine wl_append_grow rfl (.tmp 23) (.tmp 24) _ _ 97 rfl Tryd.underlying45 2 16 _ missInfo rfl (some ⟨lb, 0, none⟩) us.length cap rfl (.slice (some ⟨vb, 0, none⟩) 1 1) 1 rfl (missCells us) [.int .i64 x.1, .int .i64 x.2] ?c1 ?c2 (by omega) (by omega) (by omega) (by omega) ?c3)
      case c1 => exact run_firstCells_some _ 2 us.length ⟨lb, 0, none⟩ us.length cap _ (by rw [missCells_length]; omega) (cells_at (w := w.drew) (T := 97) (c := missCells us ++ r) H2.out 0 _ ⟨r, by simp⟩)
      case c2 => exact Src.ofSlice _ Tryd.underlying45 _ _ _ _ rfl (cells_at HV.out 0 _ ⟨[], rfl⟩) (one2 _ _)
      case c3 =>
        intro w1 cap' r' hb1 hsz hge hmax hr' hblk
        go_wp2
        go_ret
        exact ⟨_, cap', by simp; rfl, Or.inr ⟨_, r', rfl, by rw [HX.out]; simpa using hblk, by simpa using hge, hmax, by rw [hr']; simp; omega⟩, fun a h => by cases h; exact ⟨hB, Or.inr (Nat.le_refl _)⟩, Fr.below hb1 hB, FrL.below L hb1⟩

set_option maxRecDepth 100000 in
set_option maxHeartbeats 1000000 in
/-- In the midst, no room: a new block. -/
theorem insert_mid_grow (B : Nat) (L : List Nat) (us : List (Int × Int)) (pos : Nat) (x : Int × Int) (lb cap vb : Nat) (r : List Value) (w : World) (hlen : us.length ≤ 1000) (hpos : pos < us.length) (hB : B ≤ w.heap.size)
    (hb : Blk w lb 97 (missCells us ++ r)) (hcap : us.length ≤ cap) (hfull : cap < us.length + 1)
    (hv : Blk w vb 97 [.int .i64 x.1, .int .i64 x.2]) :
    Calls Tryd.prog 55 #[.slice (some ⟨lb, 0, none⟩) us.length cap, .int .i64 pos, .slice (some ⟨vb, 0, none⟩) 1 1] w (Ins B L (us.take pos ++ x :: us.drop pos) w) := by
  have hlbs := hb.lt
  have hvbs := hv.lt
  have HV := Lib.hid hv
  have HB := Lib.hid hb
  have n1 : ((pos : Int) == (us.length : Int)) = false := by simp; omega
  have n2 : ¬ cap = pos := by omega
  clear hv hb
  go_enter Tryd.func55, Tryd.ntmps55
  go_wp2_with (at_builtin; refine wl_append_zeros rfl (.tmp 34) (.tmp 39) _ _ 97 rfl Tryd.underlying45 Tryd.underlying3 2 16 _ missInfo rfl (by omega) (some ⟨lb, 0, none⟩) pos cap rfl (us.length + 1 - pos) (congrArg (Value.int .i64) (by omega)) ((missCells us).take (pos * 2)) ?c1 (by omega) (by omega) (by omega) (by omega) (by omega) ?c3)
  case c1 => exact run_firstCells_some _ 2 pos ⟨lb, 0, none⟩ pos cap _ (by simp [missCells_length]; omega) (cells_at (w := w.drew) (T := 97) (c := missCells us ++ r) HB.out 0 _ ⟨(missCells us).drop (pos * 2) ++ r, by rw [← List.append_assoc, List.take_append_drop]; rfl⟩)
  case c3 =>
    intro w1 cap' r' hb1 hsz hge hmax hr' hblk
    have hblk1 := Lib.hid hblk
    clear hblk
    have hln : pos + (us.length + 1 - pos) = us.length + 1 := by omega
    rw [hln] at hge ⊢
    clear hln
    have n3 : ¬ cap' = pos := by omega
    go_wp2_with (refine wl_copy rfl (.tmp 43) (.tmp 44) 45 45 97 rfl Tryd.underlying45 2 missSize w.heap.size (pos * 2) _ _ rfl ⟨vb, 0, none⟩ 1 1 rfl 1 (by omega) _ [.int .i64 x.1, .int .i64 x.2] hblk1.out rfl ?d2 (one2 _ _) ?d3 ?d4)
    case d2 => exact cells_at (HV.out.below hb1 hvbs) 0 _ ⟨[], rfl⟩
    case d3 => simp [missCells_length, hr']; omega
    case d4 =>
      intro w2 ho hblk2
      have hA : ((missCells us).take (pos * 2)).length = pos * 2 := by simp [missCells_length]; omega
      have hc2 : Blk w2 w.heap.size 97 ((missCells us).take (pos * 2) ++ ([.int .i64 x.1, .int .i64 x.2] ++ r'.drop 2)) := by
        have e1 : List.take (pos * 2) (List.take (pos * 2) (missCells us) ++ r') = (missCells us).take (pos * 2) := by rw [List.take_append_of_le_length (by omega), List.take_of_length_le (by omega)]
        have e2 : List.drop (pos * 2 + 2) (List.take (pos * 2) (missCells us) ++ r') = r'.drop 2 := by rw [List.drop_append, List.drop_of_length_le (by omega), hA]; simp
        rw [e1, e2] at hblk2
        simpa using hblk2
      have HC2 := Lib.hid hc2
      have HB2 := Lib.hid ((HB.out.below hb1 hlbs).below ho.below hlbs)
      have hfr := Fr.trans (Fr.below (S := [97]) hb1 hB) (ho.fr hblk1.out (by simp) hB)
      have hfl := FrL.trans' (FrL.below L hb1) (ho.frl [w.heap.size] (by simp)) (fun x hx => Or.inr (by simp at hx; omega))
      clear hblk2 hc2
      have n4 : ¬ cap' = pos + 1 := by omega
      go_wp2_with fail
      have hwr : IntKind.i64.wrap ((pos : Int) + 1) = (pos : Int) + 1 := by rw [IntKind.wrap_i64]; omega
      have hp0 : (0 : Int) ≤ (pos : Int) + 1 := by omega
      have hp1 : (pos : Int) + 1 ≤ ((us.length : Nat) : Int) + 1 := by omega
      have hp2 : ((pos : Int) + 1).toNat = pos + 1 := by omega
      have hp3 : pos ≤ us.length := by omega
      have s1 : Hid (((missCells us).drop (pos * 2)).length = (us.length - pos) * 2) := by simp [Hid, missCells_length]; omega
      have s2 : Hid (∀ j u, ((missCells us).drop (pos * 2))[j]? = some u → w2.drew.cell? ((⟨lb, pos * 2, none⟩ : Addr).add j) = some u) :=
        cells_at (HB2.out : Blk w2.drew _ _ _) _ _ ⟨r, by rw [List.drop_append_of_le_length (by rw [missCells_length]; omega)]⟩
      have s3 : Hid (∀ u ∈ (missCells us).drop (pos * 2), u.oneCell' = true) := fun u hu => missCells_one us u (List.mem_of_mem_drop hu)
      have s4 : Hid ((pos + 1) * 2 + ((missCells us).drop (pos * 2)).length ≤ ((missCells us).take (pos * 2) ++ ([Value.int .i64 x.1, Value.int .i64 x.2] ++ r'.drop 2)).length) := by
        rw [s1.out]; simp only [List.length_append, hA, List.length_drop, List.length_cons, List.length_nil, hr']; unfold Hid; omega
      go_region_law (refine step_copy rfl (.tmp 50) (.tmp 53) 45 45 97 rfl Tryd.underlying45 2 missSize w.heap.size ((pos + 1) * 2) (us.length + 1 - (pos + 1)) (cap' - (pos + 1)) (by simp [Act.eval, Act.put]) ⟨lb, pos * 2, none⟩ (us.length - pos) (cap - pos) (by simp [Act.eval, Act.put]) (us.length - pos) (by omega) _ ((missCells us).drop (pos * 2)) (HC2.out : Blk w2.drew _ _ _) s1.out s2.out s3.out s4.out ?_)
      go_wp2
      go_ret
      refine ⟨some ⟨w.heap.size, 0, none⟩, cap', by simp; omega, Or.inr ⟨w.heap.size, ((missCells us).take (pos * 2) ++ Value.int .i64 x.1 :: Value.int .i64 x.2 :: r'.drop 2).drop ((pos + 1) * 2 + ((missCells us).length - pos * 2)), rfl, Blk.setRow' (HC2.out : Blk w2.drew _ _ _) ?_, by simp; omega, hmax, ?_⟩, fun a h => by cases h; exact ⟨hB, Or.inr (Nat.le_refl _)⟩, (hfr.drew).trans ((Only.setRow w2.drew w.heap.size _).fr (HC2.out : Blk w2.drew _ _ _) (by simp) hB), (hfl.drew).trans' ((Only.setRow w2.drew w.heap.size _).frl [w.heap.size] (by simp)) (fun x hx => Or.inr (by simp at hx; omega))⟩
      · rw [missCells_append, missCells_take, show missCells (x :: us.drop pos) = Value.int .i64 x.1 :: Value.int .i64 x.2 :: missCells (us.drop pos) from by simp [missCells], missCells_drop]
        have e1 : ((missCells us).take (pos * 2) ++ Value.int .i64 x.1 :: Value.int .i64 x.2 :: r'.drop 2).take ((pos + 1) * 2) = (missCells us).take (pos * 2) ++ [Value.int .i64 x.1, Value.int .i64 x.2] := by
          rw [List.take_append, hA, List.take_of_length_le (by rw [hA]; omega), show (pos + 1) * 2 - pos * 2 = 2 by omega]; rfl
        rw [e1]; simp
      · simp [missCells_length, hr']; omega

theorem Blk.shape {w : World} {b : Nat} {T : TypeId} {c : List Value} (h : Blk w b T c) : w.shape? b = some (T, c.length) := by simp [World.shape?, show w.heap[b]? = _ from h]
theorem missSizeOf (w : World) : (Go.sizeOf 97).run Tryd.prog w = .ok 2 w := by
  obtain ⟨i, hi, hi1⟩ := Option.map_eq_some_iff.1 missSize
  simp [sizeOf, typeInfo, hi, hi1]

set_option maxRecDepth 100000 in
set_option maxHeartbeats 1000000 in
/-- In the midst, with room. -/
theorem insert_mid_room (B : Nat) (L : List Nat) (us : List (Int × Int)) (pos : Nat) (x : Int × Int) (lb cap vb : Nat) (r : List Value) (w : World) (hlen : us.length ≤ 1000) (hpos : pos < us.length) (hB : B ≤ lb) (hL : lb ∈ L)
    (hb : Blk w lb 97 (missCells us ++ r)) (hroom : us.length + 1 ≤ cap) (hcm : cap ≤ maxLen) (hr : 2 * us.length + r.length = 2 * cap)
    (hv : Blk w vb 97 [.int .i64 x.1, .int .i64 x.2]) (hne : vb ≠ lb) :
    Calls Tryd.prog 55 #[.slice (some ⟨lb, 0, none⟩) us.length cap, .int .i64 pos, .slice (some ⟨vb, 0, none⟩) 1 1] w (Ins B L (us.take pos ++ x :: us.drop pos) w) := by
  have hov : ∀ (off l c : Nat), (callFunc 80 #[.slice (some ⟨vb, 0, none⟩) 1 1, .slice (some ⟨lb, off, none⟩) l c]).run Tryd.prog w = .ok (.value (.bool false)) w := by
    intro off l c
    rw [run_callFunc_extern Tryd.func80 (by kernel_rfl) (by kernel_rfl) (by kernel_rfl) (e := Extern.SlicesOverlaps.overlaps #[45, 45] #[4]) (by kernel_rfl),
      Lib.run_overlaps_apart w 45 4 97 Tryd.underlying45 2 missSizeOf ⟨vb, 0, none⟩ ⟨lb, off, none⟩ 1 1 l c hne _ _ _ _ hv.shape hb.shape (by simp [missCells_length]; omega) (hv.free _) (hv.free _)]
    rfl
  have HV := Lib.hid hv
  have HB := Lib.hid hb
  have n1 : ((pos : Int) == (us.length : Int)) = false := by simp; omega
  have n2 : ¬ cap = pos := by omega
  have n4 : ¬ cap = pos + 1 := by omega
  have n5 : ¬ ((cap : Int) < (us.length : Int) + 1) := by omega
  have hwr : IntKind.i64.wrap ((pos : Int) + 1) = (pos : Int) + 1 := by rw [IntKind.wrap_i64]; omega
  have hp0 : (0 : Int) ≤ (pos : Int) + 1 := by omega
  have hp1 : (pos : Int) + 1 ≤ ((us.length : Nat) : Int) + 1 := by omega
  have hp2 : ((pos : Int) + 1).toNat = pos + 1 := by omega
  have hp3 : pos ≤ us.length := by omega
  clear hv hb
  go_enter Tryd.func55, Tryd.ntmps55
  have hA : ((missCells us).take (pos * 2)).length = pos * 2 := by simp [missCells_length]; omega
  have hr2 : 2 ≤ r.length := by omega
  have hp4 : (pos : Int) ≤ ((us.length : Nat) : Int) + 1 := by omega
  go_wp2_with fail
  have s1 : Hid (((missCells us).drop (pos * 2)).length = (us.length - pos) * 2) := by simp [Hid, missCells_length]; omega
  have s2 : Hid (∀ j u, ((missCells us).drop (pos * 2))[j]? = some u → w.drew.cell? ((⟨lb, pos * 2, none⟩ : Addr).add j) = some u) :=
    cells_at (HB.out : Blk w.drew _ _ _) _ _ ⟨r, by rw [List.drop_append_of_le_length (by rw [missCells_length]; omega)]⟩
  have s3 : Hid (∀ u ∈ (missCells us).drop (pos * 2), u.oneCell' = true) := fun u hu => missCells_one us u (List.mem_of_mem_drop hu)
  have s4 : Hid ((pos + 1) * 2 + ((missCells us).drop (pos * 2)).length ≤ (missCells us ++ r).length) := by
    rw [s1.out]; simp only [List.length_append, missCells_length]; unfold Hid; omega
  go_region_law (refine step_copy rfl (.tmp 73) (.tmp 76) 45 45 97 rfl Tryd.underlying45 2 missSize lb ((pos + 1) * 2) (us.length - pos) (cap - (pos + 1)) (by simp [Act.eval, Act.put]) ⟨lb, pos * 2, none⟩ (us.length + 1 - pos) (cap - pos) (by simp [Act.eval, Act.put]) (us.length - pos) (by omega) _ ((missCells us).drop (pos * 2)) (HB.out : Blk w.drew _ _ _) s1.out s2.out s3.out s4.out ?_)
  have e2 : (missCells us ++ r).drop ((pos + 1) * 2 + ((missCells us).length - pos * 2)) = r.drop 2 := by rw [List.drop_append, List.drop_of_length_le (by rw [missCells_length]; omega), missCells_length]; simp; congr 1; omega
  have e3 : (missCells us ++ r).take ((pos + 1) * 2) = (missCells us).take ((pos + 1) * 2) := by rw [List.take_append_of_le_length (by rw [missCells_length]; omega)]
  have hb2 : Blk (w.drew.setRow lb ((missCells us ++ r).take ((pos + 1) * 2) ++ ((missCells us).drop (pos * 2) ++ (missCells us ++ r).drop ((pos + 1) * 2 + ((missCells us).length - pos * 2)))).toArray) lb 97 ((missCells us).take ((pos + 1) * 2) ++ ((missCells us).drop (pos * 2) ++ r.drop 2)) :=
    Blk.setRow' (HB.out : Blk w.drew _ _ _) (by rw [e2, e3])
  have o2 := Only.setRow w.drew lb ((missCells us ++ r).take ((pos + 1) * 2) ++ ((missCells us).drop (pos * 2) ++ (missCells us ++ r).drop ((pos + 1) * 2 + ((missCells us).length - pos * 2)))).toArray
  have v2 := o2.blk (HV.out : Blk w.drew _ _ _) hne
  have HB2 := Lib.hid hb2
  have HV2 := Lib.hid v2
  have HO2 := Lib.hid o2
  clear hb2 v2 o2 e2 e3
  generalize w.drew.setRow lb _ = w2 at HB2 HV2 HO2 ⊢
  go_wp2_with (refine wl_copy rfl (.tmp 80) (.tmp 81) 45 45 97 rfl Tryd.underlying45 2 missSize lb (pos * 2) _ _ rfl ⟨vb, 0, none⟩ 1 1 rfl 1 (by omega) _ [.int .i64 x.1, .int .i64 x.2] HB2.out rfl ?d2 (one2 _ _) ?d3 ?d4)
  case d2 => exact cells_at HV2.out 0 _ ⟨[], rfl⟩
  case d3 => simp [missCells_length]; omega
  case d4 =>
    intro w3 ho3 hblk
    go_wp2
    go_ret
    refine ⟨some ⟨lb, 0, none⟩, cap, by simp; omega, Or.inr ⟨lb, r.drop 2, rfl, ?_, by simp; omega, hcm, by simp; omega⟩, fun a h => by cases h; exact ⟨hB, Or.inl hL⟩, (Fr.refl B _ w).drew.trans ((HO2.out.trans ho3).fr (HB.out : Blk w.drew _ _ _) (by simp) hB), (FrL.refl L w).drew.trans ((HO2.out.trans ho3).frl L hL)⟩
    have e1 : ((missCells us).take ((pos + 1) * 2) ++ ((missCells us).drop (pos * 2) ++ r.drop 2)).take (pos * 2) = (missCells us).take (pos * 2) := by
      rw [List.take_append_of_le_length (by simp [missCells_length]; omega), List.take_take]; congr 1; omega
    have e2 : ((missCells us).take ((pos + 1) * 2) ++ ((missCells us).drop (pos * 2) ++ r.drop 2)).drop (pos * 2 + 2) = (missCells us).drop (pos * 2) ++ r.drop 2 := by
      rw [List.drop_append, List.drop_of_length_le (by simp; omega)]
      simp only [List.length_take, missCells_length, List.nil_append]
      rw [show pos * 2 + 2 - min ((pos + 1) * 2) (2 * us.length) = 0 by omega]; rfl
    rw [missCells_append, missCells_take, show missCells (x :: us.drop pos) = Value.int .i64 x.1 :: Value.int .i64 x.2 :: missCells (us.drop pos) from by simp [missCells], missCells_drop]
    have hblk' := hblk
    rw [e1] at hblk'
    simp only [List.length_cons, List.length_nil, Nat.zero_add, Nat.reduceAdd, e2] at hblk'
    simpa using hblk'

end Go.Proofs.YtnieambhpmnliaaDoor
