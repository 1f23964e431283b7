/- The lines of a cache (array): free, Room, Put, Drop. -/
import Derived.Test.YtnieambhpmnliaaDoorArr2
import Derived.Test.YtnieambhpmnliaaDoorPlru
import Derived.Deep.RegionWith
namespace Go.Proofs.YtnieambhpmnliaaDoor
set_option linter.all false
set_option linter.unusedVariables false
set_option linter.unusedSimpArgs false
open Go Go.RowKit

/-! ### an array with one set turned -/
theorem setCells_same (A : Sets) (wbs : List Nat) (i : Nat) (s : Int × List Ent) (h : i < A.length) (h1 : s.1 = A[i].1) (h2 : s.2.length = A[i].2.length) : setCells (A.set i s) wbs = setCells A wbs := by
  induction A generalizing wbs i with
  | nil => simp at h
  | cons a A ih =>
    cases wbs with
    | nil => cases i <;> simp [setCells]
    | cons b wbs =>
      cases i with
      | zero => simp at h1 h2; simp [setCells, h1, h2]
      | succ i => simp [setCells, ih wbs i (by simpa using h) (by simpa using h1) (by simpa using h2)]
theorem setCells_bits (A : Sets) (wbs : List Nat) (i : Nat) (s : Int × List Ent) (h : i < A.length) (h' : wbs.length = A.length) (h2 : s.2.length = A[i].2.length) : setCells (A.set i s) wbs = (setCells A wbs).set (i * 2) (.int .u8 s.1) := by
  induction A generalizing wbs i with
  | nil => simp at h
  | cons a A ih =>
    cases wbs with
    | nil => simp at h'
    | cons b wbs =>
      cases i with
      | zero => simp at h2; simp [setCells, h2]
      | succ i =>
        have e : (i + 1) * 2 = i * 2 + 2 := by omega
        simp [setCells, e, ih wbs i (by simpa using h) (by simpa using h') (by simpa using h2)]
theorem entCells_set (es : List Ent) (j : Nat) (e : Ent) (h : j < es.length) : (entCells es).take (j * 10) ++ e.cells ++ (entCells es).drop (j * 10 + e.cells.length) = entCells (es.set j e) := by
  have hl : e.cells.length = 10 := rfl
  rw [hl]
  induction es generalizing j with
  | nil => simp at h
  | cons a es ih =>
    cases j with
    | zero => simp [entCells_cons, Ent.cells]
    | succ j =>
      have ha : a.cells.length = 10 := rfl
      have e1 : (j + 1) * 10 = 10 + j * 10 := by omega
      have e2 : (j + 1) * 10 + 10 = 10 + (j * 10 + 10) := by omega
      rw [List.set_cons_succ, entCells_cons, entCells_cons, e2, e1, ← ha, List.drop_append, List.take_length_add_append, ha]
      rw [List.drop_of_length_le (l := a.cells) (by rw [ha]; omega), show 10 + (j * 10 + 10) - 10 = j * 10 + 10 by omega, List.nil_append, List.append_assoc, List.append_assoc, ← List.append_assoc _ e.cells, ih j (by simpa using h)]

theorem nodup_inj {l : List Nat} (h : l.Nodup) (i j : Nat) (hi : i < l.length) (hj : j < l.length) (e : l[i] = l[j]) : i = j := by
  have hp := List.pairwise_iff_getElem.1 h
  rcases Nat.lt_trichotomy i j with h1 | h1 | h1
  · exact absurd e (hp i j hi hj h1)
  · exact h1
  · exact absurd e.symm (hp j i hj hi h1)
/-- The array with a line's set turned. -/
def setRowA (A : Sets) (line : Int) (s : Int × List Ent) : Sets := A.set (setNo A line) s

theorem ArrR.mem {B} {w : World} {ab sb wbs n k A} (h : ArrR B w ab sb wbs A) (hok : AOk n k A) (line : Int) : wbOf wbs A line ∈ wbs := by
  have hs' : setNo A line < wbs.length := by rw [h.len]; exact setNo_lt hok
  have ew : wbOf wbs A line = wbs[setNo A line] := by unfold wbOf; rw [List.getD_eq_getElem?_getD, List.getElem?_eq_getElem hs']; rfl
  rw [ew]; exact List.getElem_mem hs'
theorem ArrR.ents {B} {w w' : World} {ab sb wbs n k A} (h : ArrR B w ab sb wbs A) (hok : AOk n k A) (line : Int) (es : List Ent) (hl : es.length = (waysOf A line).length) (ho : Only (wbOf wbs A line) w w')
    (hb : Blk w' (wbOf wbs A line) 69 (entCells es)) : ArrR B w' ab sb wbs (setRowA A line (bitsOf A line, es)) := by
  have hs := setNo_lt (line := line) hok
  have hs' : setNo A line < wbs.length := by rw [h.len]; exact hs
  have ew : wbOf wbs A line = wbs[setNo A line] := by unfold wbOf; rw [List.getD_eq_getElem?_getD, List.getElem?_eq_getElem hs']; rfl
  have hr := h.row hok line
  unfold setRowA
  refine ⟨h.hab, h.hsb, by simpa using h.len, ?_, ?_, fun i hi hi' => ?_, h.nd⟩
  · have := ho.blk h.ba (h.ba.ne hr.bw (by decide))
    simpa using this
  · rw [setCells_same A wbs _ (bitsOf A line, es) hs (bitsOf_eq hs) (by rw [← waysOf_eq hs]; exact hl)]
    exact ho.blk h.bs (h.bs.ne hr.bw (by decide))
  · have hi2 : i < A.length := by simpa using hi
    refine ⟨(h.bw i hi2 hi').1, ?_⟩
    by_cases e : i = setNo A line
    · subst e
      rw [← ew]
      simpa using hb
    · have hne : wbs[i] ≠ wbOf wbs A line := by
        rw [ew]; intro he
        exact e (nodup_inj h.nd _ _ hi' hs' he)
      rw [List.getElem_set_ne (Ne.symm e)]
      exact ho.blk (h.bw i hi2 hi').2 hne
theorem ArrR.bitsTurn {B} {w w' : World} {ab sb wbs n k A} (h : ArrR B w ab sb wbs A) (hok : AOk n k A) (line : Int) (b : Int) (ho : Only sb w w')
    (hb : Blk w' sb 92 ((setCells A wbs).set (setNo A line * 2) (.int .u8 b))) : ArrR B w' ab sb wbs (setRowA A line (b, waysOf A line)) := by
  have hs := setNo_lt (line := line) hok
  unfold setRowA
  refine ⟨h.hab, h.hsb, by simpa using h.len, ?_, ?_, fun i hi hi' => ?_, h.nd⟩
  · have := ho.blk h.ba (h.ba.ne h.bs (by decide))
    simpa using this
  · rw [setCells_bits A wbs _ (b, waysOf A line) hs h.len (by rw [waysOf_eq hs])]
    exact hb
  · have hi2 : i < A.length := by simpa using hi
    refine ⟨(h.bw i hi2 hi').1, ?_⟩
    have hb2 := ho.blk (h.bw i hi2 hi').2 ((h.bw i hi2 hi').2.ne h.bs (by decide))
    by_cases e : i = setNo A line
    · subst e
      simpa [waysOf_eq hs] using hb2
    · rw [List.getElem_set_ne (Ne.symm e)]; exact hb2
theorem AOk.row {n k A} (hok : AOk n k A) (line : Int) (b : Int) (es : List Ent) (hl : es.length = k) (hb : 0 ≤ b ∧ b ≤ 255) (he : ∀ e ∈ es, e.state ≠ 0 → EOk e) : AOk n k (setRowA A line (b, es)) := by
  unfold setRowA
  refine ⟨by simpa using hok.len, hok.pn, hok.pk, fun s hs => ?_, fun s hs => ?_, fun s hs => ?_⟩
  all_goals rcases List.mem_or_eq_of_mem_set hs with h | rfl
  · exact hok.ways s h
  · exact hl
  · exact hok.bits s h
  · exact hb
  · exact hok.ents s h
  · exact he
theorem AOk.way {n k A} (hok : AOk n k A) (line : Int) : (waysOf A line).length = k ∧ (0 ≤ bitsOf A line ∧ bitsOf A line ≤ 255) ∧ ∀ e ∈ waysOf A line, e.state ≠ 0 → EOk e := by
  have hs := setNo_lt (line := line) hok
  rw [waysOf_eq hs, bitsOf_eq hs]
  exact ⟨hok.ways _ (List.getElem_mem hs), hok.bits _ (List.getElem_mem hs), hok.ents _ (List.getElem_mem hs)⟩

set_option maxHeartbeats 400000 in
theorem free_calls (B sb wb i : Nat) (bits : Int) (es : List Ent) (w : World) (hr : RowAt B w sb wb i bits es) :
    Calls Tryd.prog 51 #[.pointer (some ⟨sb, i * 2, none⟩)] w fun e w' => e = .returned (.int .i64 (idxP isFree es)) ∧ Below w.heap.size w w' := by
  have c1 := hr.cw
  have h8 := hr.hi
  have HI := Lib.hid (index_free es wb es.length w (by omega) hr.bw)
  clear hr
  go_enter Tryd.func51, Tryd.ntmps51
  go_wp2_with (go_at_call 73; refine HI.out.mono ?_; rintro e w1 ⟨rfl, hb1⟩)
  go_ret
  exact ⟨rfl, hb1⟩

/-- Is a line there, or a way free for it? -/
def roomA (A : Sets) (line : Int) : Bool := decide (0 ≤ idxP (isLine line) (waysOf A line)) || decide (0 ≤ idxP isFree (waysOf A line))

set_option maxHeartbeats 1000000 in
theorem room_calls (B : Nat) (n k : Nat) (A : Sets) (line : Int) (ab sb : Nat) (wbs : List Nat) (w : World) (hok : AOk n k A) (h : ArrR B w ab sb wbs A) (hl : within line 0 31 = true) :
    Calls Tryd.prog 28 #[.pointer (some ⟨ab, 0, none⟩), .int .i64 line] w fun e w' => e = .returned (.bool (roomA A line)) ∧ Below w.heap.size w w' := by
  have HF := Lib.hid (find_calls B n k A line ab sb wbs w hok h hl)
  have HR := Lib.hid (fun w1 (h1 : Below w.heap.size w w1) => free_calls B sb _ _ _ _ w1 ((h.below h1).row hok line))
  clear h hok
  unfold roomA
  by_cases hp : 0 ≤ idxP (isLine line) (waysOf A line)
  · have e1 : decide (0 ≤ idxP (isLine line) (waysOf A line)) = true := by simpa using hp
    generalize idxP (isLine line) (waysOf A line) = q at HF hp e1 ⊢
    go_enter Tryd.func28, Tryd.ntmps28
    go_wp2_with (first | (go_at_call 49; refine HF.out.mono ?_; rintro e w1 ⟨rfl, hb1⟩) | fail)
    go_ret
    exact ⟨ret_bool (by simp [e1]), hb1⟩
  · have e1 : decide (0 ≤ idxP (isLine line) (waysOf A line)) = false := by simpa using hp
    generalize idxP (isLine line) (waysOf A line) = q at HF hp e1 ⊢
    go_enter Tryd.func28, Tryd.ntmps28
    go_wp2_with (first | (go_at_call 49; refine HF.out.mono ?_; rintro e w1 ⟨rfl, hb1⟩) | (go_at_call 51; refine (HR.out _ hb1).mono ?_; rintro e w2 ⟨rfl, hb2⟩))
    go_ret
    exact ⟨ret_bool (by simp [e1]), hb1.trans (hb2.mono hb1.size)⟩

end Go.Proofs.YtnieambhpmnliaaDoor
