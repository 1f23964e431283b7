/- The lines of a cache (array): New. -/
import Derived.Test.YtnieambhpmnliaaDoorArr5
namespace Go.Proofs.YtnieambhpmnliaaDoor
set_option linter.all false
set_option linter.unusedVariables false
set_option linter.unusedSimpArgs false
open Go Go.RowKit

/-- An array that is being made: the first sets have their ways. -/
structure NewR (B : Nat) (w : World) (ab sb n k : Nat) (wbs : List Nat) : Prop where
  ba : Blk w ab 90 [.slice (some ⟨sb, 0, none⟩) n n]
  bs : Blk w sb 92 (setCells (List.replicate wbs.length (0, List.replicate k Ent.zero)) wbs ++ (List.replicate (n - wbs.length) [Value.int .u8 0, Value.slice none 0 0]).flatten)
  bw : ∀ i (h : i < wbs.length), B ≤ wbs[i] ∧ wbs[i] < w.heap.size ∧ Blk w wbs[i] 69 (entCells (List.replicate k Ent.zero))
  nd : wbs.Nodup

theorem setCells_append (A : Sets) (wbs : List Nat) (s : Int × List Ent) (b : Nat) (h : wbs.length = A.length) : setCells (A ++ [s]) (wbs ++ [b]) = setCells A wbs ++ [.int .u8 s.1, .slice (some ⟨b, 0, none⟩) s.2.length s.2.length] := by
  induction A generalizing wbs with
  | nil => cases wbs with
    | nil => simp [setCells]
    | cons b wbs => simp at h
  | cons a A ih => cases wbs with
    | nil => simp at h
    | cons c wbs => simp [setCells, ih wbs (by simpa using h)]

theorem NewR.step {B : Nat} {w : World} {ab sb n k : Nat} {wbs : List Nat} (h : NewR B w ab sb n k wbs) (hlt : wbs.length < n) (hB : B ≤ w.heap.size) (hab : ab ≠ sb) :
    NewR B ((w.setCell ⟨sb, wbs.length * 2 + 1, none⟩ (.slice (some ⟨w.heap.size, 0, none⟩) k k)).alloc (.cells (entCells (List.replicate k Ent.zero)).toArray 69)).drew ab sb n k (wbs ++ [w.heap.size]) := by
  have hsz : (w.setCell ⟨sb, wbs.length * 2 + 1, none⟩ (.slice (some ⟨w.heap.size, 0, none⟩) k k)).heap.size = w.heap.size := by rw [setCell_eq_setRow w sb _ _ _ _ _ h.bs]; simp
  have e1 : w.setCell ⟨sb, wbs.length * 2 + 1, none⟩ (.slice (some ⟨w.heap.size, 0, none⟩) k k) = w.setRow sb ((setCells (List.replicate wbs.length (0, List.replicate k Ent.zero)) wbs ++ (List.replicate (n - wbs.length) [Value.int .u8 0, Value.slice none 0 0]).flatten).set (wbs.length * 2 + 1) (.slice (some ⟨w.heap.size, 0, none⟩) k k)).toArray := by
    rw [setCell_eq_setRow w sb _ _ _ _ _ h.bs]; congr 1; simp
  have e2 : (setCells (List.replicate wbs.length (0, List.replicate k Ent.zero)) wbs ++ (List.replicate (n - wbs.length) [Value.int .u8 0, Value.slice none 0 0]).flatten).set (wbs.length * 2 + 1) (.slice (some ⟨w.heap.size, 0, none⟩) k k)
      = setCells (List.replicate (wbs.length + 1) (0, List.replicate k Ent.zero)) (wbs ++ [w.heap.size]) ++ (List.replicate (n - (wbs.length + 1)) [Value.int .u8 0, Value.slice none 0 0]).flatten := by
    rw [List.replicate_succ', setCells_append _ _ _ _ (by simp), List.set_append_right _ _ (by rw [setCells_length _ _ (by simp)]; simp), setCells_length _ _ (by simp), List.length_replicate,
      show wbs.length * 2 + 1 - wbs.length * 2 = 1 by omega, show n - wbs.length = (n - (wbs.length + 1)) + 1 by omega, List.replicate_succ]
    simp
  have ho := Only.setRow w sb ((setCells (List.replicate wbs.length (0, List.replicate k Ent.zero)) wbs ++ (List.replicate (n - wbs.length) [Value.int .u8 0, Value.slice none 0 0]).flatten).set (wbs.length * 2 + 1) (.slice (some ⟨w.heap.size, 0, none⟩) k k)).toArray
  have hb : Blk (w.setRow sb ((setCells (List.replicate wbs.length (0, List.replicate k Ent.zero)) wbs ++ (List.replicate (n - wbs.length) [Value.int .u8 0, Value.slice none 0 0]).flatten).set (wbs.length * 2 + 1) (.slice (some ⟨w.heap.size, 0, none⟩) k k)).toArray) sb 92 _ := h.bs.setRow
  rw [e1] at hsz ⊢
  generalize w.setRow sb _ = w2 at hsz ho hb ⊢
  have hbel : Below w2.heap.size w2 (w2.alloc (.cells (entCells (List.replicate k Ent.zero)).toArray 69)).drew := ((Below.refl _ _).alloc (Nat.le_refl _) _).drew
  have hnew : Blk (w2.alloc (.cells (entCells (List.replicate k Ent.zero)).toArray 69)).drew w.heap.size 69 (entCells (List.replicate k Ent.zero)) := by
    have := heap_alloc_new w2 (.cells (entCells (List.replicate k Ent.zero)).toArray 69)
    rw [hsz] at this; exact this
  refine ⟨?_, ?_, fun i hi => ?_, ?_⟩
  · exact (ho.blk h.ba hab).below hbel (by rw [hsz]; exact h.ba.lt)
  · rw [e2] at hb
    simpa using hb.below hbel (by rw [hsz]; exact h.bs.lt)
  · by_cases e : i < wbs.length
    · have hh := h.bw i e
      rw [List.getElem_append_left e]
      exact ⟨hh.1, by simp; omega, (ho.blk hh.2.2 (hh.2.2.ne h.bs (by decide))).below hbel (by rw [hsz]; exact hh.2.1)⟩
    · have : i = wbs.length := by simp at hi; omega
      subst this
      simp only [List.getElem_concat_length]
      exact ⟨hB, by simp; omega, hnew⟩
  · rw [List.nodup_append]
    refine ⟨h.nd, by simp, fun a ha b hb' => ?_⟩
    obtain ⟨j, hj, rfl⟩ := List.getElem_of_mem ha
    have := (h.bw j hj).2.1
    simp at hb'
    omega

theorem powerN {n : Nat} (h : power n 8 = true) : n = 1 ∨ n = 2 ∨ n = 4 ∨ n = 8 := by have := power_cases h; omega
theorem make_sets (n : Nat) (hn : power n 8 = true) (w : World) : (Instr.makeSlice 88 (.int .i64 n) (.int .i64 n)).run Tryd.prog w =
    .ok (.slice (some ⟨w.heap.size, 0, none⟩) n n) (w.alloc (.cells (List.replicate n [Value.int .u8 0, Value.slice none 0 0]).flatten.toArray 92)) := by
  rcases powerN hn with rfl | rfl | rfl | rfl <;> kernel_rfl
theorem make_ways (n : Nat) (hn : power n 8 = true) (w : World) : (Instr.makeSlice 43 (.int .i64 n) (.int .i64 n)).run Tryd.prog w =
    .ok (.slice (some ⟨w.heap.size, 0, none⟩) n n) (w.alloc (.cells (entCells (List.replicate n Ent.zero)).toArray 69)) := by
  rcases powerN hn with rfl | rfl | rfl | rfl <;> kernel_rfl

set_option maxRecDepth 100000 in
set_option maxHeartbeats 1000000 in
theorem anew_calls (B : Nat) (n k : Nat) (w : World) (hB : B ≤ w.heap.size) (hn : power n 8 = true) (hk : power k 8 = true) :
    Calls Tryd.prog 23 #[.int .i64 n, .int .i64 k] w fun e w' => ∃ ab sb wbs, e = .returned (.tuple #[.pointer (some ⟨ab, 0, none⟩), .nilIface]) ∧ ArrR B w' ab sb wbs (List.replicate n (0, List.replicate k Ent.zero)) ∧ Below w.heap.size w w' := by
  have n0 := power_lo hn
  have n1 := power_hi hn
  have k0 := power_lo hk
  have k1 := power_hi hk
  have mk := make_sets n hn
  have mw := make_ways k hk
  generalize hsc : (List.replicate n [Value.int .u8 0, Value.slice none 0 0]).flatten = sc at mk
  generalize hec : entCells (List.replicate k Ent.zero) = ec at mw
  go_enter Tryd.func23, Tryd.ntmps23
  go_wp2_with (first | (go_at_call 47; refine (apower_calls _ _ _).mono ?_; rintro e w' ⟨rfl, rfl⟩; first | rw [hn] | rw [hk]) | fail)
  go_loopw [27] (fun x wr => ∃ wbs, wbs.length ≤ n ∧ x = .int .i64 wbs.length ∧ NewR B wr (w.heap.size + 1) w.heap.size n k wbs ∧ Below w.heap.size w wr) (fun x _ => n - (intOf x).toNat)
  case atStart =>
    refine ⟨[], Nat.zero_le _, rfl, ⟨?_, ?_, fun i hi => by simp at hi, List.nodup_nil⟩, ((Below.refl _ _).alloc (Nat.le_refl _) _).alloc (by simp) _⟩
    · have := heap_alloc_new (w.alloc (.cells sc.toArray 92)) (.cells #[.slice (some ⟨w.heap.size, 0, none⟩) n n] 90)
      simpa [Blk] using this
    · have := heap_alloc_new w (.cells sc.toArray 92)
      have h2 : Blk (w.alloc (.cells sc.toArray 92)) w.heap.size 92 sc := this
      have h3 := h2.below ((Below.refl _ _).alloc (Nat.le_refl _) (.cells #[.slice (some ⟨w.heap.size, 0, none⟩) n n] 90)) h2.lt
      simpa [setCells, hsc] using h3
  case round =>
    obtain ⟨wbs, hle, rfl, hr, hbel⟩ := hrel
    by_cases hlt : wbs.length < n
    · have c0 := hr.ba.cell 0
      simp at c0
      have d1 := hr.bs.cell (wbs.length * 2 + 1)
      rw [List.getElem?_append_right (by rw [setCells_length _ _ (by simp)]; simp), setCells_length _ _ (by simp), List.length_replicate, show wbs.length * 2 + 1 - wbs.length * 2 = 1 by omega, show n - wbs.length = (n - wbs.length - 1) + 1 by omega, List.replicate_succ] at d1
      simp at d1
      have f1 := hr.bs.free (wbs.length * 2 + 1)
      have hlt2 := hr.bs.lt
      have hne2 : w.heap.size ≠ wr.heap.size := by omega
      have hlt3 := hr.ba.lt
      have hne3 : w.heap.size + 1 ≠ wr.heap.size := by omega
      have HR := Lib.hid hr
      clear hr
      go_wp2
      go_region_with (fail)
      all_goals
        have hst := HR.out.step hlt (Nat.le_trans hB hbel.size) (by omega)
        rw [hec] at hst
        have HST := Lib.hid hst
        clear hst
        go_wp2
        go_roundw
        case rel =>
          refine ⟨wbs ++ [wr.heap.size], by simp; omega, by simp, HST.out, ?_⟩
          exact ((hbel.setCell (Nat.le_refl _) _).alloc (by simp; exact hbel.size) _).drew
        case measure => simp [intOf]; omega
    · have hln : wbs.length = n := by omega
      obtain ⟨ha, hs, hw, hnd⟩ := hr
      rw [hln] at hs
      have HA : Hid (ArrR B wr (w.heap.size + 1) w.heap.size wbs (List.replicate n (0, List.replicate k Ent.zero))) := by
        refine ⟨by omega, hB, by simp [hln], by simpa using ha, by simpa using hs, fun i hi hi' => ?_, hnd⟩
        have := hw i hi'
        simpa using ⟨this.1, this.2.2⟩
      clear ha hs hw
      go_wp2
      go_ret2
      exact ⟨_, _, wbs, rfl, HA.out, hbel⟩

theorem ArrR.mono {B B' : Nat} {w : World} {ab sb wbs A} (h : ArrR B w ab sb wbs A) (hB : B' ≤ B) : ArrR B' w ab sb wbs A :=
  ⟨Nat.le_trans hB h.hab, Nat.le_trans hB h.hsb, h.len, h.ba, h.bs, fun i hi hi' => ⟨Nat.le_trans hB (h.bw i hi hi').1, (h.bw i hi hi').2⟩, h.nd⟩
theorem ArrR.all {B : Nat} {w : World} {ab sb wbs A} (h : ArrR B w ab sb wbs A) : ∀ b ∈ ab :: sb :: wbs, B ≤ b := by
  intro b hb
  simp only [List.mem_cons] at hb
  rcases hb with rfl | rfl | hb
  · exact h.hab
  · exact h.hsb
  · obtain ⟨i, hi, rfl⟩ := List.getElem_of_mem hb
    exact (h.bw i (by rw [← h.len]; exact hi) hi).1

end Go.Proofs.YtnieambhpmnliaaDoor
