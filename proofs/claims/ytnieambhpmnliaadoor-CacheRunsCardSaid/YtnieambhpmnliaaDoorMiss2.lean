/- The table of misses (mshr): Get, Full, at. -/
import Derived.Test.YtnieambhpmnliaaDoorMiss
namespace Go.Proofs.YtnieambhpmnliaaDoor
set_option linter.all false
set_option linter.unusedVariables false
set_option linter.unusedSimpArgs false
open Go Go.RowKit

def missOf (us : List (Int × Int)) (line : Int) : Int × Bool := match us.find? (fun m => m.1 == line) with | some m => (m.2, true) | none => (0, false)

theorem idxP_cases {α : Type} (p : α → Bool) (l : List α) : (idxP p l = -1 ∧ l.find? p = none ∧ ∀ x ∈ l, p x = false) ∨ ∃ k, ∃ hk : k < l.length, idxP p l = (k : Int) ∧ p l[k] = true ∧ l.find? p = some l[k] ∧ ∀ j (hj : j < k), p (l[j]'(by omega)) = false := by
  unfold idxP
  cases h : l.findIdx? p with
  | none =>
    have := List.findIdx?_eq_none_iff.1 h
    exact Or.inl ⟨rfl, List.find?_eq_none.2 (fun x hx => by simpa using this x hx), this⟩
  | some k =>
    obtain ⟨hk, hp, hj⟩ := List.findIdx?_eq_some_iff_getElem.1 h
    refine Or.inr ⟨k, hk, rfl, hp, ?_, fun j hj' => by simpa using hj j hj'⟩
    rw [List.find?_eq_some_iff_getElem]
    exact ⟨hp, k, hk, rfl, fun j hj' => by simpa using hj j hj'⟩

set_option maxHeartbeats 400000 in
theorem get_calls (us : List (Int × Int)) (line most : Int) (tb : Nat) (w : World) (hlen : us.length ≤ 1000) (h : TabAt w tb most us) :
    Calls Tryd.prog 25 #[.pointer (some ⟨tb, 0, none⟩), .int .i64 line] w fun e w' => e = .returned (.tuple #[.int .i64 (missOf us line).1, .bool (missOf us line).2]) ∧ Below w.heap.size w w' := by
  have hk := known_calls us line most tb w hlen h
  unfold missOf
  rcases idxP_cases (fun m => m.1 == line) us with ⟨hi, hf, _⟩ | ⟨k, hk', hi, hp, hf, _⟩
  · rw [hi] at hk; rw [hf]
    go_enter Tryd.func25, Tryd.ntmps25
    go_wp2_with (go_at_call 48; refine hk.mono ?_; rintro e w1 ⟨rfl, hb1⟩)
    go_ret2
    exact ⟨rfl, hb1⟩
  · rw [hi] at hk; rw [hf]
    have HT := Lib.hid h
    have HK := Lib.hid hk
    have HP := Lib.hid hp
    clear h hk hi hf hp
    go_enter Tryd.func25, Tryd.ntmps25
    go_wp2_with fail
    refine HK.out.mono ?_; rintro e w1 ⟨rfl, hb1⟩
    obtain ⟨lv, cap, hb, hs⟩ := HT.out.below hb1
    rcases hs with ⟨rfl, rfl, rfl⟩ | ⟨lb, r, rfl, h2, h3⟩
    · simp at hk'
    have c1 := hb.cell 1
    simp at c1
    have g1 := (h2.cell _).trans (missCells_get us k hk' r).2
    clear hb h2
    go_wp2
    go_ret2
    exact ⟨rfl, hb1⟩

set_option maxHeartbeats 400000 in
theorem full_calls (us : List (Int × Int)) (most : Int) (tb : Nat) (w : World) (h : TabAt w tb most us) :
    Calls Tryd.prog 54 #[.pointer (some ⟨tb, 0, none⟩)] w fun e w' => e = .returned (.bool (decide (most ≤ (us.length : Int)))) ∧ Below w.heap.size w w' := by
  obtain ⟨lv, cap, hb, hs⟩ := h
  have c0 := hb.cell 0
  have c1 := hb.cell 1
  simp at c0 c1
  clear hb hs
  go_enter Tryd.func54, Tryd.ntmps54
  go_wp2
  go_quiet (fail)
  go_wp2
  go_ret
  exact ⟨rfl, Below.drewN' (Below.refl _ _) _⟩

set_option maxHeartbeats 400000 in
theorem at1_calls (l k line : Int) (w : World) (h0 : 0 ≤ l ∧ l ≤ 1000) (h1 : 0 ≤ line ∧ line ≤ 1000) :
    Calls Tryd.prog 79 #[.agg #[.int .i64 l, .int .i64 k], .int .i64 line] w fun e w' => e = .returned (.int .i64 (l - line)) ∧ Below w.heap.size w w' := by
  go_enter Tryd.func79, Tryd.ntmps79
  go_wp2
  go_ret
  exact ⟨rfl, (Below.refl _ _).alloc (Nat.le_refl _) _⟩

/-- Lines rise. -/
def Rise (us : List (Int × Int)) : Prop := ∀ i j (hi : i < us.length) (hj : j < us.length), i < j → us[i].1 < us[j].1
def Lines (us : List (Int × Int)) : Prop := ∀ i (hi : i < us.length), 0 ≤ us[i].1 ∧ us[i].1 ≤ 31

/-- What the search found: where the line stands or would. -/
def Found (us : List (Int × Int)) (line : Int) (e : Ending) : Prop :=
  ∃ pos : Nat, pos ≤ us.length ∧ (∀ a (h : a < us.length), a < pos → us[a].1 < line) ∧ (∀ a (h : a < us.length), pos ≤ a → line ≤ us[a].1) ∧
    e = .returned (.tuple #[.int .i64 pos, .bool (decide (∃ h : pos < us.length, us[pos].1 = line))])

set_option maxHeartbeats 1000000 in
theorem search_miss (us : List (Int × Int)) (line : Int) (lb cap : Nat) (w : World) (hlen : us.length ≤ 100) (hr : Rise us) (hl : Lines us) (h0 : 0 ≤ line) (h1 : line ≤ 31)
    (hc : ∀ k (hk : k < us.length), w.cell? ⟨lb, k * 2, none⟩ = some (.int .i64 us[k].1) ∧ w.cell? ⟨lb, k * 2 + 1, none⟩ = some (.int .i64 us[k].2)) (hlb : us ≠ [] → lb < w.heap.size) :
    Calls Tryd.prog 78 #[.slice (some ⟨lb, 0, none⟩) us.length cap, .int .i64 line, .func (.func 79) #[] #[]] w
      fun e w' => Found us line e ∧ Below w.heap.size w w' := by
  have HC := Lib.hid hc
  have HL := Lib.hid hlb
  have HR := Lib.hid hr
  have HN := Lib.hid hl
  clear hc hlb hr hl
  go_enter Tryd.func78, Tryd.ntmps78
  go_wp2
  go_loopw [9, 10] (fun i j wr => ∃ a b : Nat, a ≤ b ∧ b ≤ us.length ∧ i = .int .i64 a ∧ j = .int .i64 b ∧ Below w.heap.size w wr ∧ Hid (∀ c (h : c < us.length), c < a → us[c].1 < line) ∧ Hid (∀ c (h : c < us.length), b ≤ c → line ≤ us[c].1)) (fun i j _ => (intOf j - intOf i).toNat)
  case atStart => exact ⟨0, us.length, Nat.zero_le _, Nat.le_refl _, rfl, rfl, Below.refl _ _, fun c h hc => by omega, fun c h hc => by omega⟩
  case round =>
    obtain ⟨a, b, hab, hbn, rfl, rfl, hbel, hlo, hhi⟩ := hrel
    by_cases hlt : a < b
    · have hm1 : (a + b) / 2 < b := by omega
      have hm0 : a ≤ (a + b) / 2 := by omega
      have hmn : (a + b) / 2 < us.length := by omega
      obtain ⟨c0, c1⟩ := HC.out ((a + b) / 2) hmn
      have hl := HL.out (by intro e; rw [e] at hmn; simp at hmn)
      have g0 := (hbel.cell (p := ⟨lb, (a + b) / 2 * 2, none⟩) hl).trans c0
      have g1 := (hbel.cell (p := ⟨lb, (a + b) / 2 * 2 + 1, none⟩) hl).trans c1
      clear c0 c1
      obtain ⟨q0, q1⟩ := HN.out ((a + b) / 2) hmn
      by_cases hcmp : us[(a + b) / 2].1 - line < 0
      · go_wp2_with (go_at_call 79; refine (at1_calls _ _ _ _ (by omega) (by omega)).mono ?_; rintro e w1 ⟨rfl, hb1⟩)
        go_roundw
        case rel =>
          refine ⟨(a + b) / 2 + 1, b, by omega, hbn, by go_num, rfl, hbel.trans (hb1.mono hbel.size), fun c h hc => ?_, hhi⟩
          by_cases e : c = (a + b) / 2
          · subst e; omega
          · have := HR.out c ((a + b) / 2) h hmn (by omega); omega
        case measure => simp [intOf]; omega
      · go_wp2_with (go_at_call 79; refine (at1_calls _ _ _ _ (by omega) (by omega)).mono ?_; rintro e w1 ⟨rfl, hb1⟩)
        go_roundw
        case rel =>
          refine ⟨a, (a + b) / 2, by omega, by omega, rfl, by go_num, hbel.trans (hb1.mono hbel.size), hlo, fun c h hc => ?_⟩
          by_cases e : c = (a + b) / 2
          · subst e; omega
          · have := HR.out ((a + b) / 2) c hmn h (by omega); omega
        case measure => simp [intOf]; omega
    · obtain rfl : a = b := by omega
      by_cases hn : a < us.length
      · obtain ⟨c0, c1⟩ := HC.out a hn
        have hl := HL.out (by intro e; rw [e] at hn; simp at hn)
        have g0 := (hbel.cell (p := ⟨lb, a * 2, none⟩) hl).trans c0
        have g1 := (hbel.cell (p := ⟨lb, a * 2 + 1, none⟩) hl).trans c1
        clear c0 c1
        obtain ⟨q0, q1⟩ := HN.out a hn
        go_wp2_with (go_at_call 79; refine (at1_calls _ _ _ _ (by omega) (by omega)).mono ?_; rintro e w1 ⟨rfl, hb1⟩)
        go_ret2
        refine ⟨⟨a, hbn, fun c h hc => hlo c h hc, fun c h hc => hhi c h hc, ?_⟩, hbel.trans (hb1.mono hbel.size)⟩
        have eb : (us[a].1 - line == 0) = decide (∃ h : a < us.length, us[a].1 = line) := by
          rw [Bool.eq_iff_iff]; simp [hn]; omega
        rw [← eb]; rfl
      · go_wp2
        go_ret2
        refine ⟨⟨a, hbn, fun c h hc => hlo c h hc, fun c h hc => hhi c h hc, ?_⟩, hbel⟩
        have eb : false = decide (∃ h : a < us.length, us[a].1 = line) := by
          rw [Bool.eq_iff_iff]; simp [hn]
        rw [← eb]; rfl

theorem search_nil (line : Int) (f : Value) (w : World) :
    Calls Tryd.prog 78 #[.slice none 0 0, .int .i64 line, f] w
      fun e w' => Found [] line e ∧ Below w.heap.size w w' := by
  go_enter Tryd.func78, Tryd.ntmps78
  go_wp2
  refine wp_loop_rounds 1 ?_
  rw [rounds_succ]
  go_wp2
  go_ret2
  exact ⟨⟨0, by simp, fun c h => by simp at h, fun c h => by simp at h, rfl⟩, Below.refl _ _⟩

set_option maxHeartbeats 400000 in
theorem at_calls (us : List (Int × Int)) (line most : Int) (tb : Nat) (w : World) (hlen : us.length ≤ 100) (hr : Rise us) (hl : Lines us) (h0 : 0 ≤ line) (h1 : line ≤ 31) (h : TabAt w tb most us) :
    Calls Tryd.prog 53 #[.pointer (some ⟨tb, 0, none⟩), .int .i64 line] w fun e w' => Found us line e ∧ Below w.heap.size w w' := by
  obtain ⟨lv, cap, hb, hs⟩ := h
  have c1 := hb.cell 1
  simp at c1
  have hsr : Calls Tryd.prog 78 #[.slice lv us.length cap, .int .i64 line, .func (.func 79) #[] #[]] w fun e w' => Found us line e ∧ Below w.heap.size w w' := by
    rcases hs with ⟨rfl, rfl, rfl⟩ | ⟨lb, r, rfl, h2, h3⟩
    · exact search_nil line _ w
    · exact search_miss us line lb cap w hlen hr hl h0 h1 (fun k hk => by
        have := missCells_get us k hk r
        exact ⟨(h2.cell _).trans this.1, (h2.cell _).trans this.2⟩) (fun _ => h2.lt)
  clear hs hr hl
  have HS := Lib.hid hsr
  clear hsr
  go_enter Tryd.func53, Tryd.ntmps53
  go_wp2_with fail
  refine HS.out.mono ?_
  rintro e w1 ⟨⟨pos, q0, q1, q2, rfl⟩, hb1⟩
  have Q1 := Lib.hid q1
  have Q2 := Lib.hid q2
  clear q1 q2
  go_wp2
  go_ret2
  exact ⟨⟨pos, q0, Q1.out, Q2.out, rfl⟩, hb1⟩

end Go.Proofs.YtnieambhpmnliaaDoor
