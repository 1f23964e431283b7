/- A cache: Want as one. -/
import Derived.Test.YtnieambhpmnliaaDoorAsk2
import Derived.Test.YtnieambhpmnliaaDoorAsk3
namespace Go.Proofs.YtnieambhpmnliaaDoor
set_option linter.all false
set_option linter.unusedVariables false
set_option linter.unusedSimpArgs false
open Go Go.RowKit

theorem want_calls (B : Nat) (c : Ca) (line kind word v : Int) (p : Nat → Addr) (cb : Nat) (F : List Nat) (w : World) (h : CAt B w cb c F) (hg : Sent B w p) :
    Calls Tryd.prog 11 #[.pointer (some ⟨cb, 0, none⟩), .int .i64 line, .int .i64 kind, .int .i64 word, .int .u32 v] w
      fun e w' => e = .returned (.tuple #[(wantC c line kind word v).1.val, erv p line (wantC c line kind word v).2.1]) ∧ CStep B w cb F w' (wantC c line kind word v).2.2 := by
  cases hbad : badWant line kind word
  case true => unfold wantC; rw [if_pos hbad]; exact want_args B c line kind word v p cb F w h hg hbad
  cases hm : (missOf c.M line).2
  case true => unfold wantC; rw [if_neg (by rw [hbad]; decide), if_pos hm]; exact want_busy B c line kind word v p cb F w h hg hbad hm
  cases hkk : ((getA c.A line).isSome && kind == 1)
  case true =>
    unfold wantC; rw [if_neg (by rw [hbad]; decide), if_neg (by rw [hm]; decide), if_pos hkk]
    simp at hkk
    exact want_there B c line kind word v p cb F w h hg hbad hm hkk.1 hkk.2
  cases hna : (!(getA c.A line).isSome && absentC c line)
  case true =>
    unfold wantC; rw [if_neg (by rw [hbad]; decide), if_neg (by rw [hm]; decide), if_neg (by rw [hkk]; decide), if_pos hna]
    simp at hna
    exact want_absent B c line kind word v p cb F w h hg hbad hm (by simp [hna.1]) hna.2
  cases hnr : (!(getA c.A line).isSome && !roomA c.A line)
  case true =>
    unfold wantC; rw [if_neg (by rw [hbad]; decide), if_neg (by rw [hm]; decide), if_neg (by rw [hkk]; decide), if_neg (by rw [hna]; decide), if_pos hnr]
    have hs : (getA c.A line).isSome = false := by
      cases hq : (getA c.A line).isSome
      · rfl
      · rw [hq] at hnr; cases hnr
    rw [hs] at hna hnr
    exact want_evict B c line kind word v p cb F w h hg hbad hm hs (by simpa using hna) (by simpa using hnr)
  have hkr : kind = 1 ∨ kind = 2 ∨ kind = 3 := by
    simp only [badWant, Bool.or_eq_false_iff, decide_eq_false_iff_not, Int.not_lt, Int.not_le] at hbad
    omega
  unfold wantC
  rw [if_neg (by rw [hbad]; decide), if_neg (by rw [hm]; decide), if_neg (by rw [hkk]; decide), if_neg (by rw [hna]; decide), if_neg (by rw [hnr]; decide)]
  by_cases hfull : c.most ≤ c.M.length
  · rw [if_pos hfull]
    cases hs : (getA c.A line).isSome
    · rw [hs] at hna hnr hkk
      rcases hkr with hk | hk | hk
      · exact want_full_b B c line kind word v p cb F w h hg hbad hm hs hk (by simpa using hna) (by simpa using hnr) hfull
      · exact want_full_c B c line kind word v p cb F w h hg hbad hm hs hk (by simpa using hna) (by simpa using hnr) hfull
      · exact want_full_d B c line kind word v p cb F w h hg hbad hm hs hk (by simpa using hna) (by simpa using hnr) hfull
    · rw [hs] at hkk
      rcases hkr with hk | hk | hk
      · rw [hk] at hkk; cases hkk
      · exact want_full_a B c line kind word v p cb F w h hg hbad hm hs hk hfull
      · by_cases hmo : (entC c line).mode = 2
        · exact want_full_f B c line kind word v p cb F w h hg hbad hm hs hk hmo hfull
        · exact want_full_e B c line kind word v p cb F w h hg hbad hm hs hk hmo hfull
  · rw [if_neg hfull]
    have hroom : (c.M.length : Int) < c.most := by omega
    cases hs : (getA c.A line).isSome
    · rw [hs] at hna hnr hkk
      rcases hkr with hk | hk | hk
      · have e : kindC c line kind = 1 := by unfold kindC; rw [if_neg (by omega), hk]
        rw [e]; exact want_add_b B c line kind word v p cb F w h hg hbad hm hs hk (by simpa using hna) (by simpa using hnr) hroom
      · have e : kindC c line kind = 2 := by unfold kindC; rw [if_neg (by omega), hk]
        rw [e]; exact want_add_c B c line kind word v p cb F w h hg hbad hm hs hk (by simpa using hna) (by simpa using hnr) hroom
      · have e : kindC c line kind = 2 := by unfold kindC; rw [if_pos ⟨hk, Or.inl hs⟩]
        rw [e]; exact want_add_d B c line kind word v p cb F w h hg hbad hm hs hk (by simpa using hna) (by simpa using hnr) hroom
    · rw [hs] at hkk
      rcases hkr with hk | hk | hk
      · rw [hk] at hkk; cases hkk
      · have e : kindC c line kind = 2 := by unfold kindC; rw [if_neg (by omega), hk]
        rw [e]; exact want_add_a B c line kind word v p cb F w h hg hbad hm hs hk hroom
      · by_cases hmo : (entC c line).mode = 2
        · have hn3 : ¬ (kind = 3 ∧ ((getA c.A line).isSome = false ∨ (entC c line).mode ≠ 2)) := by
            rintro ⟨_, h1 | h1⟩
            · rw [hs] at h1; cases h1
            · exact h1 hmo
          have e : kindC c line kind = 3 := by unfold kindC; rw [if_neg hn3, hk]
          rw [e]; exact want_add_f B c line kind word v p cb F w h hg hbad hm hs hk hmo hroom
        · have e : kindC c line kind = 2 := by unfold kindC; rw [if_pos ⟨hk, Or.inr hmo⟩]
          rw [e]; exact want_add_e B c line kind word v p cb F w h hg hbad hm hs hk hmo hroom

end Go.Proofs.YtnieambhpmnliaaDoor
