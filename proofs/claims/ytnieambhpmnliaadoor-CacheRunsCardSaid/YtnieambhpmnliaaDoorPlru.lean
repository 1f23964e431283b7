/- The tree of bits over the ways (plru). -/
import Derived.Test.YtnieambhpmnliaaDoorPure
namespace Go.Proofs.YtnieambhpmnliaaDoor
set_option linter.all false
set_option linter.unusedVariables false
set_option linter.unusedSimpArgs false
open Go Go.RowKit

set_option maxHeartbeats 400000 in
theorem plruRight_calls (n : Int) (w : World) :
    Calls Tryd.prog 84 #[.int .i64 n] w fun e w' => e = .returned (.bool (power n 8)) ∧ w = w' := by
  go_enter Tryd.func84, Tryd.ntmps84
  go_wp2
  all_goals (go_ret; go_tidy; refine ⟨ret_val ?_, rfl⟩; simp [power, wrap64, *])
  all_goals (try (intros; omega))
  all_goals (rw [show (n - 1 + 9223372036854775808) % 18446744073709551616 - 9223372036854775808 = n - 1 by omega])

theorem power_cases {n : Int} (h : power n 8 = true) : n = 1 ∨ n = 2 ∨ n = 4 ∨ n = 8 := by
  have h1 := power_lo h
  have h2 := power_hi h
  have : n = 1 ∨ n = 2 ∨ n = 3 ∨ n = 4 ∨ n = 5 ∨ n = 6 ∨ n = 7 ∨ n = 8 := by omega
  rcases this with rfl | rfl | rfl | rfl | rfl | rfl | rfl | rfl <;> first | omega | (exact absurd (h.symm.trans (by kernel_rfl : _ = false)) (by decide))

theorem and_one (x : Int) (h0 : 0 ≤ x) (h1 : x ≤ 255) : bits .and .u8 x 1 = x % 2 := by
  have h : (List.range 256).all (fun k => bits .and .u8 (k : Int) 1 == (k : Int) % 2) = true := by kernel_rfl
  have h2 := List.all_eq_true.1 h x.toNat (by simp; omega)
  simp only [Int.toNat_of_nonneg h0] at h2
  simpa using h2
theorem w64 (x : Int) (h : -1000 ≤ x ∧ x ≤ 1000) : wrap64 x = x := by unfold wrap64; omega

def touchGo : Nat → Int → Int → Int → Int → Int
  | 0, b, _, _, _ => b
  | f + 1, b, node, half, way =>
    if 0 < half then
      if bits .and .i64 way half == 0 then touchGo f (bits .or .u8 b (2 ^ (node.toNat - 1) % 256)) (node * 2) (half / 2) way
      else touchGo f (bits .andNot .u8 b (2 ^ (node.toNat - 1) % 256)) (node * 2 + 1) (half / 2) way
    else b
def touch (b n way : Int) : Int := touchGo 4 b 1 (n / 2) way
def victimGo : Nat → Int → Int → Int → Int → Int
  | 0, _, _, _, way => way
  | f + 1, b, node, half, way => if 0 < half then victimGo f b (2 * node + b / 2 ^ (node.toNat - 1) % 2) (half / 2) (way + b / 2 ^ (node.toNat - 1) % 2 * half) else way
def victim (b n : Int) : Int := victimGo 4 b 1 (n / 2) 0

def Depth (node half : Int) : Prop := (half = 4 ∧ node = 1) ∨ (half = 2 ∧ 1 ≤ node ∧ node ≤ 3) ∨ (half = 1 ∧ 1 ≤ node ∧ node ≤ 7) ∨ (half = 0 ∧ 1 ≤ node ∧ node ≤ 15)

set_option maxHeartbeats 400000 in
theorem touch_calls (b n way : Int) (w : World) (hn : power n 8 = true) (h0 : 0 ≤ way) (h1 : way < n) (b0 : 0 ≤ b) (b1 : b ≤ 255) :
    Calls Tryd.prog 59 #[.int .u8 b, .int .i64 n, .int .i64 way] w fun e w' => e = .returned (.int .u8 (touch b n way)) ∧ w = w' := by
  have h2 := power_lo hn
  have h3 := power_hi hn
  have hpc := power_cases hn
  go_enter Tryd.func59, Tryd.ntmps59
  go_wp2_with (first | (go_at_call 84; refine (plruRight_calls _ _).mono ?_; rintro e w' ⟨rfl, rfl⟩; rw [hn]) | fail)
  go_loopw [0, 7, 8] (fun x y z wr => ∃ (f : Nat) (b' node half : Int), x = .int .u8 b' ∧ y = .int .i64 node ∧ z = .int .i64 half ∧ Hid (0 ≤ b' ∧ b' ≤ 255 ∧ Depth node half ∧ half < 2 ^ f ∧ touchGo f b' node half way = touch b n way) ∧ w = wr) (fun _ _ z _ => (intOf z).toNat)
  case atStart =>
    refine ⟨4, b, 1, n / 2, rfl, rfl, rfl, ⟨b0, b1, ?_, by omega, rfl⟩, rfl⟩
    unfold Depth; omega
  case round =>
    obtain ⟨f, b', node, half, rfl, rfl, rfl, hh, rfl⟩ := hrel
    obtain ⟨hb0, hb1, hd, hf, hgo⟩ := hh.out
    have hn0 : 1 ≤ node := by unfold Depth at hd; omega
    have hn1 : node ≤ 15 := by unfold Depth at hd; omega
    by_cases hlt : 0 < half
    · have hn2 : node ≤ 7 := by unfold Depth at hd; omega
      have hh1 : half ≤ 4 := by unfold Depth at hd; omega
      obtain ⟨f, rfl⟩ : ∃ g, f = g + 1 := by
        cases f with
        | zero => simp at hf; omega
        | succ g => exact ⟨g, rfl⟩
      have hf2 : half / 2 < 2 ^ f := by rw [Int.pow_succ] at hf; omega
      unfold touchGo at hgo
      rw [if_pos hlt] at hgo
      have HG := Lib.hid hgo
      have HD := Lib.hid hd
      clear hgo hd hf hh
      go_wp2
      · rename_i hc
        go_roundw
        case rel => exact ⟨f, _, _, _, rfl, rfl, rfl, ⟨bits_lo_u8 _ _ _, bits_hi_u8 _ _ _, by have := HD.out; unfold Depth at *; omega, hf2, by have := HG.out; rw [if_pos hc] at this; exact this⟩, trivial⟩
        case measure => simp [intOf]; omega
      · rename_i hc
        go_roundw
        case rel => exact ⟨f, _, _, _, rfl, rfl, rfl, ⟨bits_lo_u8 _ _ _, bits_hi_u8 _ _ _, by have := HD.out; unfold Depth at *; omega, hf2, by have := HG.out; rw [if_neg (by rw [hc]; decide)] at this; exact this⟩, trivial⟩
        case measure => simp [intOf]; omega
    · have hz : touchGo f b' node half way = b' := by
        cases f with
        | zero => rfl
        | succ g => unfold touchGo; rw [if_neg hlt]
      have HG := Lib.hid (hz.symm.trans hgo)
      clear hgo hh hz hd hf
      go_wp2
      go_ret
      exact ⟨ret_int HG.out, rfl⟩

set_option maxHeartbeats 400000 in
theorem victim_calls (b n : Int) (w : World) (hn : power n 8 = true) (b0 : 0 ≤ b) (b1 : b ≤ 255) :
    Calls Tryd.prog 76 #[.int .u8 b, .int .i64 n] w fun e w' => e = .returned (.int .i64 (victim b n)) ∧ w = w' ∧ 0 ≤ victim b n ∧ victim b n < n := by
  have h2 := power_lo hn
  have h3 := power_hi hn
  have hpc := power_cases hn
  go_enter Tryd.func76, Tryd.ntmps76
  go_wp2_with (first | (go_at_call 84; refine (plruRight_calls _ _).mono ?_; rintro e w' ⟨rfl, rfl⟩; rw [hn]) | fail)
  go_loopw [5, 6, 7] (fun x y z wr => ∃ (f : Nat) (way node half : Int), x = .int .i64 way ∧ y = .int .i64 node ∧ z = .int .i64 half ∧ Hid (0 ≤ way ∧ (0 < half → way + 2 * half ≤ n) ∧ (half ≤ 0 → way < n) ∧ Depth node half ∧ half < 2 ^ f ∧ victimGo f b node half way = victim b n) ∧ w = wr) (fun _ _ z _ => (intOf z).toNat)
  case atStart =>
    refine ⟨4, 0, 1, n / 2, rfl, rfl, rfl, ⟨Int.le_refl _, by omega, by omega, ?_, by omega, rfl⟩, rfl⟩
    unfold Depth; omega
  case round =>
    obtain ⟨f, way, node, half, rfl, rfl, rfl, hh, rfl⟩ := hrel
    obtain ⟨hw0, hw1, hw2, hd, hf, hgo⟩ := hh.out
    have hn0 : 1 ≤ node := by unfold Depth at hd; omega
    have hn1 : node ≤ 15 := by unfold Depth at hd; omega
    by_cases hlt : 0 < half
    · have hn2 : node ≤ 7 := by unfold Depth at hd; omega
      have hh1 : half ≤ 4 := by unfold Depth at hd; omega
      obtain ⟨f, rfl⟩ : ∃ g, f = g + 1 := by
        cases f with
        | zero => simp at hf; omega
        | succ g => exact ⟨g, rfl⟩
      have hf2 : half / 2 < 2 ^ f := by rw [Int.pow_succ] at hf; omega
      unfold victimGo at hgo
      rw [if_pos hlt] at hgo
      have hq0 : 0 ≤ b / 2 ^ (node.toNat - 1) := Int.ediv_nonneg b0 (Int.le_of_lt (Int.pow_pos (by decide)))
      have hq1 : b / 2 ^ (node.toNat - 1) ≤ 255 := Int.le_trans (Int.ediv_le_self _ b0) b1
      have ha := and_one _ hq0 hq1
      generalize hs : b / 2 ^ (node.toNat - 1) % 2 = s at ha hgo
      have hs0 : 0 ≤ s := by omega
      have hs1 : s ≤ 1 := by omega
      have hm : s * half = if s = 0 then 0 else half := by
        split
        · next h => rw [h]; simp
        · next h => rw [show s = 1 by omega]; simp
      have hm1 : s * half ≤ half := by rw [hm]; split <;> omega
      have hm0 : 0 ≤ s * half := by rw [hm]; split <;> omega
      have hwr1 : wrap64 s = s := w64 _ (by omega)
      have hwr2 : wrap64 (s * half) = s * half := w64 _ (by omega)
      have hw1' := hw1 hlt
      have hwr3 : wrap64 (way + s * half) = way + s * half := w64 _ (by omega)
      have hwr4 : wrap64 (2 * node + s) = 2 * node + s := w64 _ (by omega)
      have HG := Lib.hid hgo
      have HD := Lib.hid hd
      have HW := Lib.hid hw1'
      clear hgo hd hf hh hw1 hw2 hw1' hm hs
      go_wp2
      go_roundw
      case rel =>
        refine ⟨f, way + s * half, 2 * node + s, half / 2, ?_, ?_, rfl, ⟨by omega, ?_, ?_, ?_, hf2, HG.out⟩, trivial⟩
        · simp only [ha, hwr1, hwr2, hwr3]
        · simp only [ha, hwr1, hwr4]
        · have := HW.out; omega
        · have := HW.out; have := HD.out; unfold Depth at *; omega
        · have := HD.out; unfold Depth at *; omega
      case measure => simp [intOf]; omega
    · have hz : victimGo f b node half way = way := by
        cases f with
        | zero => rfl
        | succ g => unfold victimGo; rw [if_neg hlt]
      have hwn : way < n := hw2 (by omega)
      have HG := Lib.hid (hz.symm.trans hgo)
      clear hgo hh hz hd hf hw1 hw2
      go_wp2
      go_ret
      rw [← HG.out]
      exact ⟨rfl, rfl, hw0, hwn⟩

end Go.Proofs.YtnieambhpmnliaaDoor
