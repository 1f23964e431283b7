/- What the statements hold against each other: Within, data, Error, Is. -/
import Derived.Test.YtnieambhpmnliaaDoorAs
import Derived.Test.YtnieambhpmnliaaDoorMsg
namespace Go.Proofs.YtnieambhpmnliaaDoor
set_option linter.all false
set_option linter.unusedVariables false
set_option linter.unusedSimpArgs false
open Go Go.RowKit

/-- A number between bounds, made of any. -/
def wth (n lo hi : Int) : Int := lo + n % (hi - lo + 1)
theorem wth_range (n lo hi : Int) (h : lo ≤ hi) : lo ≤ wth n lo hi ∧ wth n lo hi ≤ hi := by
  unfold wth
  have h1 := Int.emod_nonneg n (show hi - lo + 1 ≠ 0 by omega)
  have h2 := Int.emod_lt_of_pos n (show 0 < hi - lo + 1 by omega)
  omega
theorem tmod_emod (n m : Int) (hm : 0 < m) : (n.tmod m < 0 → n % m = n.tmod m + m) ∧ (0 ≤ n.tmod m → n % m = n.tmod m) ∧ -m < n.tmod m ∧ n.tmod m < m := by
  by_cases hn : 0 ≤ n
  · rw [Int.tmod_eq_emod_of_nonneg hn]
    have h1 := Int.emod_nonneg n (show m ≠ 0 by omega)
    have h2 := Int.emod_lt_of_pos n hm
    omega
  · obtain ⟨a, rfl⟩ : ∃ a, n = -a := ⟨-n, by omega⟩
    rw [Int.neg_tmod, Int.tmod_eq_emod_of_nonneg (show 0 ≤ a by omega)]
    have h1 := Int.emod_nonneg a (show m ≠ 0 by omega)
    have h2 := Int.emod_lt_of_pos a hm
    have h3 := Int.emod_add_mul_ediv a m
    by_cases hq : a % m = 0
    · have e : -a = 0 + m * (-(a / m)) := by rw [Int.mul_neg]; omega
      rw [hq, e, Int.add_mul_emod_self_left]
      simp; omega
    · have e : -a = (m - a % m) + m * (-(a / m) - 1) := by rw [Int.mul_sub, Int.mul_neg, Int.mul_one]; omega
      have e2 : (-a) % m = m - a % m := by rw [e, Int.add_mul_emod_self_left, Int.emod_eq_of_lt (by omega) (by omega)]
      omega
theorem wth_calls (n lo hi : Int) (w : World) (h : -1000 ≤ lo ∧ lo ≤ hi ∧ hi ≤ 1000) :
    Calls Tryd.prog 20 #[.int .i64 n, .int .i64 lo, .int .i64 hi] w fun e w' => e = .returned (.int .i64 (wth n lo hi)) ∧ w = w' := by
  obtain ⟨h0, h1, h2⟩ := h
  obtain ⟨t0, t1, t2, t3⟩ := tmod_emod n (hi - lo + 1) (by omega)
  have HE := Lib.hid (And.intro t0 t1)
  have hm : ((hi - lo + 1) == 0) = false := by simp; omega
  clear t0 t1
  have hw : wth n lo hi = lo + n % (hi - lo + 1) := rfl
  have HW := Lib.hid hw
  clear hw
  by_cases hneg : n.tmod (hi - lo + 1) < 0
  · have hq := HE.out.1 hneg
    have HQ := Lib.hid hq
    clear hq
    go_enter Tryd.func20, Tryd.ntmps20
    go_wp2
    go_ret
    refine ⟨ret_int ?_, rfl⟩
    rw [HW.out, HQ.out]; omega
  · have hq := HE.out.2 (by omega)
    have HQ := Lib.hid hq
    clear hq
    go_enter Tryd.func20, Tryd.ntmps20
    go_wp2
    go_ret
    refine ⟨ret_int ?_, rfl⟩
    rw [HW.out, HQ.out]

/-- An answer of the home with a line. -/
def dataM (line state a b c d : Int) : Msg := ⟨13, 0, line, state, 0, 0, 0, 0, a, b, c, d, true⟩
set_option maxHeartbeats 1000000 in
theorem data_calls (line state a b c d : Int) (w : World) :
    Calls Tryd.prog 13 #[.int .i64 line, .int .i64 state, .agg #[.int .u32 a, .int .u32 b, .int .u32 c, .int .u32 d]] w fun e w' => e = .returned (dataM line state a b c d).val ∧ Below w.heap.size w w' := by
  have hb1 := (Below.refl w.heap.size w).alloc (Nat.le_refl _) (.cells #[.int .u32 a, .int .u32 b, .int .u32 c, .int .u32 d] 31)
  have hb2 := hb1.alloc (by simp) (.cells (dataM line state a b c d).cells.toArray 33)
  have hk := blk_new (w.alloc (.cells #[.int .u32 a, .int .u32 b, .int .u32 c, .int .u32 d] 31)) (dataM line state a b c d).cells 33 (w.heap.size + 1) (by simp)
  have HK := Lib.hid hk
  have HB := Lib.hid hb2
  clear hb1 hb2 hk
  go_enter Tryd.func13, Tryd.ntmps13
  go_wp2
  exact bodyPost_ret (results_msg1 Tryd.results13 (dataM line state a b c d) rfl HK.out) rfl ⟨rfl, HB.out⟩

set_option maxHeartbeats 1000000 in
theorem error_calls (B : Nat) (p : Nat → Addr) (j : Nat) (w : World) (hg : Sent B w p) (hj : 1 ≤ j ∧ j ≤ 10) :
    Calls Tryd.prog 41 #[.int .i64 j] w fun e w' => e = .returned (sentv (p j)) ∧ w = w' := by
  obtain ⟨g1, g2, g3, g4, g5, g6, g7, g8, g9, g10, _⟩ := hg
  have hc : j = 1 ∨ j = 2 ∨ j = 3 ∨ j = 4 ∨ j = 5 ∨ j = 6 ∨ j = 7 ∨ j = 8 ∨ j = 9 ∨ j = 10 := by omega
  clear hj
  unfold sentv at *
  rcases hc with rfl | rfl | rfl | rfl | rfl | rfl | rfl | rfl | rfl | rfl
  all_goals
    go_enter Tryd.func41, Tryd.ntmps41
    go_wp2
    go_ret
    exact ⟨rfl, rfl⟩

/-- Is: an error that is none. -/
theorem kis_nil (op : Value) (at_ : Int) (w : World) :
    Calls Tryd.prog 17 #[.nilIface, .int .i64 0, op, .int .i64 at_] w fun e w' => e = .returned (.bool true) ∧ w = w' := by
  go_enter Tryd.func17, Tryd.ntmps17
  go_wp2
  go_ret
  exact ⟨rfl, rfl⟩

set_option maxHeartbeats 2000000 in
/-- Is: an error that is wrapped, with that Op first. -/
theorem kis_fault (B : Nat) (p : Nat → Addr) (op : List UInt8) (at_ at2 : Int) (T : TypeId) (v : Value) (i j : Nat) (w : World) (hg : Sent B w p) (hj : 1 ≤ j ∧ j ≤ 10)
    (hIs : ∀ w1, Below w.heap.size w w1 → Calls Tryd.prog 40 #[faultv op at_ (.iface T v), sentv (p j)] w1 fun e w' => e = .returned (.bool (i == j)) ∧ Below w1.heap.size w1 w') :
    Calls Tryd.prog 17 #[faultv op at_ (.iface T v), .int .i64 j, .string ⟨op.toArray⟩, .int .i64 at2] w fun e w' => e = .returned (.bool ((i == j) && (at_ == at2))) ∧ Below w.heap.size w w' := by
  have HI := Lib.hid hIs
  have HE := Lib.hid (fun w1 (hb : Below w.heap.size w w1) => error_calls B p j w1 (hg.below hb) hj)
  have HA := Lib.hid (fun w1 t (hb : Below w.heap.size w w1) (ht : Blk w1 t 81 [.string ⟨#[]⟩, .int .i64 0, .nilIface]) => as_hit B p op at_ T v t _ _ _ w1 (hg.below hb) ht)
  have hjz : ((j : Int) == 0) = false := by simp; omega
  have hb0 := (Below.refl w.heap.size w).alloc (Nat.le_refl _) (.cells #[.string ⟨#[]⟩, .int .i64 0, .nilIface] 81)
  have hk0 := blk_new w [.string ⟨#[]⟩, .int .i64 0, .nilIface] 81 _ rfl
  have HB0 := Lib.hid hb0
  have HK0 := Lib.hid hk0
  clear hIs hg hj hb0 hk0
  generalize (i == j) = r at HI ⊢
  unfold faultv at *
  go_enter Tryd.func17, Tryd.ntmps17
  go_wp2_with fail
  refine (HE.out _ HB0.out).mono ?_
  rintro e w1 ⟨rfl, rfl⟩
  generalize w.alloc (.cells #[.string ⟨#[]⟩, .int .i64 0, .nilIface] 81) = W at HB0 HK0 ⊢
  go_wp2_with fail
  refine (HI.out _ HB0.out).mono ?_
  rintro e w2 ⟨rfl, hb2⟩
  have HB2 := Lib.hid (HB0.out.trans (hb2.mono HB0.out.size))
  have HK2 := Lib.hid (HK0.out.below hb2 HK0.out.lt)
  clear hb2
  cases r
  · go_wp2
    go_ret
    exact ⟨rfl, HB2.out⟩
  · go_wp2_with fail
    refine (HA.out _ _ HB2.out HK2.out).mono ?_
    rintro e w3 ⟨rfl, hk3, hf3⟩
    have HB3 : Hid (Below w.heap.size w w3) := HB2.out.trans ⟨hf3.os, hf3.tape, hf3.output, hf3.size, fun k hk => hf3.block k (Nat.lt_of_lt_of_le hk HB2.out.size) (fun hm => by simp at hm; omega)⟩
    have r0 := hk3.cell 0
    have r1 := hk3.cell 1
    simp only [List.getElem?_cons_succ, List.getElem?_cons_zero] at r0 r1
    clear hk3 hf3
    go_wp2
    go_ret
    exact ⟨ret_bool (by simp), HB3.out⟩

theorem kis_one (B : Nat) (p : Nat → Addr) (op : List UInt8) (at_ at2 : Int) (i j : Nat) (w : World) (hg : Sent B w p) (hi : 1 ≤ i ∧ i ≤ 10) (hj : 1 ≤ j ∧ j ≤ 10) :
    Calls Tryd.prog 17 #[faultv op at_ (sentv (p i)), .int .i64 j, .string ⟨op.toArray⟩, .int .i64 at2] w fun e w' => e = .returned (.bool ((i == j) && (at_ == at2))) ∧ Below w.heap.size w w' :=
  kis_fault B p op at_ at2 _ _ i j w hg hj (fun w1 hb => is_one B p op at_ i j w1 (hg.below hb) hi hj)
theorem kis_two (B : Nat) (p : Nat → Addr) (op op2 : List UInt8) (at_ at3 at2 : Int) (i j : Nat) (w : World) (hg : Sent B w p) (hi : 1 ≤ i ∧ i ≤ 10) (hj : 1 ≤ j ∧ j ≤ 10) :
    Calls Tryd.prog 17 #[faultv op at_ (faultv op2 at3 (sentv (p i))), .int .i64 j, .string ⟨op.toArray⟩, .int .i64 at2] w fun e w' => e = .returned (.bool ((i == j) && (at_ == at2))) ∧ Below w.heap.size w w' :=
  kis_fault B p op at_ at2 _ _ i j w hg hj (fun w1 hb => is_two B p op op2 at_ at3 i j w1 (hg.below hb) hi hj)

end Go.Proofs.YtnieambhpmnliaaDoor
