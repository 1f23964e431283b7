/- Contracts of the small functions that only compute: geom, bits of state, msg, plru. -/
import Derived.Test.YtnieambhpmnliaaDoorProg
import Derived.Test.YtnieambhpmnliaaDoorBase
namespace Go.Proofs.YtnieambhpmnliaaDoor
set_option linter.all false
set_option linter.unusedVariables false
set_option linter.unusedSimpArgs false
open Go Go.RowKit

/-! ### what they compute -/
def within (n lo hi : Int) : Bool := decide (lo ≤ n) && decide (n ≤ hi)
def power (n most : Int) : Bool := decide (1 ≤ n) && decide (n ≤ most) && (bits .and .i64 n (wrap64 (n - 1)) == 0)
def gset (line sets : Int) : Int := if within line 0 31 && power sets 8 then line % sets else -1
def pool (k : Int) : Int := if k < 1 then -1 else if k ≤ 4 then 0 else if k ≤ 10 then 1 else if k ≤ 12 then 2 else if k ≤ 15 then 3 else -1
def reads (s : Int) : Bool := decide (1 ≤ s) && decide (s ≤ 4)
def writes (s : Int) : Bool := s == 2 || s == 4
def dirty (s : Int) : Bool := s == 3 || s == 4
def share (s mode : Int) : Int := if s = 4 ∧ mode = 3 then 0 else if (s = 4 ∨ s = 3) ∧ (mode = 1 ∨ mode = 2) then 3 else 1
def next (s kind mode : Int) : Int × Bool :=
  if !reads s || decide (mode < 0) || decide (3 < mode) then (0, false)
  else if kind = 5 then (share s mode, dirty s)
  else if kind = 6 ∨ kind = 10 then (0, dirty s)
  else if kind = 9 then (1, dirty s)
  else if kind = 7 ∨ kind = 8 then (s, false)
  else (0, false)

set_option maxHeartbeats 400000 in
theorem within_calls (n lo hi : Int) (w : World) :
    Calls Tryd.prog 45 #[.int .i64 n, .int .i64 lo, .int .i64 hi] w fun e w' => e = .returned (.bool (within n lo hi)) ∧ w = w' := by
  go_enter Tryd.func45, Tryd.ntmps45
  go_wp2
  all_goals (go_ret; refine ⟨ret_bool ?_, rfl⟩; simp [within]; try omega)

set_option maxHeartbeats 400000 in
theorem mwithin_calls (n lo hi : Int) (w : World) :
    Calls Tryd.prog 82 #[.int .i64 n, .int .i64 lo, .int .i64 hi] w fun e w' => e = .returned (.bool (within n lo hi)) ∧ w = w' := by
  go_enter Tryd.func82, Tryd.ntmps82
  go_wp2
  all_goals (go_ret; refine ⟨ret_bool ?_, rfl⟩; simp [within]; try omega)

set_option maxHeartbeats 400000 in
theorem power_calls (n most : Int) (w : World) :
    Calls Tryd.prog 46 #[.int .i64 n, .int .i64 most] w fun e w' => e = .returned (.bool (power n most)) ∧ w = w' := by
  go_enter Tryd.func46, Tryd.ntmps46
  go_wp2
  all_goals (go_ret; go_tidy; refine ⟨ret_val ?_, rfl⟩; simp [power, *]; try (intros; omega))

set_option maxHeartbeats 400000 in
theorem apower_calls (n most : Int) (w : World) :
    Calls Tryd.prog 47 #[.int .i64 n, .int .i64 most] w fun e w' => e = .returned (.bool (power n most)) ∧ w = w' := by
  go_enter Tryd.func47, Tryd.ntmps47
  go_wp2
  all_goals (go_ret; go_tidy; refine ⟨ret_val ?_, rfl⟩; simp [power, *]; try (intros; omega))

set_option maxHeartbeats 400000 in
theorem pool_calls (k : Int) (w : World) :
    Calls Tryd.prog 57 #[.int .i64 k] w fun e w' => e = .returned (.int .i64 (pool k)) ∧ w = w' := by
  go_enter Tryd.func57, Tryd.ntmps57
  go_wp2
  all_goals (go_ret; refine ⟨ret_int ?_, rfl⟩; unfold pool; (repeat' split) <;> omega)

set_option maxHeartbeats 400000 in
theorem reads_calls (s : Int) (w : World) :
    Calls Tryd.prog 60 #[.int .i64 s] w fun e w' => e = .returned (.bool (reads s)) ∧ w = w' := by
  go_enter Tryd.func60, Tryd.ntmps60
  go_wp2
  all_goals (go_ret; refine ⟨ret_bool ?_, rfl⟩; simp [reads]; try omega)

set_option maxHeartbeats 400000 in
theorem writes_calls (s : Int) (w : World) :
    Calls Tryd.prog 37 #[.int .i64 s] w fun e w' => e = .returned (.bool (writes s)) ∧ w = w' := by
  go_enter Tryd.func37, Tryd.ntmps37
  go_wp2
  all_goals (go_ret; go_tidy; refine ⟨ret_val ?_, rfl⟩; simp [writes, *])

set_option maxHeartbeats 400000 in
theorem dirty_calls (s : Int) (w : World) :
    Calls Tryd.prog 62 #[.int .i64 s] w fun e w' => e = .returned (.bool (dirty s)) ∧ w = w' := by
  go_enter Tryd.func62, Tryd.ntmps62
  go_wp2
  all_goals (go_ret; go_tidy; refine ⟨ret_val ?_, rfl⟩; simp [dirty, *])

set_option maxHeartbeats 400000 in
theorem share_calls (s mode : Int) (w : World) :
    Calls Tryd.prog 61 #[.int .i64 s, .int .i64 mode] w fun e w' => e = .returned (.int .i64 (share s mode)) ∧ w = w' := by
  go_enter Tryd.func61, Tryd.ntmps61
  go_wp2
  all_goals (go_ret; go_tidy; refine ⟨ret_int ?_, rfl⟩; simp at *; unfold share; (repeat' split) <;> omega)

theorem within_lo {n lo hi : Int} (h : within n lo hi = true) : lo ≤ n := by simp [within] at h; exact h.1
theorem within_hi {n lo hi : Int} (h : within n lo hi = true) : n ≤ hi := by simp [within] at h; exact h.2
theorem power_lo {n m : Int} (h : power n m = true) : 1 ≤ n := by simp [power] at h; exact h.1.1
theorem power_hi {n m : Int} (h : power n m = true) : n ≤ m := by simp [power] at h; exact h.1.2

set_option maxHeartbeats 400000 in
theorem gset_calls (line sets : Int) (w : World) :
    Calls Tryd.prog 50 #[.int .i64 line, .int .i64 sets] w fun e w' => e = .returned (.int .i64 (gset line sets)) ∧ w = w' := by
  cases hw : within line 0 31 <;> cases hp : power sets 8
  case true.true =>
    have h0 := within_lo hw
    have h1 := within_hi hw
    have h2 := power_lo hp
    have h3 := power_hi hp
    go_enter Tryd.func50, Tryd.ntmps50
    go_wp2_with (first | (go_at_call 45; refine (within_calls _ _ _ _).mono ?_; rintro e w' ⟨rfl, rfl⟩) | (go_at_call 46; refine (power_calls _ _ _).mono ?_; rintro e w' ⟨rfl, rfl⟩))
    go_ret; go_tidy; refine ⟨ret_int ?_, rfl⟩; simp [gset, *]
  all_goals
    go_enter Tryd.func50, Tryd.ntmps50
    go_wp2_with (first | (go_at_call 45; refine (within_calls _ _ _ _).mono ?_; rintro e w' ⟨rfl, rfl⟩) | (go_at_call 46; refine (power_calls _ _ _).mono ?_; rintro e w' ⟨rfl, rfl⟩))
    go_ret; go_tidy; refine ⟨ret_int ?_, rfl⟩; simp [gset, *]

set_option maxHeartbeats 400000 in
theorem next_calls (s kind mode : Int) (w : World) :
    Calls Tryd.prog 38 #[.int .i64 s, .int .i64 kind, .int .i64 mode] w fun e w' => e = .returned (.tuple #[.int .i64 (next s kind mode).1, .bool (next s kind mode).2]) ∧ w = w' := by
  go_enter Tryd.func38, Tryd.ntmps38
  go_wp2_with (first | (go_at_call 60; refine (reads_calls _ _).mono ?_; rintro e w' ⟨rfl, rfl⟩) | (go_at_call 62; refine (dirty_calls _ _).mono ?_; rintro e w' ⟨rfl, rfl⟩) | (go_at_call 61; refine (share_calls _ _ _).mono ?_; rintro e w' ⟨rfl, rfl⟩))
  all_goals (go_ret2; go_tidy; refine ⟨ret_val ?_, rfl⟩; simp at *; simp [next, *]; try (first | omega | (rw [if_neg (by omega)]; simp)))

/-! ### messages -/
structure Msg where
  kind : Int
  core : Int
  line : Int
  state : Int
  mode : Int
  epoch : Int
  word : Int
  value : Int
  d0 : Int
  d1 : Int
  d2 : Int
  d3 : Int
  has : Bool
  deriving DecidableEq
def Msg.cells (m : Msg) : List Value := [.int .i64 m.kind, .int .i64 m.core, .int .i64 m.line, .int .i64 m.state, .int .i64 m.mode, .int .i64 m.epoch, .int .i64 m.word, .int .u32 m.value, .int .u32 m.d0, .int .u32 m.d1, .int .u32 m.d2, .int .u32 m.d3, .bool m.has]
def Msg.val (m : Msg) : Value := .agg #[.int .i64 m.kind, .int .i64 m.core, .int .i64 m.line, .int .i64 m.state, .int .i64 m.mode, .int .i64 m.epoch, .int .i64 m.word, .int .u32 m.value, .int .u32 m.d0, .int .u32 m.d1, .int .u32 m.d2, .int .u32 m.d3, .bool m.has]
def Msg.zero : Msg := ⟨0, 0, 0, 0, 0, 0, 0, 0, 0, 0, 0, 0, false⟩

def fword (k : Int) : Bool := k == 3 || k == 8 || k == 14
def fmode (k : Int) : Bool := k == 5 || k == 9 || k == 13
def fepoch (k : Int) : Bool := k == 9 || k == 13
def fstate (k : Int) : Bool := k == 11 || k == 13

set_option maxHeartbeats 400000 in
theorem named_calls (k : Int) (w : World) :
    Calls Tryd.prog 83 #[.int .i64 k] w fun e w' => e = .returned (.agg #[.bool (fword k), .bool (fmode k), .bool (fepoch k), .bool (fstate k)]) ∧ Below w.heap.size w w' := by
  go_enter Tryd.func83, Tryd.ntmps83
  go_wp2
  all_goals (go_tidy; refine bodyPost_ret (v := .agg #[.bool (fword k), .bool (fmode k), .bool (fepoch k), .bool (fstate k)]) ?_ rfl ⟨rfl, ?_⟩)
  all_goals first | (refine Below.alloc (Below.alloc (Below.refl _ _) (Nat.le_refl _) _) (by simp) _; done) | (simp at *; simp [results, Tryd.results83, go_sem, fword, fmode, fepoch, fstate, *]; done) | skip
  all_goals go_show

end Go.Proofs.YtnieambhpmnliaaDoor
