/- The table of misses (mshr): contracts of its functions that only look. -/
import Derived.Test.YtnieambhpmnliaaDoorPure
namespace Go.Proofs.YtnieambhpmnliaaDoor
set_option linter.all false
set_option linter.unusedVariables false
set_option linter.unusedSimpArgs false
open Go Go.RowKit

/-! ### lists of misses in memory -/
def missCells (us : List (Int × Int)) : List Value := us.flatMap fun m => [.int .i64 m.1, .int .i64 m.2]
theorem missCells_length (us : List (Int × Int)) : (missCells us).length = 2 * us.length := by
  induction us with
  | nil => rfl
  | cons a l ih => simp [missCells] at ih ⊢; omega
theorem missCells_get (us : List (Int × Int)) (k : Nat) (h : k < us.length) (r : List Value) :
    (missCells us ++ r)[k * 2]? = some (.int .i64 us[k].1) ∧ (missCells us ++ r)[k * 2 + 1]? = some (.int .i64 us[k].2) := by
  induction us generalizing k with
  | nil => simp at h
  | cons a l ih =>
    cases k with
    | zero => simp [missCells]
    | succ k =>
      have := ih k (by simpa using h)
      have e1 : (k + 1) * 2 = k * 2 + 2 := by omega
      have e2 : (k + 1) * 2 + 1 = (k * 2 + 1) + 2 := by omega
      have hc : missCells (a :: l) ++ r = .int .i64 a.1 :: .int .i64 a.2 :: (missCells l ++ r) := by simp [missCells]
      rw [hc, e2, e1]
      simpa using this

/-- Where the first of a list stands that has a line; -1: nowhere. -/
def idxP {α : Type} (p : α → Bool) (l : List α) : Int := match l.findIdx? p with | some i => (i : Int) | none => -1
theorem idxP_none {α : Type} {p : α → Bool} {l : List α} (h : ∀ k (hk : k < l.length), p l[k] = false) : idxP p l = -1 := by
  unfold idxP
  rw [List.findIdx?_eq_none_iff.2 (fun x hx => by obtain ⟨k, hk, rfl⟩ := List.getElem_of_mem hx; exact h k hk)]
theorem idxP_at {α : Type} {p : α → Bool} {l : List α} {k : Nat} (hk : k < l.length) (hp : p l[k] = true) (h : ∀ j (hj : j < k), p (l[j]'(by omega)) = false) : idxP p l = k := by
  unfold idxP
  rw [List.findIdx?_eq_some_iff_getElem.2 ⟨hk, hp, fun j hj => by simpa using h j hj⟩]

set_option maxHeartbeats 400000 in
theorem known1_calls (l k line : Int) (bc : Nat) (w : World) (hb : w.cell? ⟨bc, 0, none⟩ = some (.int .i64 line)) :
    Calls Tryd.prog 71 #[.agg #[.int .i64 l, .int .i64 k], .pointer (some ⟨bc, 0, none⟩)] w fun e w' => e = .returned (.bool (l == line)) ∧ Below w.heap.size w w' := by
  have hlt := World.block_lt_of_cell? w _ hb
  have hne : bc ≠ w.heap.size := Nat.ne_of_lt hlt
  have hb' : (w.alloc (.cells #[.int .i64 l, .int .i64 k] 97)).cell? ⟨bc, 0, none⟩ = some (.int .i64 line) := by
    rw [World.cell?_alloc_lt _ _ _ hlt]; exact hb
  go_enter Tryd.func71, Tryd.ntmps71
  go_wp2
  go_ret
  exact ⟨rfl, (Below.refl _ _).alloc (Nat.le_refl _) _⟩

set_option maxHeartbeats 1000000 in
theorem index_miss (us : List (Int × Int)) (line : Int) (lb cap bc : Nat) (w : World) (hlen : us.length ≤ 1000)
    (hc : ∀ k (hk : k < us.length), w.cell? ⟨lb, k * 2, none⟩ = some (.int .i64 us[k].1) ∧ w.cell? ⟨lb, k * 2 + 1, none⟩ = some (.int .i64 us[k].2))
    (hb : w.cell? ⟨bc, 0, none⟩ = some (.int .i64 line)) (hlb : us ≠ [] → lb < w.heap.size) :
    Calls Tryd.prog 70 #[.slice (some ⟨lb, 0, none⟩) us.length cap, .func (.func 71) #[] #[.pointer (some ⟨bc, 0, none⟩)]] w
      fun e w' => e = .returned (.int .i64 (idxP (fun m => m.1 == line) us)) ∧ Below w.heap.size w w' := by
  have hbl := World.block_lt_of_cell? w _ hb
  have HC := Lib.hid hc
  have HL := Lib.hid hlb
  clear hc hlb
  go_enter Tryd.func70, Tryd.ntmps70
  go_wp2
  go_loopw [8] (fun i wr => ∃ k : Nat, k ≤ us.length ∧ i = .int .i64 k ∧ Below w.heap.size w wr ∧ Hid (∀ j (hj : j < k) (hl : j < us.length), (us[j].1 == line) = false)) (fun i _ => us.length - (intOf i).toNat)
  case atStart => exact ⟨0, Nat.zero_le _, rfl, Below.refl _ _, fun j hj => by omega⟩
  case round =>
    obtain ⟨k, hk, rfl, hbel, hno⟩ := hrel
    by_cases hlt : k < us.length
    · obtain ⟨h0, h1⟩ := HC.out k hlt
      have hl := HL.out (by intro e; rw [e] at hlt; simp at hlt)
      have g0 := (hbel.cell (p := ⟨lb, k * 2, none⟩) hl).trans h0
      have g1 := (hbel.cell (p := ⟨lb, k * 2 + 1, none⟩) hl).trans h1
      have gb := (hbel.cell (p := ⟨bc, 0, none⟩) hbl).trans hb
      clear h0 h1
      cases hq : (us[k].1 == line)
      · go_wp2_with (go_at_call 71; refine (known1_calls _ _ _ _ _ gb).mono ?_; rintro e w1 ⟨rfl, hb1⟩)
        go_roundw
        case rel =>
          refine ⟨k + 1, by omega, by go_num, hbel.trans (hb1.mono hbel.size), fun j hj hl => ?_⟩
          by_cases e : j = k
          · subst e; exact hq
          · exact hno j (by omega) hl
        case measure => simp [intOf]; omega
      · go_wp2_with (go_at_call 71; refine (known1_calls _ _ _ _ _ gb).mono ?_; rintro e w1 ⟨rfl, hb1⟩)
        go_ret
        exact ⟨ret_int (idxP_at hlt hq (fun j hj => hno j hj (by omega))).symm, hbel.trans (hb1.mono hbel.size)⟩
    · have : k = us.length := by omega
      subst this
      go_wp2
      go_ret
      exact ⟨ret_int (idxP_none (fun j hj => hno j hj hj)).symm, hbel⟩

/-- A nil list of misses. -/
theorem index_nil (f : Value) (w : World) :
    Calls Tryd.prog 70 #[.slice none 0 0, f] w fun e w' => e = .returned (.int .i64 (-1)) ∧ w = w' := by
  go_enter Tryd.func70, Tryd.ntmps70
  go_wp2
  refine wp_loop_rounds 1 ?_
  rw [rounds_succ]
  go_wp2
  go_ret
  exact ⟨rfl, rfl⟩

/-- A list of misses lies behind a slice: nil, or at the head of a block, with room behind it. -/
def SlAt (w : World) (lv : Option Addr) (us : List (Int × Int)) (cap : Nat) : Prop :=
  (lv = none ∧ us = [] ∧ cap = 0) ∨ ∃ lb r, lv = some ⟨lb, 0, none⟩ ∧ Blk w lb 97 (missCells us ++ r) ∧ us.length ≤ cap ∧ cap ≤ maxLen ∧ 2 * us.length + r.length = 2 * cap
/-- The table of misses in memory. -/
def TabAt (w : World) (tb : Nat) (most : Int) (us : List (Int × Int)) : Prop :=
  ∃ lv cap, Blk w tb 94 [.int .i64 most, .slice lv us.length cap] ∧ SlAt w lv us cap

theorem SlAt.below {w w' : World} {lv us cap} (h : SlAt w lv us cap) (hb : Below w.heap.size w w') : SlAt w' lv us cap := by
  rcases h with h | ⟨lb, r, h1, h2, h3⟩
  · exact Or.inl h
  · exact Or.inr ⟨lb, r, h1, h2.below hb h2.lt, h3⟩
theorem TabAt.below {w w' : World} {tb most us} (h : TabAt w tb most us) (hb : Below w.heap.size w w') : TabAt w' tb most us := by
  obtain ⟨lv, cap, h1, h2⟩ := h
  exact ⟨lv, cap, h1.below hb h1.lt, h2.below hb⟩
theorem SlAt.fr {B S} {w w' : World} {lv us cap} (h : SlAt w lv us cap) (hb : Fr B S w w') (hS : 97 ∉ S) : SlAt w' lv us cap := by
  rcases h with h | ⟨lb, r, h1, h2, h3⟩
  · exact Or.inl h
  · exact Or.inr ⟨lb, r, h1, h2.fr hb hS, h3⟩
theorem TabAt.fr {B S} {w w' : World} {tb most us} (h : TabAt w tb most us) (hb : Fr B S w w') (hS : 97 ∉ S) (hS' : 94 ∉ S) : TabAt w' tb most us := by
  obtain ⟨lv, cap, h1, h2⟩ := h
  exact ⟨lv, cap, h1.fr hb hS', h2.fr hb hS⟩

/-- IndexFunc over whatever list of misses. -/
theorem index_any (us : List (Int × Int)) (line : Int) (lv : Option Addr) (cap bc : Nat) (w : World) (hlen : us.length ≤ 1000) (hs : SlAt w lv us cap) (hb : w.cell? ⟨bc, 0, none⟩ = some (.int .i64 line)) :
    Calls Tryd.prog 70 #[.slice lv us.length cap, .func (.func 71) #[] #[.pointer (some ⟨bc, 0, none⟩)]] w
      fun e w' => e = .returned (.int .i64 (idxP (fun m => m.1 == line) us)) ∧ Below w.heap.size w w' := by
  rcases hs with ⟨rfl, rfl, rfl⟩ | ⟨lb, r, rfl, h2, h3⟩
  · exact (index_nil _ w).mono fun e w' ⟨he, hw⟩ => ⟨he, hw ▸ Below.refl _ _⟩
  · exact index_miss us line lb cap bc w hlen (fun k hk => by
      have := missCells_get us k hk r
      exact ⟨(h2.cell _).trans this.1, (h2.cell _).trans this.2⟩) hb (fun _ => h2.lt)

set_option maxHeartbeats 400000 in
theorem known_calls (us : List (Int × Int)) (line most : Int) (tb : Nat) (w : World) (hlen : us.length ≤ 1000) (h : TabAt w tb most us) :
    Calls Tryd.prog 48 #[.pointer (some ⟨tb, 0, none⟩), .int .i64 line] w fun e w' => e = .returned (.int .i64 (idxP (fun m => m.1 == line) us)) ∧ Below w.heap.size w w' := by
  have h' := h.below ((Below.refl w.heap.size w).alloc (Nat.le_refl _) (.cells #[.int .i64 line] 3))
  obtain ⟨lv, cap, hb, hs⟩ := h'
  have c1 := hb.cell 1
  simp at c1
  have HS := Lib.hid hs
  clear hs
  go_enter Tryd.func48, Tryd.ntmps48
  go_wp2_with (go_at_call 70; refine (index_any us line lv cap w.heap.size _ hlen HS.out (by simp)).mono ?_; rintro e w1 ⟨rfl, hb1⟩)
  go_ret
  exact ⟨rfl, ((Below.refl _ _).alloc (Nat.le_refl _) _).trans (hb1.mono (by simp))⟩

end Go.Proofs.YtnieambhpmnliaaDoor
