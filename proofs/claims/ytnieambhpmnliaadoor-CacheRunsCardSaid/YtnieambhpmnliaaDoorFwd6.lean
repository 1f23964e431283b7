/- A cache: Forward as one. -/
import Derived.Test.YtnieambhpmnliaaDoorFwd4
import Derived.Test.YtnieambhpmnliaaDoorFwd5
namespace Go.Proofs.YtnieambhpmnliaaDoor
set_option linter.all false
set_option linter.unusedVariables false
set_option linter.unusedSimpArgs false
open Go Go.RowKit

theorem next_facts {s k mode : Int} (hs : 1 ≤ s ∧ s ≤ 4) (hm : 0 ≤ mode ∧ mode ≤ 3) (hk : k = 5 ∨ k = 6 ∨ k = 7 ∨ k = 8 ∨ k = 9 ∨ k = 10) :
    (0 ≤ (next s k mode).1 ∧ (next s k mode).1 ≤ 4) ∧ ((k = 6 ∨ k = 10) → (next s k mode).1 = 0) ∧ (k = 9 → (next s k mode).1 = 1) ∧ ((k = 7 ∨ k = 8) → (next s k mode).1 = s ∧ (next s k mode).2 = false) := by
  have h1 : reads s = true := by simp [reads, hs.1, hs.2]
  have h2 : decide (mode < 0) = false := by simp; omega
  have h3 : decide (3 < mode) = false := by simp; omega
  unfold next
  simp only [h1, h2, h3, Bool.not_true, Bool.or_self, Bool.false_eq_true, if_false]
  have hsh : share s mode = 0 ∨ share s mode = 1 ∨ share s mode = 3 := by unfold share; (repeat' split) <;> simp
  rcases hk with rfl | rfl | rfl | rfl | rfl | rfl <;> simp <;> omega

theorem forward_calls (B : Nat) (c : Ca) (m : Msg) (p : Nat → Addr) (cb : Nat) (F : List Nat) (w : World) (h : CAt B w cb c F) (hB : B ≤ w.heap.size) :
    Calls Tryd.prog 16 #[.pointer (some ⟨cb, 0, none⟩), m.val] w
      fun e w' => e = .returned (.tuple #[(forwardC c m).1.val, .bool (forwardC c m).2.1]) ∧ CStep B w cb F w' (forwardC c m).2.2 := by
  cases hmi : mineC c m 1
  case false => unfold forwardC; rw [hmi]; exact fwd_mine B c m p cb F w h hB hmi
  cases hg : getA c.A m.line with
  | none =>
    have hs : (getA c.A m.line).isSome = false := by rw [hg]; rfl
    unfold forwardC dropC
    rw [hmi, hs]
    simp only [Bool.not_true, Bool.false_and, Bool.not_false, Bool.false_eq_true, if_false, if_true]
    by_cases hd : m.kind = 10 ∧ (missOf c.M m.line).1 = 4
    · rw [if_pos hd]; exact fwd_gone_drop B c m p cb F w h hB hmi hs hd.1 hd.2
    · rw [if_neg hd]; exact fwd_gone_keep B c m p cb F w h hB hmi hs (fun h1 h2 => hd ⟨h1, h2⟩)
  | some x =>
    have hs : (getA c.A m.line).isSome = true := by rw [hg]; rfl
    have he : entC c m.line = x := by unfold entC; rw [hg]; rfl
    cases hfr : x.fresh
    case true =>
      unfold forwardC; rw [hmi, hs, he, hfr]
      exact fwd_fresh B c m p cb F w h hB hmi hs (by rw [he]; exact hfr)
    obtain ⟨hri, hpo, hco⟩ := mine_right hmi
    obtain ⟨hl, hwd, hst, hmd, hep⟩ := right_facts hri
    have hk := pool_one hpo
    obtain ⟨_, hxl, hx0, hxo, hput⟩ := getA_some h.ok.a hg
    obtain ⟨⟨n0, n4⟩, nz, n9, n7⟩ := next_facts hxo.state hmd hk
    obtain ⟨s', b, hn⟩ : ∃ s' b, next x.state m.kind m.mode = (s', b) := ⟨_, _, rfl⟩
    have hO : fwdOut c x m = ⟨11, c.core, m.line, s', 0, 0, 0, 0, if b then x.d0 else 0, if b then x.d1 else 0, if b then x.d2 else 0, if b then x.d3 else 0, b⟩ := by unfold fwdOut; rw [hn]; rfl
    have hF : forwardC c m = (⟨11, c.core, m.line, s', 0, 0, 0, 0, if b then x.d0 else 0, if b then x.d1 else 0, if b then x.d2 else 0, if b then x.d3 else 0, b⟩, true, { dropC c m with A := if s' = 0 then dropA c.A m.line else (putA c.A (fwdEnt x m)).getD c.A }) := by
      unfold forwardC
      rw [hmi, hs, he, hfr, hO, hn]; rfl
    rw [hF]
    rw [hn] at n0 n4 nz n9 n7
    simp only at n0 n4 nz n9 n7
    have hE : fwdEnt x m = (if m.kind = 7 then { x with state := s', held := true } else if m.kind = 8 then setWord { x with state := s', held := false } m.word m.value else if m.kind = 9 then { x with state := s', mode := m.mode, epoch := m.epoch } else { x with state := s' }) := by unfold fwdEnt; rw [hn]
    have hD : m.kind ≠ 10 → dropC c m = c := fun h => by unfold dropC; rw [if_neg (fun q => h q.1)]
    clear hF hO
    have hsome : ∀ y : Ent, y.line = m.line → ∃ A', putA c.A y = some A' := fun y hy => Option.isSome_iff_exists.1 (hput y hy)
    by_cases h10 : m.kind = 10
    · have hz : s' = 0 := nz (Or.inr h10)
      rw [if_pos hz]
      by_cases hd : (missOf c.M m.line).1 = 4
      · rw [show dropC c m = { c with M := dropM c.M m.line } by unfold dropC; rw [if_pos ⟨h10, hd⟩]]
        exact fwd_10_end B c m p cb F w h hB hmi x hg hfr h10 s' b hn hd hz
      · rw [show dropC c m = c by unfold dropC; rw [if_neg (fun q => hd q.2)]]
        exact fwd_10 B c m p cb F w h hB hmi x hg hfr h10 s' b hn (by simpa using hd) hz
    rw [hD h10]
    rcases hk with hk | hk | hk | hk | hk | hk
    · rw [if_neg (by omega), if_neg (by omega), if_neg (by omega)] at hE
      by_cases hz : s' = 0
      · rw [if_pos hz]; exact fwd_5_drop B c m p cb F w h hB hmi x hg hfr hk s' b hn hz
      · obtain ⟨A', hA⟩ := hsome { x with state := s' } hxl
        rw [if_neg hz, hE, hA]
        exact fwd_5_put B c m p cb F w h hB hmi x hg hfr hk s' b hn hz (by omega) A' hA
    · rw [if_pos (nz (Or.inl hk))]
      exact fwd_6 B c m p cb F w h hB hmi x hg hfr hk s' b hn (nz (Or.inl hk))
    · obtain ⟨hss, hbb⟩ := n7 (Or.inl hk)
      have hr := hxo.state
      rw [if_pos hk] at hE
      subst hbb
      obtain ⟨A', hA⟩ := hsome { x with state := s', held := true } hxl
      rw [if_neg (show ¬ s' = 0 by omega), hE, hA]
      exact fwd_7 B c m p cb F w h hB hmi x hg hfr hk s' hn (by omega) (by omega) A' hA
    · obtain ⟨hss, hbb⟩ := n7 (Or.inr hk)
      have hr := hxo.state
      rw [if_neg (by omega), if_pos hk] at hE
      subst hbb
      have hw : m.word = 0 ∨ m.word = 1 ∨ m.word = 2 ∨ m.word = 3 := by omega
      rw [if_neg (show ¬ s' = 0 by omega), hE]
      rcases hw with hw | hw | hw | hw
      · obtain ⟨A', hA⟩ := hsome { x with state := s', held := false, d0 := m.value } hxl
        rw [show setWord { x with state := s', held := false } m.word m.value = { x with state := s', held := false, d0 := m.value } by rw [hw]; rfl, hA]
        exact fwd_8_0 B c m p cb F w h hB hmi x hg hfr hk s' hn hw (by omega) (by omega) A' hA
      · obtain ⟨A', hA⟩ := hsome { x with state := s', held := false, d1 := m.value } hxl
        rw [show setWord { x with state := s', held := false } m.word m.value = { x with state := s', held := false, d1 := m.value } by rw [hw]; rfl, hA]
        exact fwd_8_1 B c m p cb F w h hB hmi x hg hfr hk s' hn hw (by omega) (by omega) A' hA
      · obtain ⟨A', hA⟩ := hsome { x with state := s', held := false, d2 := m.value } hxl
        rw [show setWord { x with state := s', held := false } m.word m.value = { x with state := s', held := false, d2 := m.value } by rw [hw]; rfl, hA]
        exact fwd_8_2 B c m p cb F w h hB hmi x hg hfr hk s' hn hw (by omega) (by omega) A' hA
      · obtain ⟨A', hA⟩ := hsome { x with state := s', held := false, d3 := m.value } hxl
        rw [show setWord { x with state := s', held := false } m.word m.value = { x with state := s', held := false, d3 := m.value } by rw [hw]; rfl, hA]
        exact fwd_8_3 B c m p cb F w h hB hmi x hg hfr hk s' hn hw (by omega) (by omega) A' hA
    · have h1 := n9 hk
      rw [if_neg (by omega), if_neg (by omega), if_pos hk] at hE
      obtain ⟨A', hA⟩ := hsome { x with state := s', mode := m.mode, epoch := m.epoch } hxl
      rw [if_neg (show ¬ s' = 0 by omega), hE, hA]
      exact fwd_9 B c m p cb F w h hB hmi x hg hfr hk s' b hn (by omega) (by omega) A' hA
    · exact absurd hk h10

end Go.Proofs.YtnieambhpmnliaaDoor
