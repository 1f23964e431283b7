/- The lines of a cache (array): Contains over ints, Victim. -/
import Derived.Test.YtnieambhpmnliaaDoorArr4
namespace Go.Proofs.YtnieambhpmnliaaDoor
set_option linter.all false
set_option linter.unusedVariables false
set_option linter.unusedSimpArgs false
open Go Go.RowKit

/-! ### lists of ints in memory -/
def intCells (l : List Int) : List Value := l.map (Value.int .i64)
def SlI (w : World) (lv : Option Addr) (l : List Int) (cap : Nat) : Prop :=
  (lv = none ∧ l = [] ∧ cap = 0) ∨ ∃ lb r, lv = some ⟨lb, 0, none⟩ ∧ Blk w lb 3 (intCells l ++ r) ∧ l.length ≤ cap ∧ cap ≤ maxLen ∧ l.length + r.length = cap
theorem SlI.below {w w' : World} {lv l cap} (h : SlI w lv l cap) (hb : Below w.heap.size w w') : SlI w' lv l cap := by
  rcases h with h | ⟨lb, r, h1, h2, h3⟩
  · exact Or.inl h
  · exact Or.inr ⟨lb, r, h1, h2.below hb h2.lt, h3⟩

set_option maxHeartbeats 400000 in
theorem iindex_nil (x : Int) (w : World) :
    Calls Tryd.prog 87 #[.slice none 0 0, .int .i64 x] w fun e w' => e = .returned (.int .i64 (-1)) ∧ w = w' := by
  go_enter Tryd.func87, Tryd.ntmps87
  go_wp2
  refine wp_loop_rounds 1 ?_
  rw [rounds_succ]
  go_wp2
  go_ret
  exact ⟨rfl, rfl⟩

set_option maxHeartbeats 1000000 in
theorem iindex_some (l : List Int) (r : List Value) (x : Int) (lb cap : Nat) (w : World) (hlen : l.length ≤ 1000) (h : Blk w lb 3 (intCells l ++ r)) :
    Calls Tryd.prog 87 #[.slice (some ⟨lb, 0, none⟩) l.length cap, .int .i64 x] w fun e w' => e = .returned (.int .i64 (idxP (fun y => y == x) l)) ∧ w = w' := by
  have HC : Hid (∀ k (hk : k < l.length), w.cell? ⟨lb, k, none⟩ = some (.int .i64 l[k])) := fun k hk => by
    rw [h.cell, List.getElem?_append_left (by simp [intCells]; exact hk)]; simp [intCells, hk]
  clear h
  go_enter Tryd.func87, Tryd.ntmps87
  go_wp2
  go_loopw [8] (fun i wr => ∃ k : Nat, k ≤ l.length ∧ i = .int .i64 k ∧ w = wr ∧ Hid (∀ j (hj : j < k) (hl : j < l.length), (l[j] == x) = false)) (fun i _ => l.length - (intOf i).toNat)
  case atStart => exact ⟨0, Nat.zero_le _, rfl, rfl, fun j hj => by omega⟩
  case round =>
    obtain ⟨k, hk, rfl, rfl, hno⟩ := hrel
    by_cases hlt : k < l.length
    · have g0 := HC.out k hlt
      have hsym : (x == l[k]) = (l[k] == x) := by rw [Bool.eq_iff_iff, beq_iff_eq, beq_iff_eq]; exact eq_comm
      cases hq : (l[k] == x)
      · rw [hq] at hsym
        go_wp2
        go_roundw
        case rel =>
          refine ⟨k + 1, by omega, by go_num, trivial, fun j hj hl => ?_⟩
          by_cases e : j = k
          · subst e; exact hq
          · exact hno j (by omega) hl
        case measure => simp [intOf]; omega
      · rw [hq] at hsym
        go_wp2
        go_ret
        exact ⟨ret_int (idxP_at hlt hq (fun j hj => hno j hj (by omega))).symm, rfl⟩
    · have : k = l.length := by omega
      subst this
      go_wp2
      go_ret
      exact ⟨ret_int (idxP_none (fun j hj => hno j hj hj)).symm, rfl⟩

theorem contains_calls (l : List Int) (x : Int) (lv : Option Addr) (cap : Nat) (w : World) (hlen : l.length ≤ 1000) (h : SlI w lv l cap) :
    Calls Tryd.prog 77 #[.slice lv l.length cap, .int .i64 x] w fun e w' => e = .returned (.bool (l.contains x)) ∧ w = w' := by
  have hc : Calls Tryd.prog 87 #[.slice lv l.length cap, .int .i64 x] w fun e w' => e = .returned (.int .i64 (idxP (fun y => y == x) l)) ∧ w = w' := by
    rcases h with ⟨rfl, rfl, rfl⟩ | ⟨lb, r, rfl, h2, _⟩
    · exact iindex_nil x w
    · exact iindex_some l r x lb cap w hlen h2
  have e1 : decide (0 ≤ idxP (fun y => y == x) l) = l.contains x := by
    rcases idxP_cases (fun y => y == x) l with ⟨hi, _, hn⟩ | ⟨k, hk, hi, hp, _⟩
    · rw [hi, Bool.eq_iff_iff]
      simp only [show ¬ (0 : Int) ≤ -1 by omega, decide_false, Bool.false_eq_true, false_iff, List.contains_iff_mem]
      intro hm; have := hn x hm; simp at this
    · rw [hi, Bool.eq_iff_iff]
      simp only [show (0 : Int) ≤ (k : Int) by omega, decide_true, true_iff, List.contains_iff_mem]
      have : l[k] = x := by simpa using hp
      rw [← this]; exact List.getElem_mem hk
  clear h
  generalize idxP (fun y => y == x) l = q at hc e1
  go_enter Tryd.func77, Tryd.ntmps77
  go_wp2_with (first | (go_at_call 87; refine hc.mono ?_; rintro e w' ⟨rfl, rfl⟩) | fail)
  go_ret
  exact ⟨ret_bool (by simp), rfl⟩

/-- The line that goes for another one, if any does. -/
def pickE (es : List Ent) (pinned : List Int) (v : Int) : Int :=
  if pinned.contains v then (match es.find? (fun e => !pinned.contains e.line) with | some e => e.line | none => -1) else v
def victimA (A : Sets) (line : Int) (pinned : List Int) : Int :=
  if (there A line || decide (0 ≤ idxP isFree (waysOf A line))) = true then -1
  else pickE (waysOf A line) pinned (((waysOf A line).getD (victim (bitsOf A line) (waysOf A line).length).toNat .zero).line)

set_option maxHeartbeats 1000000 in
theorem victim_none (B : Nat) (n k : Nat) (A : Sets) (line : Int) (ab sb : Nat) (wbs : List Nat) (w : World) (hok : AOk n k A) (h : ArrR B w ab sb wbs A) (hl : within line 0 31 = true) (pv : Value)
    (hn : (there A line || decide (0 ≤ idxP isFree (waysOf A line))) = true) :
    Calls Tryd.prog 52 #[.pointer (some ⟨ab, 0, none⟩), .int .i64 line, pv] w fun e w' => e = .returned (.int .i64 (-1)) ∧ Below w.heap.size w w' := by
  have HF := Lib.hid (find_calls B n k A line ab sb wbs w hok h hl)
  have HR := Lib.hid (fun w1 (h1 : Below w.heap.size w w1) => free_calls B sb _ _ _ _ w1 ((h.below h1).row hok line))
  clear h hok
  unfold there at hn
  by_cases hp : 0 ≤ idxP (isLine line) (waysOf A line)
  · clear hn
    generalize idxP (isLine line) (waysOf A line) = q at HF hp ⊢
    go_enter Tryd.func52, Tryd.ntmps52
    go_wp2_with (first | (go_at_call 49; refine HF.out.mono ?_; rintro e w1 ⟨rfl, hb1⟩) | fail)
    go_ret
    exact ⟨rfl, hb1⟩
  · have hq : 0 ≤ idxP isFree (waysOf A line) := by simpa [hp] using hn
    clear hn
    generalize idxP (isLine line) (waysOf A line) = q at HF hp ⊢
    generalize idxP isFree (waysOf A line) = q2 at HR hq ⊢
    go_enter Tryd.func52, Tryd.ntmps52
    go_wp2_with (first | (go_at_call 49; refine HF.out.mono ?_; rintro e w1 ⟨rfl, hb1⟩) | (go_at_call 51; refine (HR.out _ hb1).mono ?_; rintro e w2 ⟨rfl, hb2⟩))
    go_ret
    exact ⟨rfl, hb1.trans (hb2.mono hb1.size)⟩

theorem victim_range (b n : Int) (hn : power n 8 = true) (b0 : 0 ≤ b) (b1 : b ≤ 255) : 0 ≤ victim b n ∧ victim b n < n := by
  have h : (List.range 256).all (fun b => [1, 2, 4, 8].all fun n : Int => decide (0 ≤ victim (b : Int) n) && decide (victim (b : Int) n < n)) = true := by kernel_rfl
  have h2 := List.all_eq_true.1 h b.toNat (by simp; omega)
  simp only [Int.toNat_of_nonneg b0] at h2
  have h3 := List.all_eq_true.1 h2 n (by rcases power_cases hn with rfl | rfl | rfl | rfl <;> simp)
  simpa using h3

set_option maxHeartbeats 1000000 in
theorem victim_some (B : Nat) (n k : Nat) (A : Sets) (line : Int) (ab sb : Nat) (wbs : List Nat) (w : World) (hok : AOk n k A) (h : ArrR B w ab sb wbs A) (hl : within line 0 31 = true) (l : List Int) (lv : Option Addr) (cap : Nat) (hlen : l.length ≤ 1000) (hp : SlI w lv l cap)
    (hn : (there A line || decide (0 ≤ idxP isFree (waysOf A line))) = false) :
    Calls Tryd.prog 52 #[.pointer (some ⟨ab, 0, none⟩), .int .i64 line, .slice lv l.length cap] w fun e w' => e = .returned (.int .i64 (victimA A line l)) ∧ Below w.heap.size w w' := by
  have HF := Lib.hid (find_calls B n k A line ab sb wbs w hok h hl)
  have HR := Lib.hid (fun w1 (h1 : Below w.heap.size w w1) => free_calls B sb _ _ _ _ w1 ((h.below h1).row hok line))
  have HW := Lib.hid (fun w1 (h1 : Below w.heap.size w w1) => (h.below h1).row hok line)
  have HP := Lib.hid (fun x w1 (h1 : Below w.heap.size w w1) => contains_calls l x lv cap w1 hlen (hp.below h1))
  unfold victimA
  rw [hn]
  have hk := (hok.way line).1
  have hpk := hok.pk
  have hbb := (hok.way line).2.1
  clear h hok hp
  subst hk
  unfold there at hn
  have hp : idxP (isLine line) (waysOf A line) < 0 := by simp at hn; omega
  have hq : idxP isFree (waysOf A line) < 0 := by simp at hn; omega
  clear hn
  generalize idxP (isLine line) (waysOf A line) = q at HF hp ⊢
  generalize idxP isFree (waysOf A line) = q2 at HR hq ⊢
  generalize setNo A line = i at HR HF HW ⊢
  generalize hes : waysOf A line = es at HR HW hpk ⊢
  generalize bitsOf A line = bits at HR HW hbb ⊢
  generalize wbOf wbs A line = wb at HR HW ⊢
  simp only [Bool.false_eq_true, if_false]
  obtain ⟨v0, v1⟩ := victim_range bits es.length hpk hbb.1 hbb.2
  have HV := Lib.hid (fun w1 => (victim_calls bits es.length w1 hpk hbb.1 hbb.2).mono (fun e w' (h : _ ∧ w1 = w' ∧ _) => (⟨h.1, h.2.1.symm⟩ : e = .returned (.int .i64 (victim bits es.length)) ∧ w' = w1)))
  obtain ⟨v, hv⟩ : ∃ v : Nat, victim bits es.length = (v : Int) := ⟨(victim bits es.length).toNat, by omega⟩
  rw [hv] at v0 v1 HV ⊢
  have hv1 : v < es.length := by omega
  have eg : es.getD (v : Int).toNat .zero = es[v] := by
    rw [List.getD_eq_getElem?_getD, Int.toNat_natCast, List.getElem?_eq_getElem hv1]; rfl
  rw [eg]
  clear eg hv hbb
  go_enter Tryd.func52, Tryd.ntmps52
  go_wp2_with (first | (go_at_call 49; refine HF.out.mono ?_; rintro e w1 ⟨rfl, hb1⟩) | (go_at_call 51; refine (HR.out _ hb1).mono ?_; rintro e w2 ⟨rfl, hb2⟩))
  have hb12 := hb1.trans (hb2.mono hb1.size)
  have hr := HW.out _ hb12
  have c1 := hr.cw
  have c0 := hr.cb
  have k8 := hr.hi
  have cv := (entAt hr.bw v hv1).c0
  clear hr
  go_quiet ((go_at_call 76; exact Calls.quiet_of_same (HV.out _)))
  rename_i nq
  have hb3 : Below w.heap.size w (w2.drewN nq) := Below.drewN' hb12 nq
  generalize hwd : w2.drewN nq = wd at hb3 ⊢
  clear c0 c1 cv hwd
  cases hcv : l.contains es[v].line
  case false =>
    go_wp2_with (go_at_call 77; refine (HP.out _ _ hb3).mono ?_; rintro e w3 ⟨rfl, rfl⟩; rw [hcv])
    go_ret
    exact ⟨ret_int (by unfold pickE; rw [hcv]; rfl), hb3⟩
  case true =>
    have ep : pickE es l es[v].line = (match es.find? (fun e => !l.contains e.line) with | some e => e.line | none => -1) := by unfold pickE; rw [hcv]; rfl
    have EP := Lib.hid ep
    clear ep
    have c1 := (HW.out _ hb3).cw
    go_wp2_with (go_at_call 77; refine (HP.out _ _ hb3).mono ?_; rintro e w3 ⟨rfl, rfl⟩; rw [hcv])
    go_loopw [56] (fun x wr => ∃ t : Nat, t ≤ es.length ∧ x = .int .i64 t ∧ Below w.heap.size w wr ∧ Hid (∀ j (hj : j < t) (hl : j < es.length), l.contains es[j].line = true)) (fun x _ => es.length - (intOf x).toNat)
    case atStart => exact ⟨0, Nat.zero_le _, rfl, hb3, fun j hj => by omega⟩
    case round =>
      obtain ⟨t, ht, rfl, hbel, hno⟩ := hrel
      by_cases hlt : t < es.length
      · obtain ⟨k0, k1, k2, k3, k4, k5, k6, k7, k8, k9⟩ := entAt (HW.out _ hbel).bw t hlt
        have HL := Lib.hid (fun o : Obj => hbel.alloc hbel.size o)
        have HQ := Lib.hid (fun (o : Obj) => HP.out es[t].line _ (hbel.alloc hbel.size o))
        have hfind : l.contains es[t].line = false → es.find? (fun e => !l.contains e.line) = some es[t] := fun hc => by
          rw [List.find?_eq_some_iff_getElem]
          exact ⟨by rw [hc]; rfl, t, hlt, rfl, fun j hj => by rw [hno.out j hj (by omega)]; rfl⟩
        have HI := Lib.hid hfind
        clear hfind
        cases hcc : l.contains es[t].line
        · go_wp2_with (go_at_call 77; refine (HQ.out _).mono ?_; rintro e w3 ⟨rfl, rfl⟩; rw [hcc])
          go_ret
          exact ⟨ret_int (by rw [EP.out, HI.out hcc]), HL.out _⟩
        · go_wp2_with (go_at_call 77; refine (HQ.out _).mono ?_; rintro e w3 ⟨rfl, rfl⟩; rw [hcc])
          go_roundw
          case rel =>
            refine ⟨t + 1, by omega, by go_num, HL.out _, fun j hj hl => ?_⟩
            by_cases e : j = t
            · subst e; exact hcc
            · exact hno.out j (by omega) hl
          case measure => simp [intOf]; omega
      · have : t = es.length := by omega
        subst this
        go_wp2
        go_ret
        refine ⟨ret_int ?_, hbel⟩
        rw [EP.out, List.find?_eq_none.2 (fun e he => by obtain ⟨j, hj, rfl⟩ := List.getElem_of_mem he; rw [hno.out j hj hj]; simp)]

theorem avictim_calls (B : Nat) (n k : Nat) (A : Sets) (line : Int) (ab sb : Nat) (wbs : List Nat) (w : World) (hok : AOk n k A) (h : ArrR B w ab sb wbs A) (hl : within line 0 31 = true) (l : List Int) (lv : Option Addr) (cap : Nat) (hlen : l.length ≤ 1000) (hp : SlI w lv l cap) :
    Calls Tryd.prog 52 #[.pointer (some ⟨ab, 0, none⟩), .int .i64 line, .slice lv l.length cap] w fun e w' => e = .returned (.int .i64 (victimA A line l)) ∧ Below w.heap.size w w' := by
  cases hn : (there A line || decide (0 ≤ idxP isFree (waysOf A line)))
  · exact victim_some B n k A line ab sb wbs w hok h hl l lv cap hlen hp hn
  · have e : victimA A line l = -1 := by unfold victimA; rw [hn]; rfl
    rw [e]
    exact victim_none B n k A line ab sb wbs w hok h hl _ hn

end Go.Proofs.YtnieambhpmnliaaDoor
