/- Sentinels and wrapped errors; the table of misses (mshr): New, Add, Drop. -/
import Derived.Test.YtnieambhpmnliaaDoorMiss5
namespace Go.Proofs.YtnieambhpmnliaaDoor
set_option linter.all false
set_option linter.unusedVariables false
set_option linter.unusedSimpArgs false
open Go Go.RowKit

/-- A sentinel, as it stands in its variable. -/
def sentv (a : Addr) : Value := .iface 156 (.pointer (some a))
/-- The sentinels stand in their variables, below B. -/
structure Sent (B : Nat) (w : World) (p : Nat → Addr) : Prop where
  g1 : w.cell? ⟨0, 0, none⟩ = some (sentv (p 1))
  g2 : w.cell? ⟨3, 0, none⟩ = some (sentv (p 2))
  g3 : w.cell? ⟨4, 0, none⟩ = some (sentv (p 3))
  g4 : w.cell? ⟨5, 0, none⟩ = some (sentv (p 4))
  g5 : w.cell? ⟨6, 0, none⟩ = some (sentv (p 5))
  g6 : w.cell? ⟨2, 0, none⟩ = some (sentv (p 6))
  g7 : w.cell? ⟨1, 0, none⟩ = some (sentv (p 7))
  g8 : w.cell? ⟨7, 0, none⟩ = some (sentv (p 8))
  g9 : w.cell? ⟨8, 0, none⟩ = some (sentv (p 9))
  g10 : w.cell? ⟨9, 0, none⟩ = some (sentv (p 10))
  et : w.cell? ⟨10, 0, none⟩ = some (.iface 139 (.agg #[.pointer (some ⟨Tryd.prog.globals.size, 24, none⟩)]))
  inj : ∀ i j, 1 ≤ i → i ≤ 10 → 1 ≤ j → j ≤ 10 → p i = p j → i = j
  blk : ∀ i, 1 ≤ i → i ≤ 10 → (p i).block < B ∧ ∃ c T, w.heap[(p i).block]? = some (.cells c T (0, 0))
  low : 11 ≤ B
  size : B ≤ w.heap.size

theorem cell_low {B : Nat} {S : List TypeId} {w w' : World} (h : Fr B S w w') (a : Addr) (ha : a.block < B) : w'.cell? a = w.cell? a := by
  simp [World.cell?, h.low a.block ha]
theorem Sent.fr {B : Nat} {S : List TypeId} {w w' : World} {p : Nat → Addr} (h : Sent B w p) (f : Fr B S w w') : Sent B w' p := by
  have hl := h.low
  have c : ∀ g, g < 11 → w'.cell? ⟨g, 0, none⟩ = w.cell? ⟨g, 0, none⟩ := fun g hg => cell_low f _ (Nat.lt_of_lt_of_le hg hl)
  exact ⟨(c _ (by decide)).trans h.g1, (c _ (by decide)).trans h.g2, (c _ (by decide)).trans h.g3, (c _ (by decide)).trans h.g4, (c _ (by decide)).trans h.g5, (c _ (by decide)).trans h.g6, (c _ (by decide)).trans h.g7, (c _ (by decide)).trans h.g8, (c _ (by decide)).trans h.g9, (c _ (by decide)).trans h.g10, (c _ (by decide)).trans h.et, h.inj, fun i h1 h2 => by obtain ⟨q, c, T, e⟩ := h.blk i h1 h2; exact ⟨q, c, T, (f.low _ q).trans e⟩, hl, Nat.le_trans h.size f.size⟩
theorem Sent.below {B : Nat} {w w' : World} {p : Nat → Addr} (h : Sent B w p) (f : Below w.heap.size w w') : Sent B w' p := h.fr (S := []) (Fr.below f h.size)

/-- A wrapped error. -/
def faultv (op : List UInt8) (at_ : Int) (e : Value) : Value := .iface 81 (.agg #[.string ⟨op.toArray⟩, .int .i64 at_, e])
/-- What an error of a code is, wrapped once; nil of 0. -/
def errv (p : Nat → Addr) (op : List UInt8) (at_ : Int) (code : Nat) : Value := if code = 0 then .nilIface else faultv op at_ (sentv (p code))

theorem wrap_calls (op : ByteArray) (at_ : Int) (T : TypeId) (v : Value) (w : World) :
    Calls Tryd.prog 22 #[.string op, .int .i64 at_, .iface T v] w fun e w' => e = .returned (.iface 81 (.agg #[.string op, .int .i64 at_, .iface T v])) ∧ w = w' := by
  go_enter Tryd.func22, Tryd.ntmps22
  go_wp2
  go_ret
  exact ⟨rfl, rfl⟩

theorem SlAt.only {w w' : World} {lv us cap g T c} (h : SlAt w lv us cap) (ho : Only g w w') (hg : Blk w g T c) (hT : T ≠ 97) : SlAt w' lv us cap := by
  rcases h with h | ⟨lb, r, h1, h2, h3⟩
  · exact Or.inl h
  · exact Or.inr ⟨lb, r, h1, ho.blk h2 (h2.ne hg (Ne.symm hT)), h3⟩
/-- The table of misses, of blocks from B on. -/
def TabB (B : Nat) (L : List Nat) (w : World) (tb : Nat) (most : Int) (us : List (Int × Int)) : Prop :=
  (B ≤ tb ∧ tb ∈ L ∧ ∀ x ∈ L, B ≤ x ∧ x < w.heap.size) ∧ ∃ lv cap, Blk w tb 94 [.int .i64 most, .slice lv us.length cap] ∧ SlAt w lv us cap ∧ (∀ a, lv = some a → B ≤ a.block ∧ a.block ∈ L)
theorem TabB.tab {B L w tb most us} (h : TabB B L w tb most us) : TabAt w tb most us := by
  obtain ⟨_, lv, cap, h1, h2, _⟩ := h
  exact ⟨lv, cap, h1, h2⟩
theorem TabB.below {B L} {w w' : World} {tb most us} (h : TabB B L w tb most us) (hb : Below w.heap.size w w') : TabB B L w' tb most us := by
  obtain ⟨h0, lv, cap, h1, h2, h3⟩ := h
  exact ⟨⟨h0.1, h0.2.1, fun x hx => ⟨(h0.2.2 x hx).1, Nat.lt_of_lt_of_le (h0.2.2 x hx).2 hb.size⟩⟩, lv, cap, h1.below hb h1.lt, h2.below hb, h3⟩
theorem TabB.fr {B L B' S} {w w' : World} {tb most us} (h : TabB B L w tb most us) (hb : Fr B' S w w') (hS : 97 ∉ S) (hS' : 94 ∉ S) : TabB B L w' tb most us := by
  obtain ⟨h0, lv, cap, h1, h2, h3⟩ := h
  exact ⟨⟨h0.1, h0.2.1, fun x hx => ⟨(h0.2.2 x hx).1, Nat.lt_of_lt_of_le (h0.2.2 x hx).2 hb.size⟩⟩, lv, cap, h1.fr hb hS', h2.fr hb hS, h3⟩
/-- What a table of misses may hold. -/
structure MOk (most : Int) (us : List (Int × Int)) : Prop where
  rise : Rise us
  lines : Lines us
  most8 : most ≤ 8
  len : (us.length : Int) ≤ most

def insM (us : List (Int × Int)) (x : Int × Int) : List (Int × Int) := us.takeWhile (fun m => m.1 < x.1) ++ x :: us.dropWhile (fun m => m.1 < x.1)
theorem take_found (us : List (Int × Int)) (line : Int) (pos : Nat) (h0 : ∀ a (h : a < us.length), a < pos → us[a].1 < line) (h1 : ∀ a (h : a < us.length), pos ≤ a → line ≤ us[a].1) :
    us.take pos = us.takeWhile (fun m => m.1 < line) ∧ us.drop pos = us.dropWhile (fun m => m.1 < line) := by
  induction us generalizing pos with
  | nil => simp
  | cons u l ih =>
    cases pos with
    | zero =>
      have := h1 0 (by simp) (Nat.le_refl _)
      simp at this
      have hn : ¬ u.1 < line := by omega
      simp [List.takeWhile, List.dropWhile, hn]
    | succ pos =>
      have := h0 0 (by simp) (by omega)
      simp at this
      have ih' := ih pos (fun a h hp => by have := h0 (a + 1) (by simpa using h) (by omega); simpa using this) (fun a h hp => by have := h1 (a + 1) (by simpa using h) (by omega); simpa using this)
      simp [List.takeWhile, List.dropWhile, this, ih'.1, ih'.2]
theorem insM_length (us : List (Int × Int)) (x : Int × Int) : (insM us x).length = us.length + 1 := by
  have := congrArg List.length (List.takeWhile_append_dropWhile (p := fun m : Int × Int => decide (m.1 < x.1)) (l := us))
  rw [List.length_append] at this
  simp only [insM, List.length_append, List.length_cons]; omega

set_option maxHeartbeats 400000 in
theorem add_full (B : Nat) (L : List Nat) (us : List (Int × Int)) (line kind most : Int) (p : Nat → Addr) (tb : Nat) (w : World) (hok : MOk most us) (hg : Sent B w p) (h : TabB B L w tb most us) (hl : 0 ≤ line ∧ line ≤ 31) (hk : 1 ≤ kind ∧ kind ≤ 4)
    (hno : ∀ a (h : a < us.length), us[a].1 ≠ line) (hfull : most ≤ us.length) :
    Calls Tryd.prog 30 #[.pointer (some ⟨tb, 0, none⟩), .int .i64 line, .int .i64 kind] w
      fun e w' => e = .returned (errv p [109, 115, 104, 114, 46, 65, 100, 100] line 6) ∧ Below w.heap.size w w' := by
  obtain ⟨l0, l1⟩ := hl
  obtain ⟨k0, k1⟩ := hk
  have hm8 := hok.most8
  have hlen := hok.len
  have c1 := at_calls us line most tb w (by omega) hok.rise hok.lines l0 l1 h.tab
  have C1 := Lib.hid c1
  have HN := Lib.hid hno
  have HT := Lib.hid h
  have HG := Lib.hid hg
  clear c1 hno h hok hg
  go_enter Tryd.func30, Tryd.ntmps30
  go_wp2_with fail
  refine C1.out.mono ?_
  rintro e w1 ⟨⟨pos, q0, q1, q2, rfl⟩, hb1⟩
  have e1 : decide (∃ h : pos < us.length, us[pos].1 = line) = false := by
    rw [decide_eq_false_iff_not]; rintro ⟨h, h2⟩; exact HN.out pos h h2
  rw [e1]
  clear q1 q2 e1
  go_wp2_with (first | (go_at_call 54; refine (full_calls us most tb _ ((HT.out.below hb1).tab)).mono ?_; rintro e w2 ⟨rfl, hb2⟩; have hb12 := hb1.trans (hb2.mono hb1.size); have g6 := (HG.out.below hb12).g6; unfold sentv at g6) | (go_at_call 22; refine (wrap_calls _ _ _ _ _).mono ?_; rintro e w3 ⟨rfl, rfl⟩))
  go_ret
  exact ⟨rfl, hb12⟩

theorem insM_ok (us : List (Int × Int)) (pos : Nat) (line kind most : Int) (hok : MOk most us) (hlt : (us.length : Int) < most) (hl : 0 ≤ line ∧ line ≤ 31)
    (hpos : pos ≤ us.length) (h0 : ∀ a (h : a < us.length), a < pos → us[a].1 < line) (h1 : ∀ a (h : a < us.length), pos ≤ a → line ≤ us[a].1) (hno : ∀ a (h : a < us.length), us[a].1 ≠ line) :
    us.take pos ++ (line, kind) :: us.drop pos = insM us (line, kind) ∧ MOk most (insM us (line, kind)) := by
  have e : us.take pos ++ (line, kind) :: us.drop pos = insM us (line, kind) := by
    obtain ⟨e1, e2⟩ := take_found us line pos h0 h1
    rw [e1, e2]; rfl
  refine ⟨e, ?_, ?_, hok.most8, by rw [insM_length]; omega⟩
  · rw [← e]
    intro i j hi hj hij
    have hlen : (us.take pos).length = pos := by simp; omega
    have g : ∀ k (hk : k < (us.take pos ++ (line, kind) :: us.drop pos).length), (k < pos ∧ ∃ h : k < us.length, (us.take pos ++ (line, kind) :: us.drop pos)[k] = us[k]) ∨ (k = pos ∧ (us.take pos ++ (line, kind) :: us.drop pos)[k] = (line, kind)) ∨ (pos < k ∧ ∃ h : k - 1 < us.length, (us.take pos ++ (line, kind) :: us.drop pos)[k] = us[k - 1]) := by
      intro k hk
      rcases Nat.lt_trichotomy k pos with h | h | h
      · refine Or.inl ⟨h, by omega, ?_⟩
        rw [List.getElem_append_left (by omega)]; simp
      · subst h
        refine Or.inr (Or.inl ⟨rfl, ?_⟩)
        rw [List.getElem_append_right (by omega)]; simp [hlen]
      · have hk' : k - 1 < us.length := by simp at hk; omega
        refine Or.inr (Or.inr ⟨h, hk', ?_⟩)
        rw [List.getElem_append_right (by omega)]
        simp only [hlen]
        obtain ⟨d, rfl⟩ : ∃ d, k = pos + (d + 1) := ⟨k - pos - 1, by omega⟩
        simp [show pos + (d + 1) - pos = d + 1 by omega, show pos + (d + 1) - 1 = pos + d by omega]
    rcases g i hi with ⟨hi1, hi2, ei⟩ | ⟨hi1, ei⟩ | ⟨hi1, hi2, ei⟩ <;> rcases g j hj with ⟨hj1, hj2, ej⟩ | ⟨hj1, ej⟩ | ⟨hj1, hj2, ej⟩ <;> rw [ei, ej] <;> try omega
    · exact hok.rise i j hi2 hj2 hij
    · exact h0 i hi2 hi1
    · exact hok.rise i (j - 1) hi2 hj2 (by omega)
    · have := h1 (j - 1) hj2 (by omega)
      have := hno (j - 1) hj2
      show line < _
      omega
    · exact hok.rise (i - 1) (j - 1) hi2 hj2 (by omega)
  · rw [← e]
    intro i hi
    have : (us.take pos ++ (line, kind) :: us.drop pos)[i] ∈ us.take pos ++ (line, kind) :: us.drop pos := List.getElem_mem hi
    rw [List.mem_append, List.mem_cons] at this
    rcases this with h | h | h
    · obtain ⟨k, hk, ek⟩ := List.getElem_of_mem (List.mem_of_mem_take h)
      rw [← ek]; exact hok.lines k hk
    · rw [h]; exact hl
    · obtain ⟨k, hk, ek⟩ := List.getElem_of_mem (List.mem_of_mem_drop h)
      rw [← ek]; exact hok.lines k hk

set_option maxHeartbeats 400000 in
theorem add_ok (B : Nat) (L : List Nat) (us : List (Int × Int)) (line kind most : Int) (tb : Nat) (w : World) (hok : MOk most us) (hB : B ≤ w.heap.size) (h : TabB B L w tb most us) (hl : 0 ≤ line ∧ line ≤ 31) (hk : 1 ≤ kind ∧ kind ≤ 4)
    (hno : ∀ a (h : a < us.length), us[a].1 ≠ line) (hroom : (us.length : Int) < most) :
    Calls Tryd.prog 30 #[.pointer (some ⟨tb, 0, none⟩), .int .i64 line, .int .i64 kind] w
      fun e w' => e = .returned .nilIface ∧ (∃ L', TabB B L' w' tb most (insM us (line, kind)) ∧ Grow w L L') ∧ Fr B [97, 94] w w' ∧ FrL L w w' := by
  obtain ⟨l0, l1⟩ := hl
  obtain ⟨k0, k1⟩ := hk
  have hm8 := hok.most8
  have hlen := hok.len
  have c1 := at_calls us line most tb w (by omega) hok.rise hok.lines l0 l1 h.tab
  have C1 := Lib.hid c1
  have HN := Lib.hid hno
  have HT := Lib.hid h
  have C4 := Lib.hid (And.intro hok.rise hok.lines)
  clear c1 hno h hok
  go_enter Tryd.func30, Tryd.ntmps30
  go_wp2_with fail
  refine C1.out.mono ?_
  rintro e w1 ⟨⟨pos, q0, q1, q2, rfl⟩, hb1⟩
  have Q1 := Lib.hid q1
  have Q2 := Lib.hid q2
  have e1 : decide (∃ h : pos < us.length, us[pos].1 = line) = false := by
    rw [decide_eq_false_iff_not]; rintro ⟨h, h2⟩; exact HN.out pos h h2
  rw [e1]
  clear q1 q2 e1
  go_wp2_with (first | (go_at_call 54; refine (full_calls us most tb _ ((HT.out.below hb1).tab)).mono ?_; rintro e w2 ⟨rfl, hb2⟩; have hb12 := hb1.trans (hb2.mono hb1.size); obtain ⟨t0, lv, cap, t1, t2, t3⟩ := HT.out.below hb12; have c1 := t1.cell 1; simp at c1; have T1 := Lib.hid t1; have T2 := Lib.hid t2; have T3 := Lib.hid t3; clear t1 t2 t3) | fail)
  have hba := (Below.refl w2.heap.size w2).alloc (Nat.le_refl _) (.cells #[.int .i64 line, .int .i64 kind] 97)
  have hBa : B ≤ (w2.alloc (.cells #[.int .i64 line, .int .i64 kind] 97)).heap.size := by have := hb12.size; simp; omega
  refine (insert_calls B L us pos (line, kind) lv cap w2.heap.size _ (by omega) q0 (T2.out.below hba) hBa T3.out (heap_alloc_new _ _) (fun a ha => ?_)).mono ?_
  · have : a.block < w2.heap.size := by
      rcases T2.out with ⟨rfl, _⟩ | ⟨lb, r, rfl, h2, _⟩
      · cases ha
      · cases ha; exact h2.lt
    omega
  rintro e w3 ⟨lv', cap', rfl, hs3, hl3, hf3, hg3⟩
  obtain ⟨ei, hok'⟩ := insM_ok us pos line kind most ⟨C4.out.1, C4.out.2, hm8, hlen⟩ hroom ⟨l0, l1⟩ q0 Q1.out Q2.out HN.out
  rw [ei] at hs3 ⊢
  have t3 : Blk w3 tb 94 [.int .i64 most, .slice lv us.length cap] := (T1.out.below hba T1.out.lt).fr hf3 (by decide)
  have d1 := t3.cell 1
  have f1 := t3.free 1
  simp at d1
  have T3' := Lib.hid t3
  have S3 := Lib.hid hs3
  have L3 := Lib.hid hl3
  clear t3 hs3 hl3
  go_wp2
  go_ret
  refine ⟨rfl, ⟨L ++ lv'.toList.map (·.block), ⟨⟨t0.1, List.mem_append_left _ t0.2.1, fun x hx => ?_⟩, lv', cap', ?_, ?_, fun a ha => ⟨(L3.out a ha).1, List.mem_append_right _ (by subst ha; simp)⟩⟩, fun x hx => List.mem_append_left _ hx, fun x hx => ?_⟩, ?_, ?_⟩
  · have hsz : w3.heap.size ≤ (w3.setCell ⟨tb, 1, none⟩ (.slice lv' (insM us (line, kind)).length cap')).heap.size := by rw [setCell_eq_setRow w3 tb 1 _ _ _ _ T3'.out]; simp
    rcases List.mem_append.1 hx with h1 | h1
    · exact ⟨(t0.2.2 x h1).1, Nat.lt_of_lt_of_le (Nat.lt_of_lt_of_le (t0.2.2 x h1).2 (by have := hg3.size; simp at this; omega)) hsz⟩
    · cases lv' with
      | none => simp at h1
      | some q =>
        simp at h1; subst h1
        refine ⟨(L3.out q rfl).1, Nat.lt_of_lt_of_le ?_ hsz⟩
        rcases S3.out with ⟨hn, _⟩ | ⟨lb, r, hq, h2, _⟩
        · cases hn
        · cases hq; exact h2.lt
  · rw [setCell_eq_setRow w3 tb 1 _ _ _ _ T3'.out]
    exact setRow_heap w3 tb _ _ _ (0, 0) T3'.out
  · rw [setCell_eq_setRow w3 tb 1 _ _ _ _ T3'.out]
    exact S3.out.only (Only.setRow _ _ _) T3'.out (by decide)
  · rcases List.mem_append.1 hx with h1 | h1
    · exact Or.inl h1
    · cases lv' with
      | none => simp at h1
      | some q =>
        simp at h1; subst h1
        rcases (L3.out q rfl).2 with h2 | h2
        · exact Or.inl h2
        · exact Or.inr (by have := hb12.size; simp at h2; omega)
  · exact (((Fr.below hb12 hB).trans (Fr.below hba (by have := hb12.size; omega))).trans (hf3.mono (by simp))).setCell T3'.out (by simp) t0.1 _
  · rw [setCell_eq_setRow w3 tb 1 _ _ _ _ T3'.out]
    exact (((FrL.below L hb12).trans (FrL.below L hba)).trans hg3).trans ((Only.setRow _ _ _).frl L t0.2.1)

/-- Without the miss of a line. -/
def dropM (us : List (Int × Int)) (line : Int) : List (Int × Int) := us.eraseP (fun m => m.1 == line)
theorem eraseP_at {α : Type} (q : α → Bool) (us : List α) (pos : Nat) (hp : pos < us.length) (h : q us[pos] = true) (h0 : ∀ j (hj : j < pos), q (us[j]'(by omega)) = false) : us.take pos ++ us.drop (pos + 1) = us.eraseP q := by
  induction us generalizing pos with
  | nil => simp at hp
  | cons u l ih =>
    cases pos with
    | zero => simp at h; simp [h]
    | succ pos =>
      have := h0 0 (by omega)
      simp at this
      have ih' := ih pos (by simpa using hp) (by simpa using h) (fun j hj => by have := h0 (j + 1) (by omega); simpa using this)
      simp [List.eraseP_cons, this, ih']

set_option maxHeartbeats 400000 in
theorem mdrop_calls (B : Nat) (L : List Nat) (us : List (Int × Int)) (line most : Int) (tb : Nat) (w : World) (hlen : us.length ≤ 1000) (hB : B ≤ w.heap.size) (h : TabB B L w tb most us) :
    Calls Tryd.prog 32 #[.pointer (some ⟨tb, 0, none⟩), .int .i64 line] w
      fun e w' => (∃ b, e = .returned (.bool b)) ∧ (∃ L', TabB B L' w' tb most (dropM us line) ∧ Grow w L L') ∧ Fr B [97, 94] w w' ∧ FrL L w w' := by
  have hk := known_calls us line most tb w hlen h.tab
  unfold dropM
  rcases idxP_cases (fun m => m.1 == line) us with ⟨hi, hf, hall⟩ | ⟨k, hk', hi, hp, hf, h0⟩
  · rw [hi] at hk
    have HT := Lib.hid h
    have HA := Lib.hid hall
    clear h hall
    go_enter Tryd.func32, Tryd.ntmps32
    go_wp2_with (go_at_call 48; refine hk.mono ?_; rintro e w1 ⟨rfl, hb1⟩)
    go_ret
    refine ⟨⟨_, rfl⟩, ⟨L, ?_, Grow.refl _ _⟩, Fr.below hb1 hB, FrL.below L hb1⟩
    rw [List.eraseP_of_forall_not (fun a ha => by simp [HA.out a ha])]
    exact HT.out.below hb1
  · rw [hi] at hk
    have HT := Lib.hid h
    have HK := Lib.hid hk
    have HE := Lib.hid (eraseP_at (fun m : Int × Int => m.1 == line) us k hk' hp h0)
    have hwr : IntKind.i64.wrap ((k : Int) + 1) = (k : Int) + 1 := by rw [IntKind.wrap_i64]; omega
    clear h hk hi hf hp h0
    go_enter Tryd.func32, Tryd.ntmps32
    go_wp2_with fail
    refine HK.out.mono ?_; rintro e w1 ⟨rfl, hb1⟩
    obtain ⟨t0, lv, cap, t1, t2, t3⟩ := HT.out.below hb1
    have c1 := t1.cell 1
    simp at c1
    have T1 := Lib.hid t1
    have T2 := Lib.hid t2
    have T3 := Lib.hid t3
    clear t1 t2 t3
    go_wp2_with fail
    refine (delete_any B L us k lv cap w1 hlen hk' T2.out T3.out).mono ?_
    rintro e w3 ⟨lv', cap', rfl, hs3, hl3, hf3, hg3⟩
    rw [HE.out] at hs3 ⊢
    have t3 : Blk w3 tb 94 [.int .i64 most, .slice lv us.length cap] := T1.out.fr hf3 (by decide)
    have d1 := t3.cell 1
    have f1 := t3.free 1
    simp at d1
    have T3' := Lib.hid t3
    have S3 := Lib.hid hs3
    have L3 := Lib.hid hl3
    clear t3 hs3 hl3
    go_wp2
    go_ret
    refine ⟨⟨_, rfl⟩, ⟨L ++ lv'.toList.map (·.block), ⟨⟨t0.1, List.mem_append_left _ t0.2.1, fun x hx => ?_⟩, lv', cap', ?_, ?_, fun a ha => ⟨(L3.out a ha).1, List.mem_append_right _ (by subst ha; simp)⟩⟩, fun x hx => List.mem_append_left _ hx, fun x hx => ?_⟩, ?_, ?_⟩
    · have hsz : w3.heap.size ≤ (w3.setCell ⟨tb, 1, none⟩ (.slice lv' (us.eraseP (fun m => m.1 == line)).length cap')).heap.size := by rw [setCell_eq_setRow w3 tb 1 _ _ _ _ T3'.out]; simp
      rcases List.mem_append.1 hx with h1 | h1
      · exact ⟨(t0.2.2 x h1).1, Nat.lt_of_lt_of_le (Nat.lt_of_lt_of_le (t0.2.2 x h1).2 hg3.size) hsz⟩
      · cases lv' with
        | none => simp at h1
        | some q =>
          simp at h1; subst h1
          refine ⟨(L3.out q rfl).1, Nat.lt_of_lt_of_le ?_ hsz⟩
          rcases S3.out with ⟨hn, _⟩ | ⟨lb, r, hq, h2, _⟩
          · cases hn
          · cases hq; exact h2.lt
    · rw [setCell_eq_setRow w3 tb 1 _ _ _ _ T3'.out]
      exact setRow_heap w3 tb _ _ _ (0, 0) T3'.out
    · rw [setCell_eq_setRow w3 tb 1 _ _ _ _ T3'.out]
      exact S3.out.only (Only.setRow _ _ _) T3'.out (by decide)
    · rcases List.mem_append.1 hx with h1 | h1
      · exact Or.inl h1
      · cases lv' with
        | none => simp at h1
        | some q =>
          simp at h1; subst h1
          rcases (L3.out q rfl).2 with h2 | h2
          · exact Or.inl h2
          · exact Or.inr (by have := hb1.size; omega)
    · exact ((Fr.below hb1 hB).trans (hf3.mono (by simp))).setCell T3'.out (by simp) t0.1 _
    · rw [setCell_eq_setRow w3 tb 1 _ _ _ _ T3'.out]
      exact ((FrL.below L hb1).trans hg3).trans ((Only.setRow _ _ _).frl L t0.2.1)

theorem dropM_ok (us : List (Int × Int)) (line most : Int) (hok : MOk most us) : MOk most (dropM us line) := by
  have hsub : (dropM us line).Sublist us := List.eraseP_sublist
  have hp : us.Pairwise (fun a b => a.1 < b.1) := List.pairwise_iff_getElem.2 (fun i j hi hj hij => hok.rise i j hi hj hij)
  have hp' := hp.sublist hsub
  refine ⟨fun i j hi hj hij => (List.pairwise_iff_getElem.1 hp') i j hi hj hij, fun i hi => ?_, hok.most8, ?_⟩
  · obtain ⟨k, hk, ek⟩ := List.getElem_of_mem (hsub.subset (List.getElem_mem hi))
    rw [← ek]; exact hok.lines k hk
  · have := hsub.length_le; have := hok.len; omega

set_option maxHeartbeats 400000 in
theorem mnew_calls (B : Nat) (most : Int) (w : World) (hm : 1 ≤ most ∧ most ≤ 8) (hB : B ≤ w.heap.size) :
    Calls Tryd.prog 24 #[.int .i64 most] w
      fun e w' => ∃ tb, e = .returned (.tuple #[.pointer (some ⟨tb, 0, none⟩), .nilIface]) ∧ w.heap.size ≤ tb ∧ TabB B [tb] w' tb most [] ∧ Below w.heap.size w w' := by
  obtain ⟨m0, m1⟩ := hm
  go_enter Tryd.func24, Tryd.ntmps24
  go_wp2
  go_ret2
  exact ⟨_, rfl, Nat.le_refl _, ⟨⟨hB, by simp, fun x hx => by simp at hx; subst hx; exact ⟨hB, by simp⟩⟩, none, 0, heap_alloc_new _ _, Or.inl ⟨rfl, rfl, rfl⟩, fun a h => by cases h⟩, (Below.refl _ _).alloc (Nat.le_refl _) _⟩

end Go.Proofs.YtnieambhpmnliaaDoor
