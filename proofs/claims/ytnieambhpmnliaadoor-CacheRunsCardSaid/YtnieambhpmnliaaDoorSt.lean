/- The state of a statement's walk: a cache, and what the walk itself keeps in memory beside it. -/
import Derived.Test.YtnieambhpmnliaaDoorKeep
import Derived.Test.YtnieambhpmnliaaDoorNew
import Derived.Test.YtnieambhpmnliaaDoorAsk4
import Derived.Test.YtnieambhpmnliaaDoorFwd6
import Derived.Test.YtnieambhpmnliaaDoorAns4
namespace Go.Proofs.YtnieambhpmnliaaDoor
set_option linter.all false
set_option linter.unusedVariables false
set_option linter.unusedSimpArgs false
open Go Go.RowKit

/-- From world w0 on nothing old has turned; the sentinels stand; there is a cache; and the blocks of the list, which are none of the cache's. -/
def St (w0 : World) (p : Nat → Addr) (cb : Nat) (c : Ca) (ls : List (Nat × TypeId × List Value)) (w : World) : Prop :=
  Below w0.heap.size w0 w ∧ Sent w0.heap.size w p ∧ ∃ F, CAt w0.heap.size w cb c F ∧ ∀ l ∈ ls, l.1 ∉ F ∧ w0.heap.size ≤ l.1 ∧ Blk w l.1 l.2.1 l.2.2
theorem St.bel {w0 p cb c ls w} (h : St w0 p cb c ls w) : Below w0.heap.size w0 w := h.1
theorem St.sent {w0 p cb c ls w} (h : St w0 p cb c ls w) : Sent w0.heap.size w p := h.2.1
theorem St.ok {w0 p cb c ls w} (h : St w0 p cb c ls w) : COk c := by obtain ⟨_, _, F, h3, _⟩ := h; exact h3.ok
theorem St.below {w0 p cb c ls} {w w' : World} (h : St w0 p cb c ls w) (hb : Below w.heap.size w w') : St w0 p cb c ls w' := by
  obtain ⟨h1, h2, F, h3, h4⟩ := h
  exact ⟨h1.trans (hb.mono h1.size), h2.below hb, F, h3.below hb, fun l hl => ⟨(h4 l hl).1, (h4 l hl).2.1, (h4 l hl).2.2.below hb (h4 l hl).2.2.lt⟩⟩
theorem St.drew {w0 p cb c ls} {w : World} (h : St w0 p cb c ls w) : St w0 p cb c ls w.drew := h.below (Below.refl _ _).drew
theorem St.of {w0 p cb c c' ls} {w w' : World} {F : List Nat} (h1 : Below w0.heap.size w0 w) (h2 : Sent w0.heap.size w p) (h3 : CAt w0.heap.size w cb c F) (h4 : ∀ l ∈ ls, l.1 ∉ F ∧ w0.heap.size ≤ l.1 ∧ Blk w l.1 l.2.1 l.2.2) (hs : CStep w0.heap.size w cb F w' c') : St w0 p cb c' ls w' := by
  obtain ⟨F', k1, k2, k3⟩ := hs
  have hall := h3.all
  have hb : Below w0.heap.size w w' := ⟨k3.os, k3.tape, k3.output, k3.size, fun k hk => k3.block k (Nat.lt_of_lt_of_le hk h1.size) (fun hm => by have := hall k hm; omega)⟩
  refine ⟨h1.trans hb, h2.frl k3 hall, F', k1, fun l hl => ?_⟩
  obtain ⟨q1, q2, q3⟩ := h4 l hl
  have hlt := q3.lt
  exact ⟨fun hm => (k2.2 _ hm).elim q1 (fun h => by omega), q2, q3.frl k3 q1⟩
/-- A new block of the walk's own. -/
theorem St.alloc {w0 p cb c ls} {w : World} (h : St w0 p cb c ls w) (T : TypeId) (cs : List Value) : St w0 p cb c ((w.heap.size, T, cs) :: ls) (w.alloc (.cells cs.toArray T)) := by
  have hb := (Below.refl w.heap.size w).alloc (Nat.le_refl _) (.cells cs.toArray T)
  obtain ⟨h1, h2, F, h3, h4⟩ := h
  refine ⟨h1.trans (hb.mono h1.size), h2.below hb, F, h3.below hb, fun l hl => ?_⟩
  rcases List.mem_cons.1 hl with rfl | hl
  · exact ⟨fun hm => by have := h3.lt _ hm; simp at this, h1.size, blk_new w cs T _ rfl⟩
  · exact ⟨(h4 l hl).1, (h4 l hl).2.1, (h4 l hl).2.2.below hb (h4 l hl).2.2.lt⟩
theorem St.blk {w0 p cb c ls} {w : World} (h : St w0 p cb c ls w) (l : Nat × TypeId × List Value) (hl : l ∈ ls) : Blk w l.1 l.2.1 l.2.2 := by
  obtain ⟨h1, h2, F, h3, h4⟩ := h
  exact (h4 l hl).2.2
theorem St.get {w0 p cb c ls} {w : World} (h : St w0 p cb c ls w) (i : Nat) {l : Nat × TypeId × List Value} (hl : ls[i]? = some l) : Blk w l.1 l.2.1 l.2.2 :=
  h.blk l (List.mem_of_getElem? hl)
/-- Fewer blocks. -/
theorem St.sub {w0 p cb c ls ls'} {w : World} (h : St w0 p cb c ls w) (hs : ∀ l ∈ ls', l ∈ ls) : St w0 p cb c ls' w := by
  obtain ⟨h1, h2, F, h3, h4⟩ := h
  exact ⟨h1, h2, F, h3, fun l hl => h4 l (hs l hl)⟩
/-- A block of the walk's own turns. -/
theorem St.only {w0 p cb c ls} {w w' : World} (h : St w0 p cb c ls w) (l : Nat × TypeId × List Value) (hl : l ∈ ls) (ho : Only l.1 w w') (cs : List Value) (hb : Blk w' l.1 l.2.1 cs) (ls' : List (Nat × TypeId × List Value)) (hs : ∀ x ∈ ls', x ∈ ls ∧ x.1 ≠ l.1) : St w0 p cb c ((l.1, l.2.1, cs) :: ls') w' := by
  obtain ⟨h1, h2, F, h3, h4⟩ := h
  obtain ⟨q1, q2, q3⟩ := h4 l hl
  have hbb : Below w0.heap.size w w' := ho.below.mono q2
  refine ⟨h1.trans hbb, h2.frl (ho.frl [l.1] (by simp)) (fun b hm => by simp at hm; subst hm; exact q2), F, h3.out (ho.frl [l.1] (by simp)) (fun x hx hm => by simp at hx; subst hx; exact q1 hm), fun x hx => ?_⟩
  rcases List.mem_cons.1 hx with rfl | hx
  · exact ⟨q1, q2, hb⟩
  · obtain ⟨r1, r2, r3⟩ := h4 x (hs x hx).1
    exact ⟨r1, r2, ho.blk r3 (hs x hx).2⟩

/-! ### the calls, from state to state -/
theorem want_st {w0 p cb c ls} {w : World} (h : St w0 p cb c ls w) (line kind word v : Int) {m : Msg} {er : Er} {c' : Ca} (hq : wantC c line kind word v = (m, er, c')) :
    Calls Tryd.prog 11 #[.pointer (some ⟨cb, 0, none⟩), .int .i64 line, .int .i64 kind, .int .i64 word, .int .u32 v] w fun e w' => e = .returned (.tuple #[m.val, erv p line er]) ∧ St w0 p cb c' ls w' := by
  obtain ⟨h1, h2, F, h3, h4⟩ := h
  have hc := want_calls w0.heap.size c line kind word v p cb F w h3 h2
  rw [hq] at hc
  exact hc.mono fun e w' ⟨he, hs⟩ => ⟨he, St.of h1 h2 h3 h4 hs⟩
theorem forward_st {w0 p cb c ls} {w : World} (h : St w0 p cb c ls w) (x : Msg) {m : Msg} {b : Bool} {c' : Ca} (hq : forwardC c x = (m, b, c')) :
    Calls Tryd.prog 16 #[.pointer (some ⟨cb, 0, none⟩), x.val] w fun e w' => e = .returned (.tuple #[m.val, .bool b]) ∧ St w0 p cb c' ls w' := by
  obtain ⟨h1, h2, F, h3, h4⟩ := h
  have hc := forward_calls w0.heap.size c x p cb F w h3 h1.size
  rw [hq] at hc
  exact hc.mono fun e w' ⟨he, hs⟩ => ⟨he, St.of h1 h2 h3 h4 hs⟩
theorem answer_st {w0 p cb c ls} {w : World} (h : St w0 p cb c ls w) (x : Msg) {m : Msg} {b : Bool} {c' : Ca} (hq : answerC c x = (m, b, c')) :
    Calls Tryd.prog 12 #[.pointer (some ⟨cb, 0, none⟩), x.val] w fun e w' => e = .returned (.tuple #[m.val, .bool b]) ∧ St w0 p cb c' ls w' := by
  obtain ⟨h1, h2, F, h3, h4⟩ := h
  have hc := answer_calls w0.heap.size c x p cb F w h3 h2
  rw [hq] at hc
  exact hc.mono fun e w' ⟨he, hs⟩ => ⟨he, St.of h1 h2 h3 h4 hs⟩
theorem read_st {w0 p cb c ls} {w : World} (h : St w0 p cb c ls w) (line word : Int) {v : Int} {b : Bool} {c' : Ca} (hq : readC c line word = ((v, b), c')) :
    Calls Tryd.prog 14 #[.pointer (some ⟨cb, 0, none⟩), .int .i64 line, .int .i64 word] w fun e w' => e = .returned (.tuple #[.int .u32 v, .bool b]) ∧ St w0 p cb c' ls w' := by
  obtain ⟨h1, h2, F, h3, h4⟩ := h
  unfold readC at hq
  cases hu : usableC c line word
  · rw [hu] at hq
    simp only [Bool.false_eq_true, if_false, Prod.mk.injEq] at hq
    obtain ⟨⟨rfl, rfl⟩, rfl⟩ := hq
    exact (read_no w0.heap.size c line word cb F w h3 hu).mono fun e w' ⟨he, hs⟩ => ⟨he, St.of h1 h2 h3 h4 (CStep.same h3 hs)⟩
  · rw [hu] at hq
    simp only [if_true, Prod.mk.injEq] at hq
    obtain ⟨⟨rfl, rfl⟩, rfl⟩ := hq
    exact (read_yes w0.heap.size c line word cb F w h3 h1.size hu).mono fun e w' ⟨he, hs⟩ => ⟨he, St.of h1 h2 h3 h4 hs⟩
theorem write_st {w0 p cb c ls} {w : World} (h : St w0 p cb c ls w) (line word v : Int) {b : Bool} {c' : Ca} (hq : writeC c line word v = (b, c')) :
    Calls Tryd.prog 15 #[.pointer (some ⟨cb, 0, none⟩), .int .i64 line, .int .i64 word, .int .u32 v] w fun e w' => e = .returned (.bool b) ∧ St w0 p cb c' ls w' := by
  obtain ⟨h1, h2, F, h3, h4⟩ := h
  unfold writeC at hq
  cases hu : (usableC c line word && writes (entC c line).state)
  · rw [hu] at hq
    simp only [Bool.false_eq_true, if_false, Prod.mk.injEq] at hq
    obtain ⟨rfl, rfl⟩ := hq
    exact (write_no w0.heap.size c line word v cb F w h3 hu).mono fun e w' ⟨he, hs⟩ => ⟨he, St.of h1 h2 h3 h4 (CStep.same h3 hs)⟩
  · rw [hu] at hq
    simp only [if_true, Prod.mk.injEq] at hq
    obtain ⟨rfl, rfl⟩ := hq
    simp at hu
    exact (write_yes w0.heap.size c line word v cb F w h3 h1.size hu.1 hu.2).mono fun e w' ⟨he, hs⟩ => ⟨he, St.of h1 h2 h3 h4 hs⟩
theorem entries_st {w0 p cb c ls} {w : World} (h : St w0 p cb c ls w) :
    Calls Tryd.prog 18 #[.pointer (some ⟨cb, 0, none⟩)] w fun e w' => ∃ lv cap, e = .returned (.slice lv (listA c.A).length cap) ∧ SlE w' lv (listA c.A) cap ∧ St w0 p cb c ls w' := by
  obtain ⟨h1, h2, F, h3, h4⟩ := h
  exact (entries_calls w0.heap.size c cb F w h3).mono fun e w' ⟨lv, cap, he, hs, hb⟩ => ⟨lv, cap, he, hs, St.below ⟨h1, h2, F, h3, h4⟩ hb⟩
theorem misses_st {w0 p cb c ls} {w : World} (h : St w0 p cb c ls w) :
    Calls Tryd.prog 19 #[.pointer (some ⟨cb, 0, none⟩)] w fun e w' => ∃ lv cap, e = .returned (.slice lv c.M.length cap) ∧ SlAt w' lv c.M cap ∧ St w0 p cb c ls w' := by
  obtain ⟨h1, h2, F, h3, h4⟩ := h
  exact (misses_calls w0.heap.size c cb F w h3).mono fun e w' ⟨lv, cap, he, hs, hb⟩ => ⟨lv, cap, he, hs, St.below ⟨h1, h2, F, h3, h4⟩ hb⟩
theorem want_ok {w0 p cb c ls} {w : World} (h : St w0 p cb c ls w) (line kind word v : Int) {a1 a2 a3 a4 a5 a6 a7 a8 a9 a10 a11 a12 : Int} {a13 : Bool} {c' : Ca} (hq : wantC c line kind word v = (⟨a1, a2, a3, a4, a5, a6, a7, a8, a9, a10, a11, a12, a13⟩, .ok, c')) :
    Calls Tryd.prog 11 #[.pointer (some ⟨cb, 0, none⟩), .int .i64 line, .int .i64 kind, .int .i64 word, .int .u32 v] w fun e w' => e = .returned (.tuple #[.agg #[.int .i64 a1, .int .i64 a2, .int .i64 a3, .int .i64 a4, .int .i64 a5, .int .i64 a6, .int .i64 a7, .int .u32 a8, .int .u32 a9, .int .u32 a10, .int .u32 a11, .int .u32 a12, .bool a13], .nilIface]) ∧ St w0 p cb c' ls w' := want_st h line kind word v hq
theorem want_one {w0 p cb c ls} {w : World} (h : St w0 p cb c ls w) (line kind word v : Int) {a1 a2 a3 a4 a5 a6 a7 a8 a9 a10 a11 a12 : Int} {a13 : Bool} {code : Nat} {c' : Ca} (hq : wantC c line kind word v = (⟨a1, a2, a3, a4, a5, a6, a7, a8, a9, a10, a11, a12, a13⟩, .one code, c')) :
    Calls Tryd.prog 11 #[.pointer (some ⟨cb, 0, none⟩), .int .i64 line, .int .i64 kind, .int .i64 word, .int .u32 v] w fun e w' => e = .returned (.tuple #[.agg #[.int .i64 a1, .int .i64 a2, .int .i64 a3, .int .i64 a4, .int .i64 a5, .int .i64 a6, .int .i64 a7, .int .u32 a8, .int .u32 a9, .int .u32 a10, .int .u32 a11, .int .u32 a12, .bool a13], .iface 81 (.agg #[.string ⟨wantOp.toArray⟩, .int .i64 line, sentv (p code)])]) ∧ St w0 p cb c' ls w' := want_st h line kind word v hq
theorem want_two {w0 p cb c ls} {w : World} (h : St w0 p cb c ls w) (line kind word v : Int) {a1 a2 a3 a4 a5 a6 a7 a8 a9 a10 a11 a12 : Int} {a13 : Bool} {at_ : Int} {c' : Ca} (hq : wantC c line kind word v = (⟨a1, a2, a3, a4, a5, a6, a7, a8, a9, a10, a11, a12, a13⟩, .two at_, c')) :
    Calls Tryd.prog 11 #[.pointer (some ⟨cb, 0, none⟩), .int .i64 line, .int .i64 kind, .int .i64 word, .int .u32 v] w fun e w' => e = .returned (.tuple #[.agg #[.int .i64 a1, .int .i64 a2, .int .i64 a3, .int .i64 a4, .int .i64 a5, .int .i64 a6, .int .i64 a7, .int .u32 a8, .int .u32 a9, .int .u32 a10, .int .u32 a11, .int .u32 a12, .bool a13], .iface 81 (.agg #[.string ⟨wantOp.toArray⟩, .int .i64 line, faultv addOp at_ (sentv (p 6))])]) ∧ St w0 p cb c' ls w' := want_st h line kind word v hq
theorem forward_lit {w0 p cb c ls} {w : World} (h : St w0 p cb c ls w) (x : Msg) {a1 a2 a3 a4 a5 a6 a7 a8 a9 a10 a11 a12 : Int} {a13 : Bool} {b : Bool} {c' : Ca} (hq : forwardC c x = (⟨a1, a2, a3, a4, a5, a6, a7, a8, a9, a10, a11, a12, a13⟩, b, c')) :
    Calls Tryd.prog 16 #[.pointer (some ⟨cb, 0, none⟩), x.val] w fun e w' => e = .returned (.tuple #[.agg #[.int .i64 a1, .int .i64 a2, .int .i64 a3, .int .i64 a4, .int .i64 a5, .int .i64 a6, .int .i64 a7, .int .u32 a8, .int .u32 a9, .int .u32 a10, .int .u32 a11, .int .u32 a12, .bool a13], .bool b]) ∧ St w0 p cb c' ls w' := forward_st h x hq
theorem answer_lit {w0 p cb c ls} {w : World} (h : St w0 p cb c ls w) (x : Msg) {a1 a2 a3 a4 a5 a6 a7 a8 a9 a10 a11 a12 : Int} {a13 : Bool} {b : Bool} {c' : Ca} (hq : answerC c x = (⟨a1, a2, a3, a4, a5, a6, a7, a8, a9, a10, a11, a12, a13⟩, b, c')) :
    Calls Tryd.prog 12 #[.pointer (some ⟨cb, 0, none⟩), x.val] w fun e w' => e = .returned (.tuple #[.agg #[.int .i64 a1, .int .i64 a2, .int .i64 a3, .int .i64 a4, .int .i64 a5, .int .i64 a6, .int .i64 a7, .int .u32 a8, .int .u32 a9, .int .u32 a10, .int .u32 a11, .int .u32 a12, .bool a13], .bool b]) ∧ St w0 p cb c' ls w' := answer_st h x hq
/-- A comparison of two messages, in whatever world. -/
theorem msg_same (m : Msg) (w : World) : (binOp .eql 33 m.val m.val).run Tryd.prog w = .ok (.bool true) w := by
  have := msg_eql m.kind m.core m.line m.state m.mode m.epoch m.word m.value m.d0 m.d1 m.d2 m.d3 m.kind m.core m.line m.state m.mode m.epoch m.word m.value m.d0 m.d1 m.d2 m.d3 m.has m.has w
  rw [show msgEq ⟨m.kind, m.core, m.line, m.state, m.mode, m.epoch, m.word, m.value, m.d0, m.d1, m.d2, m.d3, m.has⟩ ⟨m.kind, m.core, m.line, m.state, m.mode, m.epoch, m.word, m.value, m.d0, m.d1, m.d2, m.d3, m.has⟩ = true by simp [msgEq]] at this
  exact this
/-- The beginning: a new cache. -/
theorem new_st {p} {w : World} (c1 c2 c5 c6 c7 c8 c9 core : Int) (n k : Nat) (w0 : World) (hg : Sent w0.heap.size w p) (hb0 : Below w0.heap.size w0 w) (hlow : -1 ≤ c9) (hok : (Cfg.bad ⟨c1, c2, n, k, c5, c6, c7, c8, c9⟩) < 0) (hcore : 0 ≤ core ∧ core < c1) (hn : power n 8 = true) (hk : power k 8 = true) (hm : 1 ≤ c5 ∧ c5 ≤ 8) :
    Calls Tryd.prog 10 #[Cfg.val ⟨c1, c2, n, k, c5, c6, c7, c8, c9⟩, .int .i64 core] w fun e w' => ∃ cb, e = .returned (.tuple #[.pointer (some ⟨cb, 0, none⟩), .nilIface]) ∧ St w0 p cb (newC core n k c5) [] w' :=
  (new_calls w0.heap.size c1 c2 c5 c6 c7 c8 c9 core n k p w hg hlow hok hcore hn hk hm).mono fun e w' ⟨cb, F, he, hc, hl, hb⟩ => ⟨cb, he, hb0.trans (hb.mono hb0.size), hg.below hb, F, hc, fun l hl => by simp at hl⟩

end Go.Proofs.YtnieambhpmnliaaDoor
