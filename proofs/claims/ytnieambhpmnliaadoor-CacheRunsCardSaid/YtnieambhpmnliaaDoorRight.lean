/- The contract of msg.Right: what it answers of every message. -/
import Derived.Test.YtnieambhpmnliaaDoorPure
import Derived.Deep.DeepCutAuto
namespace Go.Proofs.YtnieambhpmnliaaDoor
set_option linter.all false
set_option linter.unusedVariables false
set_option linter.unusedSimpArgs false
open Go Go.RowKit

theorem run_equalIn_arr4 {P : Program} (d : Nat) (t e : TypeId) (k : IntKind) (a0 a1 a2 a3 b0 b1 b2 b3 : Int) (w : World) (ht : P.underlying t = some (.array 4 e)) (he : P.underlying e = some (.int k)) (hs : (P.info? e).map (·.size) = some 1) :
    (Op.equalIn (d + 2) t (.agg #[.int k a0, .int k a1, .int k a2, .int k a3]) (.agg #[.int k b0, .int k b1, .int k b2, .int k b3])).run P w = .ok (a0 == b0 && a1 == b1 && a2 == b2 && a3 == b3) w := by
  obtain ⟨i, hi, hi1⟩ := Option.map_eq_some_iff.1 hs
  have hz : ∀ w : World, (sizeOf e).run P w = .ok 1 w := fun w => by simp [sizeOf, typeInfo, hi, hi1]
  have hp : ∀ (w : World) (cs : Array Value) (o : Nat) (x : Int), cs[o]? = some (.int k x) → (part e cs o).run P w = .ok (.int k x) w := fun w cs o x h => by
    simp [part, isAgg, run_underlying he, h]
  have pa0 := fun w => hp w #[.int k a0, .int k a1, .int k a2, .int k a3] 0 a0 rfl
  have pa1 := fun w => hp w #[.int k a0, .int k a1, .int k a2, .int k a3] 1 a1 rfl
  have pa2 := fun w => hp w #[.int k a0, .int k a1, .int k a2, .int k a3] 2 a2 rfl
  have pa3 := fun w => hp w #[.int k a0, .int k a1, .int k a2, .int k a3] 3 a3 rfl
  have pb0 := fun w => hp w #[.int k b0, .int k b1, .int k b2, .int k b3] 0 b0 rfl
  have pb1 := fun w => hp w #[.int k b0, .int k b1, .int k b2, .int k b3] 1 b1 rfl
  have pb2 := fun w => hp w #[.int k b0, .int k b1, .int k b2, .int k b3] 2 b2 rfl
  have pb3 := fun w => hp w #[.int k b0, .int k b1, .int k b2, .int k b3] 3 b3 rfl
  unfold Op.equalIn
  simp only [Sem.run_bind, run_underlying ht, Result.andThen_ok, hz]
  simp only [Std.Legacy.Range.forIn_eq_forIn_range', Std.Legacy.Range.size]
  simp only [show (List.range' 0 ((4 - 0 + 1 - 1) / 1) 1) = [0, 1, 2, 3] from rfl, List.forIn_cons, List.forIn_nil, Sem.run_bind, Nat.reduceMul]
  simp only [pa0, pa1, pa2, pa3, pb0, pb1, pb2, pb3, Result.andThen_ok, run_equalIn_int _ d e k k _ _ he]
  cases h0 : a0 == b0 <;> cases h1 : a1 == b1 <;> cases h2 : a2 == b2 <;> cases h3 : a3 == b3 <;>
    simp only [h0, h1, h2, h3, pa0, pa1, pa2, pa3, pb0, pb1, pb2, pb3, Result.andThen_ok, run_equalIn_int _ d e k k _ _ he, Bool.not_true, Bool.not_false, if_true, if_false, Bool.false_eq_true, Sem.run_pure, List.forIn_cons, List.forIn_nil, Sem.run_bind, Bool.and_true, Bool.and_false, Bool.true_and, Bool.false_and]

def msgEq (x y : Msg) : Bool := decide (x = y)

theorem stoodMsg : Tryd.prog.stoodInHeld 33 = false := by kernel_rfl
theorem sizeU32 : (Tryd.prog.info? 29).map (·.size) = some 1 := by kernel_rfl
theorem sizeLine : (Tryd.prog.info? 31).map (·.size) = some 4 := by kernel_rfl
theorem part_int {P : Program} (w : World) (t : TypeId) (k : IntKind) (cs : Array Value) (o : Nat) (v : Value) (ht : P.underlying t = some (.int k)) (h : cs[o]? = some v) : (part t cs o).run P w = .ok v w := by
  simp [part, isAgg, run_underlying ht, h]
theorem part_bool {P : Program} (w : World) (t : TypeId) (cs : Array Value) (o : Nat) (v : Value) (ht : P.underlying t = some .bool) (h : cs[o]? = some v) : (part t cs o).run P w = .ok v w := by
  simp [part, isAgg, run_underlying ht, h]
theorem part_arr {P : Program} (w : World) (t e : TypeId) (n : Nat) (cs : Array Value) (o s : Nat) (ht : P.underlying t = some (.array n e)) (hs : (P.info? t).map (·.size) = some s) : (part t cs o).run P w = .ok (.agg (cs.extract o (o + s))) w := by
  obtain ⟨i, hi, hi1⟩ := Option.map_eq_some_iff.1 hs
  simp [part, isAgg, run_underlying ht, sizeOf, typeInfo, hi, hi1]

theorem eqFields_cons {P : Program} {w : World} {f : Field} {fs : List Field} {xs ys : Array Value} {d : Nat} {va vb : Value} {r r2 : Bool} (hn : f.name ≠ "_") (ha : (part f.type xs f.offset).run P w = .ok va w) (hb : (part f.type ys f.offset).run P w = .ok vb w)
    (he : (Op.equalIn d f.type va vb).run P w = .ok r w) (hrest : (Op.eqFields d xs ys fs).run P w = .ok r2 w) : (Op.eqFields d xs ys (f :: fs)).run P w = .ok (r && r2) w := by
  simp only [Op.eqFields, hn, if_true, Sem.run_bind, ha, hb, he, Result.andThen_ok, ne_eq, not_false_eq_true]
  cases r <;> simp [hrest]

theorem msg_equal (a1 a2 a3 a4 a5 a6 a7 a8 a9 a10 a11 a12 b1 b2 b3 b4 b5 b6 b7 b8 b9 b10 b11 b12 : Int) (a13 b13 : Bool) (w : World) :
    (Op.equalIn 10000 33 (Msg.val ⟨a1, a2, a3, a4, a5, a6, a7, a8, a9, a10, a11, a12, a13⟩) (Msg.val ⟨b1, b2, b3, b4, b5, b6, b7, b8, b9, b10, b11, b12, b13⟩)).run Tryd.prog w
      = .ok (msgEq ⟨a1, a2, a3, a4, a5, a6, a7, a8, a9, a10, a11, a12, a13⟩ ⟨b1, b2, b3, b4, b5, b6, b7, b8, b9, b10, b11, b12, b13⟩) w := by
  unfold Msg.val
  rw [run_equalIn_struct w 9999 33 _ _ (by unfold Program.fieldsOf; rw [Tryd.underlying33]) stoodMsg]
  unfold Program.fieldsOf
  rw [Tryd.underlying33]
  have hi := fun (a b : Int) => run_equalIn_int (P := Tryd.prog) w 9998 3 .i64 .i64 a b Tryd.underlying3
  have hu := fun (a b : Int) => run_equalIn_int (P := Tryd.prog) w 9998 29 .u32 .u32 a b Tryd.underlying29
  have hb := fun (a b : Bool) => run_equalIn_bool (P := Tryd.prog) w 9998 4 a b Tryd.underlying4
  have he : msgEq ⟨a1, a2, a3, a4, a5, a6, a7, a8, a9, a10, a11, a12, a13⟩ ⟨b1, b2, b3, b4, b5, b6, b7, b8, b9, b10, b11, b12, b13⟩ =
      (a1 == b1 && (a2 == b2 && (a3 == b3 && (a4 == b4 && (a5 == b5 && (a6 == b6 && (a7 == b7 && (a8 == b8 && ((a9 == b9 && a10 == b10 && a11 == b11 && a12 == b12) && (a13 == b13 && true)))))))))) := by
    rw [Bool.eq_iff_iff]; simp [msgEq, and_assoc]
  rw [he]
  refine eqFields_cons (by decide) (part_int w _ _ _ _ _ Tryd.underlying3 rfl) (part_int w _ _ _ _ _ Tryd.underlying3 rfl) (hi _ _) ?_
  refine eqFields_cons (by decide) (part_int w _ _ _ _ _ Tryd.underlying3 rfl) (part_int w _ _ _ _ _ Tryd.underlying3 rfl) (hi _ _) ?_
  refine eqFields_cons (by decide) (part_int w _ _ _ _ _ Tryd.underlying3 rfl) (part_int w _ _ _ _ _ Tryd.underlying3 rfl) (hi _ _) ?_
  refine eqFields_cons (by decide) (part_int w _ _ _ _ _ Tryd.underlying3 rfl) (part_int w _ _ _ _ _ Tryd.underlying3 rfl) (hi _ _) ?_
  refine eqFields_cons (by decide) (part_int w _ _ _ _ _ Tryd.underlying3 rfl) (part_int w _ _ _ _ _ Tryd.underlying3 rfl) (hi _ _) ?_
  refine eqFields_cons (by decide) (part_int w _ _ _ _ _ Tryd.underlying3 rfl) (part_int w _ _ _ _ _ Tryd.underlying3 rfl) (hi _ _) ?_
  refine eqFields_cons (by decide) (part_int w _ _ _ _ _ Tryd.underlying3 rfl) (part_int w _ _ _ _ _ Tryd.underlying3 rfl) (hi _ _) ?_
  refine eqFields_cons (by decide) (part_int w _ _ _ _ _ Tryd.underlying29 rfl) (part_int w _ _ _ _ _ Tryd.underlying29 rfl) (hu _ _) ?_
  refine eqFields_cons (by decide) (part_arr w _ _ _ _ _ _ Tryd.underlying31 sizeLine) (part_arr w _ _ _ _ _ _ Tryd.underlying31 sizeLine) (run_equalIn_arr4 9997 _ _ _ _ _ _ _ _ _ _ _ w Tryd.underlying31 Tryd.underlying29 sizeU32) ?_
  refine eqFields_cons (by decide) (part_bool w _ _ _ _ Tryd.underlying4 rfl) (part_bool w _ _ _ _ Tryd.underlying4 rfl) (hb _ _) ?_
  simp [Op.eqFields]

theorem msg_eql (a1 a2 a3 a4 a5 a6 a7 a8 a9 a10 a11 a12 b1 b2 b3 b4 b5 b6 b7 b8 b9 b10 b11 b12 : Int) (a13 b13 : Bool) (w : World) :
    (binOp .eql 33 (.agg #[.int .i64 a1, .int .i64 a2, .int .i64 a3, .int .i64 a4, .int .i64 a5, .int .i64 a6, .int .i64 a7, .int .u32 a8, .int .u32 a9, .int .u32 a10, .int .u32 a11, .int .u32 a12, .bool a13])
      (.agg #[.int .i64 b1, .int .i64 b2, .int .i64 b3, .int .i64 b4, .int .i64 b5, .int .i64 b6, .int .i64 b7, .int .u32 b8, .int .u32 b9, .int .u32 b10, .int .u32 b11, .int .u32 b12, .bool b13])).run Tryd.prog w
      = .ok (.bool (msgEq ⟨a1, a2, a3, a4, a5, a6, a7, a8, a9, a10, a11, a12, a13⟩ ⟨b1, b2, b3, b4, b5, b6, b7, b8, b9, b10, b11, b12, b13⟩)) w := by
  have h := msg_equal a1 a2 a3 a4 a5 a6 a7 a8 a9 a10 a11 a12 b1 b2 b3 b4 b5 b6 b7 b8 b9 b10 b11 b12 a13 b13 w
  unfold Msg.val at h
  rw [run_eql_struct, h]; rfl

def bare (m : Msg) : Msg :=
  { kind := m.kind, core := m.core, line := m.line, state := if fstate m.kind then m.state else 0, mode := if fmode m.kind then m.mode else 0, epoch := if fepoch m.kind then m.epoch else 0,
    word := if fword m.kind then m.word else 0, value := if fword m.kind then m.value else 0,
    d0 := if fstate m.kind && m.has then m.d0 else 0, d1 := if fstate m.kind && m.has then m.d1 else 0, d2 := if fstate m.kind && m.has then m.d2 else 0, d3 := if fstate m.kind && m.has then m.d3 else 0,
    has := if fstate m.kind then m.has else false }
def limits (m : Msg) : Bool := within m.word 0 3 && within m.state 0 4 && within m.mode 0 3 && within m.epoch 0 255
def granted (m : Msg) : Bool := m.kind != 13 || (m.state != 0 && m.state != 3)
def right (m : Msg) : Bool := decide (0 ≤ pool m.kind) && within m.core 0 63 && within m.line 0 31 && msgEq m (bare m) && limits m && granted m


-- WALKS (written by gen_right.py)
set_option maxRecDepth 100000 in
set_option maxHeartbeats 1000000 in
theorem right_w (k c l s mo ep wd v d0 d1 d2 d3 : Int) (h : Bool) (w : World) (p0 : 0 ≤ pool k) (c0 : within c 0 63 = true) (c1 : within l 0 31 = true) (h1 : fword k = true) (h2 : fmode k = false) (h3 : fepoch k = false) (h4 : fstate k = false) (k1 : (k == 13) = false) (k2 : (k != 13) = true) :
    Calls Tryd.prog 56 #[Msg.val ⟨k, c, l, s, mo, ep, wd, v, d0, d1, d2, d3, h⟩] w fun e w' => e = .returned (.bool (right ⟨k, c, l, s, mo, ep, wd, v, d0, d1, d2, d3, h⟩)) ∧ Below w.heap.size w w' := by
  have heq := msg_eql
  unfold Msg.val
  go_enter Tryd.func56, Tryd.ntmps56
  go_upto_region 15 with (first | go_region | (go_at_call 57; refine (pool_calls _ _).mono ?_; rintro e w' ⟨rfl, rfl⟩) | (go_at_call 82; refine (mwithin_calls _ _ _ _).mono ?_; rintro e w' ⟨rfl, rfl⟩) | (go_at_call 83; refine (named_calls _ _).mono ?_; rintro e w1 ⟨rfl, hb1⟩; obtain ⟨hc1, hf1⟩ := bcell hb1; have hz1 : w.heap.size < w1.heap.size := (by have := hb1.size; simp at this; omega)))
  all_goals
    go_cut [5] (fun s5 wx => s5 = .bool (limits ⟨k, c, l, s, mo, ep, wd, v, d0, d1, d2, d3, h⟩) ∧ wx = ((w1.alloc (.cells #[.bool true, .bool false, .bool false, .bool false] 135)).alloc (.cells #[.int .i64 k, .int .i64 c, .int .i64 l, .int .i64 0, .int .i64 0, .int .i64 0, .int .i64 wd, .int .u32 v, .int .u32 0, .int .u32 0, .int .u32 0, .int .u32 0, .bool false] 33)).drew)
    case first =>
      go_wp2_with (first | go_region | (go_at_call 57; refine (pool_calls _ _).mono ?_; rintro e w' ⟨rfl, rfl⟩) | (go_at_call 82; refine (mwithin_calls _ _ _ _).mono ?_; rintro e w' ⟨rfl, rfl⟩) | (go_at_call 83; refine (named_calls _ _).mono ?_; rintro e w1 ⟨rfl, hb1⟩; obtain ⟨hc1, hf1⟩ := bcell hb1; have hz1 : w.heap.size < w1.heap.size := (by have := hb1.size; simp at this; omega)))
      all_goals (go_meet; refine ⟨congrArg Value.bool ?_, rfl⟩; simp [limits, *])
    case rest =>
      obtain ⟨rfl, rfl⟩ := hcut
      go_wp2_with (first | go_region | (go_at_call 57; refine (pool_calls _ _).mono ?_; rintro e w' ⟨rfl, rfl⟩) | (go_at_call 82; refine (mwithin_calls _ _ _ _).mono ?_; rintro e w' ⟨rfl, rfl⟩) | (go_at_call 83; refine (named_calls _ _).mono ?_; rintro e w1 ⟨rfl, hb1⟩; obtain ⟨hc1, hf1⟩ := bcell hb1; have hz1 : w.heap.size < w1.heap.size := (by have := hb1.size; simp at this; omega)))
      all_goals (go_ret; refine ⟨ret_bool ?_, ?_⟩)
      all_goals first | (refine Below.drew (Below.alloc (Below.alloc (((Below.refl _ _).alloc (Nat.le_refl _) _).trans (hb1.mono (by simp))) (by omega) _) (by simp; omega) _); done) | (go_tidy; simp_all [right, bare, granted]; done)
set_option maxRecDepth 100000 in
set_option maxHeartbeats 1000000 in
theorem right_m (k c l s mo ep wd v d0 d1 d2 d3 : Int) (h : Bool) (w : World) (p0 : 0 ≤ pool k) (c0 : within c 0 63 = true) (c1 : within l 0 31 = true) (h1 : fword k = false) (h2 : fmode k = true) (h3 : fepoch k = false) (h4 : fstate k = false) (k1 : (k == 13) = false) (k2 : (k != 13) = true) :
    Calls Tryd.prog 56 #[Msg.val ⟨k, c, l, s, mo, ep, wd, v, d0, d1, d2, d3, h⟩] w fun e w' => e = .returned (.bool (right ⟨k, c, l, s, mo, ep, wd, v, d0, d1, d2, d3, h⟩)) ∧ Below w.heap.size w w' := by
  have heq := msg_eql
  unfold Msg.val
  go_enter Tryd.func56, Tryd.ntmps56
  go_upto_region 15 with (first | go_region | (go_at_call 57; refine (pool_calls _ _).mono ?_; rintro e w' ⟨rfl, rfl⟩) | (go_at_call 82; refine (mwithin_calls _ _ _ _).mono ?_; rintro e w' ⟨rfl, rfl⟩) | (go_at_call 83; refine (named_calls _ _).mono ?_; rintro e w1 ⟨rfl, hb1⟩; obtain ⟨hc1, hf1⟩ := bcell hb1; have hz1 : w.heap.size < w1.heap.size := (by have := hb1.size; simp at this; omega)))
  all_goals
    go_cut [5] (fun s5 wx => s5 = .bool (limits ⟨k, c, l, s, mo, ep, wd, v, d0, d1, d2, d3, h⟩) ∧ wx = (w1.alloc (.cells #[.bool false, .bool true, .bool false, .bool false] 135)).alloc (.cells #[.int .i64 k, .int .i64 c, .int .i64 l, .int .i64 0, .int .i64 mo, .int .i64 0, .int .i64 0, .int .u32 0, .int .u32 0, .int .u32 0, .int .u32 0, .int .u32 0, .bool false] 33))
    case first =>
      go_wp2_with (first | go_region | (go_at_call 57; refine (pool_calls _ _).mono ?_; rintro e w' ⟨rfl, rfl⟩) | (go_at_call 82; refine (mwithin_calls _ _ _ _).mono ?_; rintro e w' ⟨rfl, rfl⟩) | (go_at_call 83; refine (named_calls _ _).mono ?_; rintro e w1 ⟨rfl, hb1⟩; obtain ⟨hc1, hf1⟩ := bcell hb1; have hz1 : w.heap.size < w1.heap.size := (by have := hb1.size; simp at this; omega)))
      all_goals (go_meet; refine ⟨congrArg Value.bool ?_, rfl⟩; simp [limits, *])
    case rest =>
      obtain ⟨rfl, rfl⟩ := hcut
      go_wp2_with (first | go_region | (go_at_call 57; refine (pool_calls _ _).mono ?_; rintro e w' ⟨rfl, rfl⟩) | (go_at_call 82; refine (mwithin_calls _ _ _ _).mono ?_; rintro e w' ⟨rfl, rfl⟩) | (go_at_call 83; refine (named_calls _ _).mono ?_; rintro e w1 ⟨rfl, hb1⟩; obtain ⟨hc1, hf1⟩ := bcell hb1; have hz1 : w.heap.size < w1.heap.size := (by have := hb1.size; simp at this; omega)))
      all_goals (go_ret; refine ⟨ret_bool ?_, ?_⟩)
      all_goals first | (refine Below.alloc (Below.alloc (((Below.refl _ _).alloc (Nat.le_refl _) _).trans (hb1.mono (by simp))) (by omega) _) (by simp; omega) _; done) | (go_tidy; simp_all [right, bare, granted]; done)
set_option maxRecDepth 100000 in
set_option maxHeartbeats 1000000 in
theorem right_e (k c l s mo ep wd v d0 d1 d2 d3 : Int) (h : Bool) (w : World) (p0 : 0 ≤ pool k) (c0 : within c 0 63 = true) (c1 : within l 0 31 = true) (h1 : fword k = false) (h2 : fmode k = true) (h3 : fepoch k = true) (h4 : fstate k = false) (k1 : (k == 13) = false) (k2 : (k != 13) = true) :
    Calls Tryd.prog 56 #[Msg.val ⟨k, c, l, s, mo, ep, wd, v, d0, d1, d2, d3, h⟩] w fun e w' => e = .returned (.bool (right ⟨k, c, l, s, mo, ep, wd, v, d0, d1, d2, d3, h⟩)) ∧ Below w.heap.size w w' := by
  have heq := msg_eql
  unfold Msg.val
  go_enter Tryd.func56, Tryd.ntmps56
  go_upto_region 15 with (first | go_region | (go_at_call 57; refine (pool_calls _ _).mono ?_; rintro e w' ⟨rfl, rfl⟩) | (go_at_call 82; refine (mwithin_calls _ _ _ _).mono ?_; rintro e w' ⟨rfl, rfl⟩) | (go_at_call 83; refine (named_calls _ _).mono ?_; rintro e w1 ⟨rfl, hb1⟩; obtain ⟨hc1, hf1⟩ := bcell hb1; have hz1 : w.heap.size < w1.heap.size := (by have := hb1.size; simp at this; omega)))
  all_goals
    go_cut [5] (fun s5 wx => s5 = .bool (limits ⟨k, c, l, s, mo, ep, wd, v, d0, d1, d2, d3, h⟩) ∧ wx = (w1.alloc (.cells #[.bool false, .bool true, .bool true, .bool false] 135)).alloc (.cells #[.int .i64 k, .int .i64 c, .int .i64 l, .int .i64 0, .int .i64 mo, .int .i64 ep, .int .i64 0, .int .u32 0, .int .u32 0, .int .u32 0, .int .u32 0, .int .u32 0, .bool false] 33))
    case first =>
      go_wp2_with (first | go_region | (go_at_call 57; refine (pool_calls _ _).mono ?_; rintro e w' ⟨rfl, rfl⟩) | (go_at_call 82; refine (mwithin_calls _ _ _ _).mono ?_; rintro e w' ⟨rfl, rfl⟩) | (go_at_call 83; refine (named_calls _ _).mono ?_; rintro e w1 ⟨rfl, hb1⟩; obtain ⟨hc1, hf1⟩ := bcell hb1; have hz1 : w.heap.size < w1.heap.size := (by have := hb1.size; simp at this; omega)))
      all_goals (go_meet; refine ⟨congrArg Value.bool ?_, rfl⟩; simp [limits, *])
    case rest =>
      obtain ⟨rfl, rfl⟩ := hcut
      go_wp2_with (first | go_region | (go_at_call 57; refine (pool_calls _ _).mono ?_; rintro e w' ⟨rfl, rfl⟩) | (go_at_call 82; refine (mwithin_calls _ _ _ _).mono ?_; rintro e w' ⟨rfl, rfl⟩) | (go_at_call 83; refine (named_calls _ _).mono ?_; rintro e w1 ⟨rfl, hb1⟩; obtain ⟨hc1, hf1⟩ := bcell hb1; have hz1 : w.heap.size < w1.heap.size := (by have := hb1.size; simp at this; omega)))
      all_goals (go_ret; refine ⟨ret_bool ?_, ?_⟩)
      all_goals first | (refine Below.alloc (Below.alloc (((Below.refl _ _).alloc (Nat.le_refl _) _).trans (hb1.mono (by simp))) (by omega) _) (by simp; omega) _; done) | (go_tidy; simp_all [right, bare, granted]; done)
set_option maxRecDepth 100000 in
set_option maxHeartbeats 1000000 in
theorem right_st (k c l s mo ep wd v d0 d1 d2 d3 : Int) (w : World) (p0 : 0 ≤ pool k) (c0 : within c 0 63 = true) (c1 : within l 0 31 = true) (h1 : fword k = false) (h2 : fmode k = false) (h3 : fepoch k = false) (h4 : fstate k = true) (k1 : (k == 13) = false) (k2 : (k != 13) = true) :
    Calls Tryd.prog 56 #[Msg.val ⟨k, c, l, s, mo, ep, wd, v, d0, d1, d2, d3, true⟩] w fun e w' => e = .returned (.bool (right ⟨k, c, l, s, mo, ep, wd, v, d0, d1, d2, d3, true⟩)) ∧ Below w.heap.size w w' := by
  have heq := msg_eql
  unfold Msg.val
  go_enter Tryd.func56, Tryd.ntmps56
  go_upto_region 15 with (first | go_region | (go_at_call 57; refine (pool_calls _ _).mono ?_; rintro e w' ⟨rfl, rfl⟩) | (go_at_call 82; refine (mwithin_calls _ _ _ _).mono ?_; rintro e w' ⟨rfl, rfl⟩) | (go_at_call 83; refine (named_calls _ _).mono ?_; rintro e w1 ⟨rfl, hb1⟩; obtain ⟨hc1, hf1⟩ := bcell hb1; have hz1 : w.heap.size < w1.heap.size := (by have := hb1.size; simp at this; omega)))
  all_goals
    go_cut [5] (fun s5 wx => s5 = .bool (limits ⟨k, c, l, s, mo, ep, wd, v, d0, d1, d2, d3, true⟩) ∧ wx = ((w1.alloc (.cells #[.bool false, .bool false, .bool false, .bool true] 135)).alloc (.cells #[.int .i64 k, .int .i64 c, .int .i64 l, .int .i64 s, .int .i64 0, .int .i64 0, .int .i64 0, .int .u32 0, .int .u32 d0, .int .u32 d1, .int .u32 d2, .int .u32 d3, .bool true] 33)).drew)
    case first =>
      go_wp2_with (first | go_region | (go_at_call 57; refine (pool_calls _ _).mono ?_; rintro e w' ⟨rfl, rfl⟩) | (go_at_call 82; refine (mwithin_calls _ _ _ _).mono ?_; rintro e w' ⟨rfl, rfl⟩) | (go_at_call 83; refine (named_calls _ _).mono ?_; rintro e w1 ⟨rfl, hb1⟩; obtain ⟨hc1, hf1⟩ := bcell hb1; have hz1 : w.heap.size < w1.heap.size := (by have := hb1.size; simp at this; omega)))
      all_goals (go_meet; refine ⟨congrArg Value.bool ?_, rfl⟩; simp [limits, *])
    case rest =>
      obtain ⟨rfl, rfl⟩ := hcut
      go_wp2_with (first | go_region | (go_at_call 57; refine (pool_calls _ _).mono ?_; rintro e w' ⟨rfl, rfl⟩) | (go_at_call 82; refine (mwithin_calls _ _ _ _).mono ?_; rintro e w' ⟨rfl, rfl⟩) | (go_at_call 83; refine (named_calls _ _).mono ?_; rintro e w1 ⟨rfl, hb1⟩; obtain ⟨hc1, hf1⟩ := bcell hb1; have hz1 : w.heap.size < w1.heap.size := (by have := hb1.size; simp at this; omega)))
      all_goals (go_ret; refine ⟨ret_bool ?_, ?_⟩)
      all_goals first | (refine Below.drew (Below.alloc (Below.alloc (((Below.refl _ _).alloc (Nat.le_refl _) _).trans (hb1.mono (by simp))) (by omega) _) (by simp; omega) _); done) | (go_tidy; simp_all [right, bare, granted]; done)
set_option maxRecDepth 100000 in
set_option maxHeartbeats 1000000 in
theorem right_sf (k c l s mo ep wd v d0 d1 d2 d3 : Int) (w : World) (p0 : 0 ≤ pool k) (c0 : within c 0 63 = true) (c1 : within l 0 31 = true) (h1 : fword k = false) (h2 : fmode k = false) (h3 : fepoch k = false) (h4 : fstate k = true) (k1 : (k == 13) = false) (k2 : (k != 13) = true) :
    Calls Tryd.prog 56 #[Msg.val ⟨k, c, l, s, mo, ep, wd, v, d0, d1, d2, d3, false⟩] w fun e w' => e = .returned (.bool (right ⟨k, c, l, s, mo, ep, wd, v, d0, d1, d2, d3, false⟩)) ∧ Below w.heap.size w w' := by
  have heq := msg_eql
  unfold Msg.val
  go_enter Tryd.func56, Tryd.ntmps56
  go_upto_region 15 with (first | go_region | (go_at_call 57; refine (pool_calls _ _).mono ?_; rintro e w' ⟨rfl, rfl⟩) | (go_at_call 82; refine (mwithin_calls _ _ _ _).mono ?_; rintro e w' ⟨rfl, rfl⟩) | (go_at_call 83; refine (named_calls _ _).mono ?_; rintro e w1 ⟨rfl, hb1⟩; obtain ⟨hc1, hf1⟩ := bcell hb1; have hz1 : w.heap.size < w1.heap.size := (by have := hb1.size; simp at this; omega)))
  all_goals
    go_cut [5] (fun s5 wx => s5 = .bool (limits ⟨k, c, l, s, mo, ep, wd, v, d0, d1, d2, d3, false⟩) ∧ wx = ((w1.alloc (.cells #[.bool false, .bool false, .bool false, .bool true] 135)).alloc (.cells #[.int .i64 k, .int .i64 c, .int .i64 l, .int .i64 s, .int .i64 0, .int .i64 0, .int .i64 0, .int .u32 0, .int .u32 0, .int .u32 0, .int .u32 0, .int .u32 0, .bool false] 33)).drew)
    case first =>
      go_wp2_with (first | go_region | (go_at_call 57; refine (pool_calls _ _).mono ?_; rintro e w' ⟨rfl, rfl⟩) | (go_at_call 82; refine (mwithin_calls _ _ _ _).mono ?_; rintro e w' ⟨rfl, rfl⟩) | (go_at_call 83; refine (named_calls _ _).mono ?_; rintro e w1 ⟨rfl, hb1⟩; obtain ⟨hc1, hf1⟩ := bcell hb1; have hz1 : w.heap.size < w1.heap.size := (by have := hb1.size; simp at this; omega)))
      all_goals (go_meet; refine ⟨congrArg Value.bool ?_, rfl⟩; simp [limits, *])
    case rest =>
      obtain ⟨rfl, rfl⟩ := hcut
      go_wp2_with (first | go_region | (go_at_call 57; refine (pool_calls _ _).mono ?_; rintro e w' ⟨rfl, rfl⟩) | (go_at_call 82; refine (mwithin_calls _ _ _ _).mono ?_; rintro e w' ⟨rfl, rfl⟩) | (go_at_call 83; refine (named_calls _ _).mono ?_; rintro e w1 ⟨rfl, hb1⟩; obtain ⟨hc1, hf1⟩ := bcell hb1; have hz1 : w.heap.size < w1.heap.size := (by have := hb1.size; simp at this; omega)))
      all_goals (go_ret; refine ⟨ret_bool ?_, ?_⟩)
      all_goals first | (refine Below.drew (Below.alloc (Below.alloc (((Below.refl _ _).alloc (Nat.le_refl _) _).trans (hb1.mono (by simp))) (by omega) _) (by simp; omega) _); done) | (go_tidy; simp_all [right, bare, granted]; done)
set_option maxRecDepth 100000 in
set_option maxHeartbeats 1000000 in
theorem right_dt (k c l s mo ep wd v d0 d1 d2 d3 : Int) (w : World) (p0 : 0 ≤ pool k) (c0 : within c 0 63 = true) (c1 : within l 0 31 = true) (h1 : fword k = false) (h2 : fmode k = true) (h3 : fepoch k = true) (h4 : fstate k = true) (k1 : (k == 13) = true) (k2 : (k != 13) = false) :
    Calls Tryd.prog 56 #[Msg.val ⟨k, c, l, s, mo, ep, wd, v, d0, d1, d2, d3, true⟩] w fun e w' => e = .returned (.bool (right ⟨k, c, l, s, mo, ep, wd, v, d0, d1, d2, d3, true⟩)) ∧ Below w.heap.size w w' := by
  have heq := msg_eql
  unfold Msg.val
  go_enter Tryd.func56, Tryd.ntmps56
  go_upto_region 15 with (first | go_region | (go_at_call 57; refine (pool_calls _ _).mono ?_; rintro e w' ⟨rfl, rfl⟩) | (go_at_call 82; refine (mwithin_calls _ _ _ _).mono ?_; rintro e w' ⟨rfl, rfl⟩) | (go_at_call 83; refine (named_calls _ _).mono ?_; rintro e w1 ⟨rfl, hb1⟩; obtain ⟨hc1, hf1⟩ := bcell hb1; have hz1 : w.heap.size < w1.heap.size := (by have := hb1.size; simp at this; omega)))
  all_goals
    go_cut [5] (fun s5 wx => s5 = .bool (limits ⟨k, c, l, s, mo, ep, wd, v, d0, d1, d2, d3, true⟩) ∧ wx = ((w1.alloc (.cells #[.bool false, .bool true, .bool true, .bool true] 135)).alloc (.cells #[.int .i64 k, .int .i64 c, .int .i64 l, .int .i64 s, .int .i64 mo, .int .i64 ep, .int .i64 0, .int .u32 0, .int .u32 d0, .int .u32 d1, .int .u32 d2, .int .u32 d3, .bool true] 33)).drew)
    case first =>
      go_wp2_with (first | go_region | (go_at_call 57; refine (pool_calls _ _).mono ?_; rintro e w' ⟨rfl, rfl⟩) | (go_at_call 82; refine (mwithin_calls _ _ _ _).mono ?_; rintro e w' ⟨rfl, rfl⟩) | (go_at_call 83; refine (named_calls _ _).mono ?_; rintro e w1 ⟨rfl, hb1⟩; obtain ⟨hc1, hf1⟩ := bcell hb1; have hz1 : w.heap.size < w1.heap.size := (by have := hb1.size; simp at this; omega)))
      all_goals (go_meet; refine ⟨congrArg Value.bool ?_, rfl⟩; simp [limits, *])
    case rest =>
      obtain ⟨rfl, rfl⟩ := hcut
      go_wp2_with (first | go_region | (go_at_call 57; refine (pool_calls _ _).mono ?_; rintro e w' ⟨rfl, rfl⟩) | (go_at_call 82; refine (mwithin_calls _ _ _ _).mono ?_; rintro e w' ⟨rfl, rfl⟩) | (go_at_call 83; refine (named_calls _ _).mono ?_; rintro e w1 ⟨rfl, hb1⟩; obtain ⟨hc1, hf1⟩ := bcell hb1; have hz1 : w.heap.size < w1.heap.size := (by have := hb1.size; simp at this; omega)))
      all_goals (go_ret; refine ⟨ret_bool ?_, ?_⟩)
      all_goals first | (refine Below.drew (Below.alloc (Below.alloc (((Below.refl _ _).alloc (Nat.le_refl _) _).trans (hb1.mono (by simp))) (by omega) _) (by simp; omega) _); done) | (go_tidy; simp_all [right, bare, granted]; done)
set_option maxRecDepth 100000 in
set_option maxHeartbeats 1000000 in
theorem right_df (k c l s mo ep wd v d0 d1 d2 d3 : Int) (w : World) (p0 : 0 ≤ pool k) (c0 : within c 0 63 = true) (c1 : within l 0 31 = true) (h1 : fword k = false) (h2 : fmode k = true) (h3 : fepoch k = true) (h4 : fstate k = true) (k1 : (k == 13) = true) (k2 : (k != 13) = false) :
    Calls Tryd.prog 56 #[Msg.val ⟨k, c, l, s, mo, ep, wd, v, d0, d1, d2, d3, false⟩] w fun e w' => e = .returned (.bool (right ⟨k, c, l, s, mo, ep, wd, v, d0, d1, d2, d3, false⟩)) ∧ Below w.heap.size w w' := by
  have heq := msg_eql
  unfold Msg.val
  go_enter Tryd.func56, Tryd.ntmps56
  go_upto_region 15 with (first | go_region | (go_at_call 57; refine (pool_calls _ _).mono ?_; rintro e w' ⟨rfl, rfl⟩) | (go_at_call 82; refine (mwithin_calls _ _ _ _).mono ?_; rintro e w' ⟨rfl, rfl⟩) | (go_at_call 83; refine (named_calls _ _).mono ?_; rintro e w1 ⟨rfl, hb1⟩; obtain ⟨hc1, hf1⟩ := bcell hb1; have hz1 : w.heap.size < w1.heap.size := (by have := hb1.size; simp at this; omega)))
  all_goals
    go_cut [5] (fun s5 wx => s5 = .bool (limits ⟨k, c, l, s, mo, ep, wd, v, d0, d1, d2, d3, false⟩) ∧ wx = ((w1.alloc (.cells #[.bool false, .bool true, .bool true, .bool true] 135)).alloc (.cells #[.int .i64 k, .int .i64 c, .int .i64 l, .int .i64 s, .int .i64 mo, .int .i64 ep, .int .i64 0, .int .u32 0, .int .u32 0, .int .u32 0, .int .u32 0, .int .u32 0, .bool false] 33)).drew)
    case first =>
      go_wp2_with (first | go_region | (go_at_call 57; refine (pool_calls _ _).mono ?_; rintro e w' ⟨rfl, rfl⟩) | (go_at_call 82; refine (mwithin_calls _ _ _ _).mono ?_; rintro e w' ⟨rfl, rfl⟩) | (go_at_call 83; refine (named_calls _ _).mono ?_; rintro e w1 ⟨rfl, hb1⟩; obtain ⟨hc1, hf1⟩ := bcell hb1; have hz1 : w.heap.size < w1.heap.size := (by have := hb1.size; simp at this; omega)))
      all_goals (go_meet; refine ⟨congrArg Value.bool ?_, rfl⟩; simp [limits, *])
    case rest =>
      obtain ⟨rfl, rfl⟩ := hcut
      go_wp2_with (first | go_region | (go_at_call 57; refine (pool_calls _ _).mono ?_; rintro e w' ⟨rfl, rfl⟩) | (go_at_call 82; refine (mwithin_calls _ _ _ _).mono ?_; rintro e w' ⟨rfl, rfl⟩) | (go_at_call 83; refine (named_calls _ _).mono ?_; rintro e w1 ⟨rfl, hb1⟩; obtain ⟨hc1, hf1⟩ := bcell hb1; have hz1 : w.heap.size < w1.heap.size := (by have := hb1.size; simp at this; omega)))
      all_goals (go_ret; refine ⟨ret_bool ?_, ?_⟩)
      all_goals first | (refine Below.drew (Below.alloc (Below.alloc (((Below.refl _ _).alloc (Nat.le_refl _) _).trans (hb1.mono (by simp))) (by omega) _) (by simp; omega) _); done) | (go_tidy; simp_all [right, bare, granted]; done)
set_option maxRecDepth 100000 in
set_option maxHeartbeats 1000000 in
theorem right_n (k c l s mo ep wd v d0 d1 d2 d3 : Int) (h : Bool) (w : World) (p0 : 0 ≤ pool k) (c0 : within c 0 63 = true) (c1 : within l 0 31 = true) (h1 : fword k = false) (h2 : fmode k = false) (h3 : fepoch k = false) (h4 : fstate k = false) (k1 : (k == 13) = false) (k2 : (k != 13) = true) :
    Calls Tryd.prog 56 #[Msg.val ⟨k, c, l, s, mo, ep, wd, v, d0, d1, d2, d3, h⟩] w fun e w' => e = .returned (.bool (right ⟨k, c, l, s, mo, ep, wd, v, d0, d1, d2, d3, h⟩)) ∧ Below w.heap.size w w' := by
  have heq := msg_eql
  unfold Msg.val
  go_enter Tryd.func56, Tryd.ntmps56
  go_upto_region 15 with (first | go_region | (go_at_call 57; refine (pool_calls _ _).mono ?_; rintro e w' ⟨rfl, rfl⟩) | (go_at_call 82; refine (mwithin_calls _ _ _ _).mono ?_; rintro e w' ⟨rfl, rfl⟩) | (go_at_call 83; refine (named_calls _ _).mono ?_; rintro e w1 ⟨rfl, hb1⟩; obtain ⟨hc1, hf1⟩ := bcell hb1; have hz1 : w.heap.size < w1.heap.size := (by have := hb1.size; simp at this; omega)))
  all_goals
    go_cut [5] (fun s5 wx => s5 = .bool (limits ⟨k, c, l, s, mo, ep, wd, v, d0, d1, d2, d3, h⟩) ∧ wx = (w1.alloc (.cells #[.bool false, .bool false, .bool false, .bool false] 135)).alloc (.cells #[.int .i64 k, .int .i64 c, .int .i64 l, .int .i64 0, .int .i64 0, .int .i64 0, .int .i64 0, .int .u32 0, .int .u32 0, .int .u32 0, .int .u32 0, .int .u32 0, .bool false] 33))
    case first =>
      go_wp2_with (first | go_region | (go_at_call 57; refine (pool_calls _ _).mono ?_; rintro e w' ⟨rfl, rfl⟩) | (go_at_call 82; refine (mwithin_calls _ _ _ _).mono ?_; rintro e w' ⟨rfl, rfl⟩) | (go_at_call 83; refine (named_calls _ _).mono ?_; rintro e w1 ⟨rfl, hb1⟩; obtain ⟨hc1, hf1⟩ := bcell hb1; have hz1 : w.heap.size < w1.heap.size := (by have := hb1.size; simp at this; omega)))
      all_goals (go_meet; refine ⟨congrArg Value.bool ?_, rfl⟩; simp [limits, *])
    case rest =>
      obtain ⟨rfl, rfl⟩ := hcut
      go_wp2_with (first | go_region | (go_at_call 57; refine (pool_calls _ _).mono ?_; rintro e w' ⟨rfl, rfl⟩) | (go_at_call 82; refine (mwithin_calls _ _ _ _).mono ?_; rintro e w' ⟨rfl, rfl⟩) | (go_at_call 83; refine (named_calls _ _).mono ?_; rintro e w1 ⟨rfl, hb1⟩; obtain ⟨hc1, hf1⟩ := bcell hb1; have hz1 : w.heap.size < w1.heap.size := (by have := hb1.size; simp at this; omega)))
      all_goals (go_ret; refine ⟨ret_bool ?_, ?_⟩)
      all_goals first | (refine Below.alloc (Below.alloc (((Below.refl _ _).alloc (Nat.le_refl _) _).trans (hb1.mono (by simp))) (by omega) _) (by simp; omega) _; done) | (go_tidy; simp_all [right, bare, granted]; done)

set_option maxRecDepth 100000 in
set_option maxHeartbeats 1000000 in
theorem right_early (k c l s mo ep wd v d0 d1 d2 d3 : Int) (h : Bool) (w : World) (p0 : pool k < 0 ∨ within c 0 63 = false ∨ within l 0 31 = false) :
    Calls Tryd.prog 56 #[Msg.val ⟨k, c, l, s, mo, ep, wd, v, d0, d1, d2, d3, h⟩] w fun e w' => e = .returned (.bool (right ⟨k, c, l, s, mo, ep, wd, v, d0, d1, d2, d3, h⟩)) ∧ Below w.heap.size w w' := by
  unfold Msg.val
  have p1 : 0 ≤ pool k → within c 0 63 = true → within l 0 31 = true → False := by
    intro x y z; rcases p0 with h | h | h
    · omega
    · rw [y] at h; cases h
    · rw [z] at h; cases h
  have P1 := Lib.hid p1
  have P0 := Lib.hid p0
  clear p1 p0
  by_cases q0 : pool k < 0
  case pos =>
    go_enter Tryd.func56, Tryd.ntmps56
    go_wp2_with (first | go_region | (go_at_call 57; refine (pool_calls _ _).mono ?_; rintro e w' ⟨rfl, rfl⟩) | (go_at_call 82; refine (mwithin_calls _ _ _ _).mono ?_; rintro e w' ⟨rfl, rfl⟩) | (go_at_call 83; refine (named_calls _ _).mono ?_; rintro e w1 ⟨rfl, hb1⟩; obtain ⟨hc1, hf1⟩ := bcell hb1; have hz1 : w.heap.size < w1.heap.size := (by have := hb1.size; simp at this; omega)))
    go_ret; refine ⟨ret_bool ?_, (Below.refl _ _).alloc (Nat.le_refl _) _⟩
    go_tidy; simp [right]; intro; omega
  case neg =>
    cases q1 : within c 0 63
    case false =>
      go_enter Tryd.func56, Tryd.ntmps56
      go_wp2_with (first | go_region | (go_at_call 57; refine (pool_calls _ _).mono ?_; rintro e w' ⟨rfl, rfl⟩) | (go_at_call 82; refine (mwithin_calls _ _ _ _).mono ?_; rintro e w' ⟨rfl, rfl⟩) | (go_at_call 83; refine (named_calls _ _).mono ?_; rintro e w1 ⟨rfl, hb1⟩; obtain ⟨hc1, hf1⟩ := bcell hb1; have hz1 : w.heap.size < w1.heap.size := (by have := hb1.size; simp at this; omega)))
      go_ret; refine ⟨ret_bool ?_, (Below.refl _ _).alloc (Nat.le_refl _) _⟩
      go_tidy; simp [right, q1]
    case true =>
      have q2 : within l 0 31 = false := by
        cases e : within l 0 31
        · rfl
        · exact (P1.out (by omega) q1 e).elim
      go_enter Tryd.func56, Tryd.ntmps56
      go_wp2_with (first | go_region | (go_at_call 57; refine (pool_calls _ _).mono ?_; rintro e w' ⟨rfl, rfl⟩) | (go_at_call 82; refine (mwithin_calls _ _ _ _).mono ?_; rintro e w' ⟨rfl, rfl⟩) | (go_at_call 83; refine (named_calls _ _).mono ?_; rintro e w1 ⟨rfl, hb1⟩; obtain ⟨hc1, hf1⟩ := bcell hb1; have hz1 : w.heap.size < w1.heap.size := (by have := hb1.size; simp at this; omega)))
      go_ret; refine ⟨ret_bool ?_, (Below.refl _ _).alloc (Nat.le_refl _) _⟩
      go_tidy; simp [right, q2]

theorem right_calls (m : Msg) (w : World) :
    Calls Tryd.prog 56 #[m.val] w fun e w' => e = .returned (.bool (right m)) ∧ Below w.heap.size w w' := by
  obtain ⟨k, c, l, s, mo, ep, wd, v, d0, d1, d2, d3, h⟩ := m
  by_cases p0 : 0 ≤ pool k
  case neg => exact right_early _ _ _ _ _ _ _ _ _ _ _ _ _ _ (Or.inl (by omega))
  cases c0 : within c 0 63
  case false => exact right_early _ _ _ _ _ _ _ _ _ _ _ _ _ _ (Or.inr (Or.inl c0))
  cases c1 : within l 0 31
  case false => exact right_early _ _ _ _ _ _ _ _ _ _ _ _ _ _ (Or.inr (Or.inr c1))
  by_cases k13 : k = 13
  · subst k13
    cases h
    · exact right_df _ _ _ _ _ _ _ _ _ _ _ _ _ p0 c0 c1 rfl rfl rfl rfl rfl rfl
    · exact right_dt _ _ _ _ _ _ _ _ _ _ _ _ _ p0 c0 c1 rfl rfl rfl rfl rfl rfl
  have k1 : (k == 13) = false := by simpa using k13
  have k2 : (k != 13) = true := by simpa using k13
  by_cases k11 : k = 11
  · subst k11
    cases h
    · exact right_sf _ _ _ _ _ _ _ _ _ _ _ _ _ p0 c0 c1 rfl rfl rfl rfl rfl rfl
    · exact right_st _ _ _ _ _ _ _ _ _ _ _ _ _ p0 c0 c1 rfl rfl rfl rfl rfl rfl
  have h4 : fstate k = false := by simp [fstate, k11, k13]
  by_cases k9 : k = 9
  · subst k9; exact right_e _ _ _ _ _ _ _ _ _ _ _ _ _ _ p0 c0 c1 rfl rfl rfl rfl rfl rfl
  have h3 : fepoch k = false := by simp [fepoch, k9, k13]
  by_cases k5 : k = 5
  · subst k5; exact right_m _ _ _ _ _ _ _ _ _ _ _ _ _ _ p0 c0 c1 rfl rfl rfl rfl rfl rfl
  have h2 : fmode k = false := by simp [fmode, k5, k9, k13]
  cases h1 : fword k
  · exact right_n _ _ _ _ _ _ _ _ _ _ _ _ _ _ p0 c0 c1 h1 h2 h3 h4 k1 k2
  · exact right_w _ _ _ _ _ _ _ _ _ _ _ _ _ _ p0 c0 c1 h1 h2 h3 h4 k1 k2

end Go.Proofs.YtnieambhpmnliaaDoor
