/- errors.Is at the errors of this program: a sentinel that is wrapped once or twice. -/
import Derived.Test.YtnieambhpmnliaaDoorMiss6
import Derived.LaidEql
import Derived.Stop.Asserts
import Derived.RowKitTokens
namespace Go.Proofs.YtnieambhpmnliaaDoor
set_option linter.all false
set_option linter.unusedVariables false
set_option linter.unusedSimpArgs false
open Go Go.RowKit Go.Extern.Stop Go.Stop Go.Extern

theorem isTypeOf (v : Value) (w : World) : (Extern.ReflectliteType.typeOf #[.iface 156 v]).run Tryd.prog w = .ok (.iface 139 (.agg #[.pointer (some ⟨11, 156, none⟩)])) w := by kernel_rfl
theorem callComparable (w : World) : (callFunc 114 #[.agg #[.pointer (some ⟨11, 156, none⟩)]]).run Tryd.prog w = .ok (.value (.bool true)) w := by
  rw [run_callFunc_extern Tryd.func114 (by kernel_rfl) (by kernel_rfl) (by kernel_rfl) (e := Extern.ReflectliteType.method fun t => do Extern.Rtype.noPackHeld "Comparable" t; pure (.bool (← typeInfo t).comparable)) (by kernel_rfl)]
  kernel_rfl
theorem isMethodComparable (v : Value) (w : World) : (Go.method 288 139 v "Comparable").run Tryd.prog w = .ok (114, v) w := by kernel_rfl
theorem isComp : (Tryd.prog.info? 156).map (·.comparable) = some true := by kernel_rfl
theorem isSize : (Tryd.prog.info? 176).map (·.size) = some 1 := by kernel_rfl
theorem noIsE (v : Value) (xT : TypeId) (w : World) : (Instr.typeAssert (.iface 156 v) xT 141 true).run Tryd.prog w = .ok (.tuple #[.nilIface, .bool false]) w := run_typeAssert_lacksB Tryd.underlying141 (by kernel_rfl) (by kernel_rfl) v xT w
theorem noUnwrapE (v : Value) (xT : TypeId) (w : World) : (Instr.typeAssert (.iface 156 v) xT 144 true).run Tryd.prog w = .ok (.tuple #[.nilIface, .bool false]) w := run_typeAssert_lacksB Tryd.underlying144 (by kernel_rfl) (by kernel_rfl) v xT w
theorem noUnwrapsE (v : Value) (xT : TypeId) (w : World) : (Instr.typeAssert (.iface 156 v) xT 146 true).run Tryd.prog w = .ok (.tuple #[.nilIface, .bool false]) w := run_typeAssert_lacksB Tryd.underlying146 (by kernel_rfl) (by kernel_rfl) v xT w
theorem noIsF (v : Value) (xT : TypeId) (w : World) : (Instr.typeAssert (.iface 81 v) xT 141 true).run Tryd.prog w = .ok (.tuple #[.nilIface, .bool false]) w := run_typeAssert_lacksB Tryd.underlying141 (by kernel_rfl) (by kernel_rfl) v xT w
theorem hasUnwrapF (v : Value) (xT : TypeId) (w : World) : (Instr.typeAssert (.iface 81 v) xT 144 true).run Tryd.prog w = .ok (.tuple #[.iface 81 v, .bool true]) w := run_typeAssert_hasB Tryd.underlying144 (by kernel_rfl) v xT w
theorem methodUnwrapF (v : Value) (w : World) : (Go.method 288 81 v "Unwrap").run Tryd.prog w = .ok (108, v) w := by kernel_rfl

/-- A Fault's Unwrap. -/
theorem unwrap_calls (op : Value) (at_ : Value) (e : Value) (w : World) :
    Calls Tryd.prog 108 #[.agg #[op, at_, e]] w fun r w' => r = .returned e ∧ Below w.heap.size w w' := by
  go_enter Tryd.func108, Tryd.ntmps108
  go_wp2
  go_ret
  exact ⟨rfl, (Below.refl _ _).alloc (Nat.le_refl _) _⟩

theorem is_nil (b : Addr) (w : World) :
    Calls Tryd.prog 40 #[.nilIface, sentv b] w fun e w' => e = .returned (.bool false) ∧ w = w' := by
  have hn := run_eql_iface_nil_left (P := Tryd.prog) w 156 (.pointer (some b)) Tryd.underlying24
  unfold sentv
  go_enter Tryd.func40, Tryd.ntmps40
  go_wp2
  go_ret
  exact ⟨rfl, rfl⟩

/-- '==' of two sentinels. -/
theorem sent_eql (B : Nat) (p : Nat → Addr) (i j : Nat) (w : World) (hg : Sent B w p) (hi : 1 ≤ i ∧ i ≤ 10) (hj : 1 ≤ j ∧ j ≤ 10) :
    (binOp .eql 24 (sentv (p i)) (sentv (p j))).run Tryd.prog w = .ok (.bool (i == j)) w := by
  obtain ⟨i0, hi0, hcmp⟩ := Option.map_eq_some_iff.1 isComp
  obtain ⟨j0, hj0, hjs⟩ := Option.map_eq_some_iff.1 isSize
  by_cases h : i = j
  · subst h
    rw [beq_self_eq_true]
    exact run_eql_iface_ptr_same (P := Tryd.prog) w (p i) Tryd.underlying24 Tryd.underlying156 hi0 hcmp hj0
  · rw [beq_false_of_ne h]
    obtain ⟨_, ca, ta, ha⟩ := hg.blk i hi.1 hi.2
    obtain ⟨_, cb, tb, hb⟩ := hg.blk j hj.1 hj.2
    exact run_eql_iface_ptr_other (P := Tryd.prog) w Tryd.underlying24 Tryd.underlying156 hi0 hcmp hj0 (by rw [hjs]; decide) (fun e => h (hg.inj i j hi.1 hi.2 hj.1 hj.2 e)) ha hb

theorem fault_eql (op : List UInt8) (at_ : Int) (e : Value) (b : Addr) (w : World) : (binOp .eql 24 (faultv op at_ e) (sentv b)).run Tryd.prog w = .ok (.bool false) w :=
  run_eql_iface_types (P := Tryd.prog) 81 156 _ _ Tryd.underlying24 (by decide) w

set_option maxHeartbeats 1000000 in
theorem is_one (B : Nat) (p : Nat → Addr) (op : List UInt8) (at_ : Int) (i j : Nat) (w : World) (hg : Sent B w p) (hi : 1 ≤ i ∧ i ≤ 10) (hj : 1 ≤ j ∧ j ≤ 10) :
    Calls Tryd.prog 40 #[faultv op at_ (sentv (p i)), sentv (p j)] w fun e w' => e = .returned (.bool (i == j)) ∧ Below w.heap.size w w' := by
  have h8 := @run_callFunc_extern Tryd.prog 63 _ Extern.ReflectliteType.typeOf Tryd.func63 (by kernel_rfl) (by kernel_rfl) (by kernel_rfl) (by kernel_rfl)
  have tT := isTypeOf
  have cT := callComparable
  have mR := isMethodComparable
  have HF := Lib.hid (fun w => fault_eql op at_ (sentv (p i)) (p j) w)
  have HS := Lib.hid (fun w1 (hb : Below w.heap.size w w1) => sent_eql B p i j w1 (hg.below hb) hi hj)
  clear hg
  generalize (i == j) = r at HS ⊢
  generalize p i = a at HS HF ⊢
  generalize p j = b at HS HF ⊢
  unfold faultv sentv at *
  have nE := noIsE
  have uE := noUnwrapE
  have vE := noUnwrapsE
  have nF := noIsF
  have uF := hasUnwrapF
  have mF := methodUnwrapF
  have hf := HF.out w
  go_enter Tryd.func40, Tryd.ntmps40
  go_wp2
  refine wp_loop_rounds 2 ?_
  rw [rounds_succ]
  go_wp2_with (go_at_call 108; refine (unwrap_calls _ _ _ _).mono ?_; rintro e w1 ⟨rfl, hb1⟩; have hs := HS.out _ hb1)
  rw [rounds_succ]
  cases r
  all_goals
    go_wp2
    go_ret
    exact ⟨rfl, hb1⟩

set_option maxHeartbeats 1000000 in
theorem is_two (B : Nat) (p : Nat → Addr) (op op2 : List UInt8) (at_ at2 : Int) (i j : Nat) (w : World) (hg : Sent B w p) (hi : 1 ≤ i ∧ i ≤ 10) (hj : 1 ≤ j ∧ j ≤ 10) :
    Calls Tryd.prog 40 #[faultv op at_ (faultv op2 at2 (sentv (p i))), sentv (p j)] w fun e w' => e = .returned (.bool (i == j)) ∧ Below w.heap.size w w' := by
  have h8 := @run_callFunc_extern Tryd.prog 63 _ Extern.ReflectliteType.typeOf Tryd.func63 (by kernel_rfl) (by kernel_rfl) (by kernel_rfl) (by kernel_rfl)
  have tT := isTypeOf
  have cT := callComparable
  have mR := isMethodComparable
  have HF := Lib.hid (fun w => fault_eql op at_ (faultv op2 at2 (sentv (p i))) (p j) w)
  have HF2 := Lib.hid (fun w => fault_eql op2 at2 (sentv (p i)) (p j) w)
  have HS := Lib.hid (fun w1 (hb : Below w.heap.size w w1) => sent_eql B p i j w1 (hg.below hb) hi hj)
  clear hg
  generalize (i == j) = r at HS ⊢
  generalize p i = a at HS HF HF2 ⊢
  generalize p j = b at HS HF HF2 ⊢
  unfold faultv sentv at *
  have nE := noIsE
  have uE := noUnwrapE
  have vE := noUnwrapsE
  have nF := noIsF
  have uF := hasUnwrapF
  have mF := methodUnwrapF
  have hf := HF.out w
  go_enter Tryd.func40, Tryd.ntmps40
  go_wp2
  refine wp_loop_rounds 3 ?_
  rw [rounds_succ]
  go_wp2_with (go_at_call 108; refine (unwrap_calls _ _ _ _).mono ?_; rintro e w1 ⟨rfl, hb1⟩; have hf2 := HF2.out w1)
  rw [rounds_succ]
  go_wp2_with (go_at_call 108; refine (unwrap_calls _ _ _ _).mono ?_; rintro e w2 ⟨rfl, hb2⟩; have hb12 := hb1.trans (hb2.mono hb1.size); have hs := HS.out _ hb12)
  rw [rounds_succ]
  cases r
  all_goals
    go_wp2
    go_ret
    exact ⟨rfl, hb12⟩

end Go.Proofs.YtnieambhpmnliaaDoor
