/- Rules of the walk for append, copy and clear, over blocks known whole. No program. -/
import Derived.Test.YtnieambhpmnliaaDoorBase
import Derived.Deep.AppendSrc
namespace Go.Proofs.YtnieambhpmnliaaDoor
set_option linter.all false
set_option linter.unusedVariables false
set_option linter.unusedSimpArgs false
open Go Go.RowKit

/-- One block alone has turned. -/
structure Only (g : Nat) (w w' : World) : Prop where
  os : w'.os = w.os
  tape : w'.tape = w.tape
  output : w'.output = w.output
  size : w'.heap.size = w.heap.size
  block : ∀ k, k ≠ g → w'.heap[k]? = w.heap[k]?
theorem Only.setRow (w : World) (g : Nat) (cs : Array Value) : Only g w (w.setRow g cs) := ⟨rfl, rfl, rfl, by simp, fun k hk => setRow_other w g k cs hk⟩
theorem Only.trans {g : Nat} {a b c : World} (h : Only g a b) (k : Only g b c) : Only g a c :=
  ⟨k.os.trans h.os, k.tape.trans h.tape, k.output.trans h.output, k.size.trans h.size, fun i hi => (k.block i hi).trans (h.block i hi)⟩
theorem Only.fr {g B : Nat} {S : List TypeId} {w w' : World} {T : TypeId} {c : List Value} (h : Only g w w') (hg : Blk w g T c) (hT : T ∈ S) (hB : B ≤ g) : Fr B S w w' :=
  ⟨h.os, h.tape, h.output, Nat.le_of_eq h.size.symm, fun k hk => h.block k (by omega), fun k o hk ho => by
    by_cases e : k = g
    · subst e; rw [show w.heap[k]? = _ from hg] at hk; cases hk; exact absurd hT (ho T rfl)
    · rw [h.block k e]; exact hk⟩
theorem Only.blk {g : Nat} {w w' : World} (h : Only g w w') {b : Nat} {T : TypeId} {c : List Value} (hb : Blk w b T c) (hne : b ≠ g) : Blk w' b T c := by
  unfold Blk; rw [h.block b hne]; exact hb
theorem Blk.setRow {w : World} {g : Nat} {T : TypeId} {c c' : List Value} (h : Blk w g T c) : Blk (w.setRow g c'.toArray) g T c' := setRow_heap w g _ _ T (0, 0) h
theorem Blk.setRow' {w : World} {g : Nat} {T : TypeId} {c c' c'' : List Value} (h : Blk w g T c) (e : c'' = c') : Blk (w.setRow g c'.toArray) g T c'' := e ▸ h.setRow
theorem Only.below {g : Nat} {w w' : World} (h : Only g w w') : Below g w w' := ⟨h.os, h.tape, h.output, Nat.le_of_eq h.size.symm, fun k hk => h.block k (by omega)⟩

/-- Of the blocks that were there only such of the list have turned. -/
structure FrL (L : List Nat) (w w' : World) : Prop where
  os : w'.os = w.os
  tape : w'.tape = w.tape
  output : w'.output = w.output
  size : w.heap.size ≤ w'.heap.size
  block : ∀ k, k < w.heap.size → k ∉ L → w'.heap[k]? = w.heap[k]?
/-- The second list has the first one's blocks, and new ones. -/
def Grow (w : World) (L L' : List Nat) : Prop := (∀ x ∈ L, x ∈ L') ∧ ∀ x ∈ L', x ∈ L ∨ w.heap.size ≤ x
theorem Grow.refl (w : World) (L : List Nat) : Grow w L L := ⟨fun _ h => h, fun _ h => Or.inl h⟩
theorem FrL.refl (L : List Nat) (w : World) : FrL L w w := ⟨rfl, rfl, rfl, Nat.le_refl _, fun _ _ _ => rfl⟩
theorem FrL.trans' {L L' : List Nat} {a b c : World} (h : FrL L a b) (k : FrL L' b c) (hL : ∀ x ∈ L', x ∈ L ∨ a.heap.size ≤ x) : FrL L a c := by
  refine ⟨k.os.trans h.os, k.tape.trans h.tape, k.output.trans h.output, Nat.le_trans h.size k.size, fun i hi hn => ?_⟩
  have hn' : i ∉ L' := fun hm => (hL i hm).elim hn (fun h1 => by omega)
  exact (k.block i (Nat.lt_of_lt_of_le hi h.size) hn').trans (h.block i hi hn)
theorem FrL.trans {L : List Nat} {a b c : World} (h : FrL L a b) (k : FrL L b c) : FrL L a c := h.trans' k (fun _ hx => Or.inl hx)
theorem Grow.trans {w w' : World} {L L' L'' : List Nat} (h : Grow w L L') (k : Grow w' L' L'') (hs : w.heap.size ≤ w'.heap.size) : Grow w L L'' :=
  ⟨fun x hx => k.1 x (h.1 x hx), fun x hx => by
    rcases k.2 x hx with h1 | h1
    · exact h.2 x h1
    · exact Or.inr (by omega)⟩
theorem FrL.below {w w' : World} (L : List Nat) (h : Below w.heap.size w w') : FrL L w w' := ⟨h.os, h.tape, h.output, h.size, fun k hk _ => h.block k hk⟩
theorem FrL.drew {L : List Nat} {a w : World} (h : FrL L a w) : FrL L a w.drew := ⟨h.os, h.tape, h.output, h.size, h.block⟩
theorem Only.frl {g : Nat} {w w' : World} (h : Only g w w') (L : List Nat) (hg : g ∈ L) : FrL L w w' := ⟨h.os, h.tape, h.output, Nat.le_of_eq h.size.symm, fun k _ hk => h.block k (fun e => hk (e ▸ hg))⟩
theorem Blk.frl {L : List Nat} {w w' : World} {b : Nat} {T : TypeId} {c : List Value} (h : Blk w b T c) (hf : FrL L w w') (hb : b ∉ L) : Blk w' b T c := by
  unfold Blk; rw [hf.block b h.lt hb]; exact h

section
variable {P : Program} {ops : Array Oper} {rest : List Oper} {o : Oper} {a : Act} {w : World} {Q : Exit → Act → World → Prop}

theorem wl_value {v : Value} {w' : World} (hg : o.guard = none) (h : (execOp a.eval o).run P w = .ok (.value v) w') (hk : wpList P ops Q rest (a.put o.dst v) w') : wpList P ops Q (o :: rest) a w :=
  wpList_plain hg fun K hK => by
    unfold Oper.wp; rw [h]; exact hK _ _ hk

/-- append into the room behind a slice that begins at a block's head. -/
theorem wl_append_room (hg : o.guard = none) (x y : Operand) (t ty e : TypeId) (ho : o.op = .call { callee := .builtin .append, args := #[x, y], argTypes := #[t, t] })
    (ht : P.underlying t = some (.slice e)) (size : Nat) (hs : (P.info? e).map (·.size) = some size)
    (g n cap : Nat) (hx : a.eval x = .slice (some ⟨g, 0, none⟩) n cap) (ya : Addr) (m yc : Nat) (hy : a.eval y = .slice (some ya) m yc)
    (cur news : List Value) (hb : Blk w g e cur) (hl : news.length = m * size) (hn : ∀ j u, news[j]? = some u → w.cell? (ya.add j) = some u) (h1 : ∀ u ∈ news, u.oneCell' = true)
    (hroom : n + m ≤ cap) (hfit : n * size + news.length ≤ cur.length)
    (hk : ∀ w1, Only g w w1 → Blk w1 g e (cur.take (n * size) ++ news ++ cur.drop (n * size + news.length)) → wpList P ops Q rest (a.put o.dst (.slice (some ⟨g, 0, none⟩) (n + m) cap)) w1) :
    wpList P ops Q (o :: rest) a w := by
  obtain ⟨i, hi, hi1⟩ := Option.map_eq_some_iff.1 hs
  have hr := run_append_room (P := P) w t o.type e i ht hi g n cap cur.toArray hb ya m yc news (by rw [hi1]; exact hl) hn h1 hroom (by rw [hi1]; simpa using hfit)
  rw [hi1] at hr
  obtain ⟨dst, op, type, pos, after, guard⟩ := o
  subst ho
  refine wl_value hg (v := .slice (some ⟨g, 0, none⟩) (n + m) cap) (w' := w.setRow g (cur.take (n * size) ++ news ++ cur.drop (n * size + news.length)).toArray) ?_ (hk _ (Only.setRow _ _ _) hb.setRow)
  rw [BigFrame.execOp_builtin, BigFrame.builtin_append]
  simp only [Sem.run_bind]
  simp only [show (#[x, y].map a.eval) = #[a.eval x, a.eval y] from (by simp), hx, hy]
  rw [hr]
  simp

/-- append that makes a new block. -/
theorem wl_append_grow (hg : o.guard = none) (x y : Operand) (t tx e : TypeId) (ho : o.op = .call { callee := .builtin .append, args := #[x, y], argTypes := #[t, tx] })
    (ht : P.underlying t = some (.slice e)) (size bytes : Nat) (z : Value) (hs : (P.info? e).map (fun i => (i.zero, i.size, i.bytes)) = some (some z, size, bytes)) (hz : z.cells.size = size)
    (base : Option Addr) (n cap : Nat) (hx : a.eval x = .slice base n cap) (yv : Value) (m : Nat) (hy : a.eval y = yv)
    (olds news : List Value) (hold : (Builtin.firstCells size n (.slice base n cap)).run P w.drew = .ok olds.toArray w.drew) (hsrc : Src P size tx yv m news w)
    (hgrow : cap < n + m) (h63 : n + m ≤ 1000000) (hcap : cap ≤ 1000000) (hby : bytes ≤ 1000)
    (hk : ∀ w1 cap' r, Below w.heap.size w w1 → w1.heap.size = w.heap.size + 1 → n + m ≤ cap' → cap' ≤ maxLen → r.length = (cap' - (n + m)) * size → Blk w1 w.heap.size e (olds ++ news ++ r) →
      wpList P ops Q rest (a.put o.dst (.slice (some ⟨w.heap.size, 0, none⟩) (n + m) cap')) w1) :
    wpList P ops Q (o :: rest) a w := by
  obtain ⟨i, hi, hz0, hz1, hz2⟩ := info_parts hs
  have hnx : Builtin.nextslicecap (n + m) cap * bytes ≤ 281474976710656 := by
    have h1 : Builtin.nextslicecap (n + m) cap ≤ 8000000 := by
      unfold Builtin.nextslicecap
      split
      · omega
      · split
        · omega
        · rw [growBy_four]; repeat' split
          all_goals omega
    calc Builtin.nextslicecap (n + m) cap * bytes ≤ 8000000 * 1000 := Nat.mul_le_mul h1 hby
      _ ≤ _ := by decide
  have hr := run_append_grow_src (P := P) w t tx o.type e i z ht hi hz0 base n cap olds (by rw [hz1]; exact hold) yv m news (by rw [hz1]; exact hsrc) hgrow (by omega) (by rw [hz2]; exact hnx)
  obtain ⟨dst, op, type, pos, after, guard⟩ := o
  subst ho
  refine wl_value hg (v := .slice (some ⟨w.heap.size, 0, none⟩) (n + m) (grownCap w (n + m) cap e)) ?_ (hk (w.drew.alloc (.cells ((olds ++ news).toArray ++ Builtin.zeroCells z.cells (grownCap w (n + m) cap e - (n + m))) e)) (grownCap w (n + m) cap e) (Builtin.zeroCells z.cells (grownCap w (n + m) cap e - (n + m))).toList ?_ ?_ (grownCap_ge w _ _ _) (grownCap_le_maxLen w _ _ _ (by unfold maxLen; omega)) (by simp [size_zeroCells, hz]) ?_)
  · rw [BigFrame.execOp_builtin, BigFrame.builtin_append]
    simp only [Sem.run_bind]
    simp only [show (#[x, y].map a.eval) = #[a.eval x, a.eval y] from (by simp), hx, hy]
    rw [hr]
    simp
  · exact ((Below.refl _ _).drew).alloc (Nat.le_refl _) _
  · simp
  · unfold Blk
    have := heap_alloc_new w.drew (.cells ((olds ++ news).toArray ++ Builtin.zeroCells z.cells (grownCap w (n + m) cap e - (n + m))) e)
    rw [World.size_drew] at this
    rw [this]
    congr 2
    apply Array.ext'
    simp

/-- copy into a block. -/
theorem wl_copy (hg : o.guard = none) (x y : Operand) (t ty e : TypeId) (ho : o.op = .call { callee := .builtin .copy, args := #[x, y], argTypes := #[t, ty] })
    (ht : P.underlying t = some (.slice e)) (size : Nat) (hs : (P.info? e).map (·.size) = some size)
    (g off n cap : Nat) (hx : a.eval x = .slice (some ⟨g, off, none⟩) n cap) (ya : Addr) (m yc : Nat) (hy : a.eval y = .slice (some ya) m yc)
    (c : Nat) (hmin : min m n = c) (cur news : List Value) (hb : Blk w g e cur) (hl : news.length = c * size) (hn : ∀ j u, news[j]? = some u → w.cell? (ya.add j) = some u) (h1 : ∀ u ∈ news, u.oneCell' = true)
    (hfit : off + news.length ≤ cur.length)
    (hk : ∀ w1, Only g w w1 → Blk w1 g e (cur.take off ++ news ++ cur.drop (off + news.length)) → wpList P ops Q rest (a.put o.dst (.int .i64 c)) w1) :
    wpList P ops Q (o :: rest) a w := by
  have hmin' : Nat.min m n = c := hmin
  subst hmin'
  obtain ⟨i, hi, hi1⟩ := Option.map_eq_some_iff.1 hs
  have hf := run_firstCells_some (P := P) w size (Nat.min m n) ya m yc news hl hn
  have hst := run_storeCells_at P g off e news 0 cur.toArray w hb (by simpa using hfit) h1
  simp only [Nat.add_zero] at hst
  obtain ⟨dst, op, type, pos, after, guard⟩ := o
  subst ho
  refine wl_value hg (v := .int .i64 (Nat.min m n)) (w' := w.setRow g (cur.take off ++ news ++ cur.drop (off + news.length)).toArray) ?_ (hk _ (Only.setRow _ _ _) hb.setRow)
  rw [BigFrame.execOp_builtin, BigFrame.builtin_copy]
  simp only [Sem.run_bind]
  simp only [show (#[x, y].map a.eval) = #[a.eval x, a.eval y] from (by simp), hx, hy]
  have hc : (Builtin.copy_ #[t, ty] type #[.slice (some ⟨g, off, none⟩) n cap, .slice (some ya) m yc]).run P w = .ok (.int .i64 (Nat.min m n)) (w.setRow g (cur.take off ++ news ++ cur.drop (off + news.length)).toArray) := by
    simp [Builtin.copy_, run_underlying ht, Builtin.lenOf, sizeOf, typeInfo, hi, hi1, hf, hst, goInt]
  rw [hc]
  simp

/-- append(s, make([]T, l)...) that makes a new block. -/
theorem wl_append_zeros (hg : o.guard = none) (x y : Operand) (t tx e : TypeId) (ho : o.op = .call { callee := .builtin .append, args := #[x, y], argTypes := #[t, tx] })
    (ht : P.underlying t = some (.slice e)) (htx : P.underlying tx = some (.int .i64)) (size bytes : Nat) (z : Value) (hs : (P.info? e).map (fun i => (i.zero, i.size, i.bytes)) = some (some z, size, bytes)) (hz : z.cells.size = size) (hsz : 0 < size)
    (base : Option Addr) (n cap : Nat) (hx : a.eval x = .slice base n cap) (m : Nat) (hy : a.eval y = .int .i64 m)
    (olds : List Value) (hold : (Builtin.firstCells size n (.slice base n cap)).run P w.drew = .ok olds.toArray w.drew)
    (hgrow : cap < n + m) (hm : 0 < m) (h63 : n + m ≤ 1000000) (hcap : cap ≤ 1000000) (hby : bytes ≤ 1000)
    (hk : ∀ w1 cap' r, Below w.heap.size w w1 → w1.heap.size = w.heap.size + 1 → n + m ≤ cap' → cap' ≤ maxLen → r.length = (cap' - n) * size → Blk w1 w.heap.size e (olds ++ r) →
      wpList P ops Q rest (a.put o.dst (.slice (some ⟨w.heap.size, 0, none⟩) (n + m) cap')) w1) :
    wpList P ops Q (o :: rest) a w := by
  obtain ⟨i, hi, hz0, hz1, hz2⟩ := info_parts hs
  have hnx : ¬ (281474976710656 < Builtin.nextslicecap (n + m) cap * bytes) := by
    have h1 : Builtin.nextslicecap (n + m) cap ≤ 8000000 := by
      unfold Builtin.nextslicecap
      split
      · omega
      · split
        · omega
        · rw [growBy_four]; repeat' split
          all_goals omega
    have : Builtin.nextslicecap (n + m) cap * bytes ≤ 281474976710656 := by
      calc Builtin.nextslicecap (n + m) cap * bytes ≤ 8000000 * 1000 := Nat.mul_le_mul h1 hby
        _ ≤ _ := by decide
    omega
  have hmul : m * bytes ≤ 1000000000 := by
    calc m * bytes ≤ 1000000 * 1000 := Nat.mul_le_mul (by omega) hby
      _ = _ := by decide
  obtain ⟨dst, op, type, pos, after, guard⟩ := o
  subst ho
  have hr : (Builtin.append_ #[t, tx] type #[.slice base n cap, .int .i64 m]).run P w = .ok (.slice (some ⟨w.heap.size, 0, none⟩) (n + m) (grownCap w (n + m) cap e))
      (w.drew.alloc (.cells (olds.toArray ++ Builtin.zeroCells z.cells m ++ Builtin.zeroCells z.cells (grownCap w (n + m) cap e - (n + m))) e)) := by
    have h0 : ¬ (n + m ≤ cap) := by omega
    have h1 : ¬ ((m : Int) < 0) := by omega
    have h2 : IntKind.i64.wrap (m : Int) = (m : Int) := IntWalk.i64_in _ (by omega)
    have h3 : ¬ ((9223372036854775807 : Int) < (n : Int) + (m : Int)) := by omega
    have h4 : ¬ ((281474976710656 : Int) < (m : Int) * (bytes : Int)) := by
      have hh : ((m * bytes : Nat) : Int) = (m : Int) * (bytes : Int) := by simp
      omega
    have h5 : ¬ (m * size = 0) := by
      have := Nat.mul_pos hm hsz; omega
    have h6 : ¬ (m = 0 ∨ size = 0) := by omega
    simp [Builtin.append_, run_underlying ht, run_underlying htx, sizeOf, typeInfo, zeroValue, hi, hz0, hz1, hz2, h0, h1, h2, h3, h4, h5, h6, hnx, asInt, asIntOf, Question.forced, hold, newRow, grownCap]
  refine wl_value hg (v := .slice (some ⟨w.heap.size, 0, none⟩) (n + m) (grownCap w (n + m) cap e)) ?_ (hk (w.drew.alloc (.cells (olds.toArray ++ Builtin.zeroCells z.cells m ++ Builtin.zeroCells z.cells (grownCap w (n + m) cap e - (n + m))) e)) (grownCap w (n + m) cap e) ((Builtin.zeroCells z.cells m).toList ++ (Builtin.zeroCells z.cells (grownCap w (n + m) cap e - (n + m))).toList) ?_ ?_ (grownCap_ge w _ _ _) (grownCap_le_maxLen w _ _ _ (by unfold maxLen; omega)) ?_ ?_)
  · rw [BigFrame.execOp_builtin, BigFrame.builtin_append]
    simp only [Sem.run_bind]
    simp only [show (#[x, y].map a.eval) = #[a.eval x, a.eval y] from (by simp), hx, hy]
    rw [hr]
    simp
  · exact ((Below.refl _ _).drew).alloc (Nat.le_refl _) _
  · simp
  · have := grownCap_ge w (n + m) cap e
    simp [size_zeroCells, hz, ← Nat.add_mul]; congr 1; omega
  · unfold Blk
    have := heap_alloc_new w.drew (.cells (olds.toArray ++ Builtin.zeroCells z.cells m ++ Builtin.zeroCells z.cells (grownCap w (n + m) cap e - (n + m))) e)
    rw [World.size_drew] at this
    rw [this]
    congr 2
    apply Array.ext'
    simp

theorem step_run {K : Act → World → Prop} {E : Prop} {v : Value} {w' : World} (hg : o.guard = none) (h : (execOp a.eval o).run P w = .ok (.value v) w') (hK : K (a.put o.dst v) w') :
    if Region.wanted o (yielded ops a.tmps) = true then Oper.wp P o a w K Q else E := by
  rw [if_pos (by simp [Region.wanted, hg])]
  unfold Oper.wp; rw [h]; exact hK

/-- copy into a block, as a step of a region that draws its order. -/
theorem step_copy {K : Act → World → Prop} {E : Prop} (hg : o.guard = none) (x y : Operand) (t ty e : TypeId) (ho : o.op = .call { callee := .builtin .copy, args := #[x, y], argTypes := #[t, ty] })
    (ht : P.underlying t = some (.slice e)) (size : Nat) (hs : (P.info? e).map (·.size) = some size)
    (g off n cap : Nat) (hx : a.eval x = .slice (some ⟨g, off, none⟩) n cap) (ya : Addr) (m yc : Nat) (hy : a.eval y = .slice (some ya) m yc)
    (c : Nat) (hmin : min m n = c) (cur news : List Value) (hb : Blk w g e cur) (hl : news.length = c * size) (hn : ∀ j u, news[j]? = some u → w.cell? (ya.add j) = some u) (h1 : ∀ u ∈ news, u.oneCell' = true)
    (hfit : off + news.length ≤ cur.length)
    (hK : K (a.put o.dst (.int .i64 c)) (w.setRow g (cur.take off ++ news ++ cur.drop (off + news.length)).toArray)) :
    if Region.wanted o (yielded ops a.tmps) = true then Oper.wp P o a w K Q else E := by
  have hmin' : Nat.min m n = c := hmin
  subst hmin'
  obtain ⟨i, hi, hi1⟩ := Option.map_eq_some_iff.1 hs
  have hf := run_firstCells_some (P := P) w size (Nat.min m n) ya m yc news hl hn
  have hst := run_storeCells_at P g off e news 0 cur.toArray w hb (by simpa using hfit) h1
  simp only [Nat.add_zero] at hst
  obtain ⟨dst, op, type, pos, after, guard⟩ := o
  subst ho
  refine step_run hg ?_ hK
  rw [BigFrame.execOp_builtin, BigFrame.builtin_copy]
  simp only [Sem.run_bind]
  simp only [show (#[x, y].map a.eval) = #[a.eval x, a.eval y] from (by simp), hx, hy]
  have hc : (Builtin.copy_ #[t, ty] type #[.slice (some ⟨g, off, none⟩) n cap, .slice (some ya) m yc]).run P w = .ok (.int .i64 (Nat.min m n)) (w.setRow g (cur.take off ++ news ++ cur.drop (off + news.length)).toArray) := by
    simp [Builtin.copy_, run_underlying ht, Builtin.lenOf, sizeOf, typeInfo, hi, hi1, hf, hst, goInt]
  rw [hc]
  simp

/-- append into the room behind a slice at a block's head, as a step of a region that draws its order. -/
theorem step_append {K : Act → World → Prop} {E : Prop} (hg : o.guard = none) (x y : Operand) (t e : TypeId) (ho : o.op = .call { callee := .builtin .append, args := #[x, y], argTypes := #[t, t] })
    (ht : P.underlying t = some (.slice e)) (size : Nat) (hs : (P.info? e).map (·.size) = some size)
    (g n cap : Nat) (hx : a.eval x = .slice (some ⟨g, 0, none⟩) n cap) (ya : Addr) (m yc : Nat) (hy : a.eval y = .slice (some ya) m yc)
    (cur news : List Value) (hb : Blk w g e cur) (hl : news.length = m * size) (hn : ∀ j u, news[j]? = some u → w.cell? (ya.add j) = some u) (h1 : ∀ u ∈ news, u.oneCell' = true)
    (hroom : n + m ≤ cap) (hfit : n * size + news.length ≤ cur.length)
    (hK : K (a.put o.dst (.slice (some ⟨g, 0, none⟩) (n + m) cap)) (w.setRow g (cur.take (n * size) ++ news ++ cur.drop (n * size + news.length)).toArray)) :
    if Region.wanted o (yielded ops a.tmps) = true then Oper.wp P o a w K Q else E := by
  obtain ⟨i, hi, hi1⟩ := Option.map_eq_some_iff.1 hs
  have hr := run_append_room (P := P) w t o.type e i ht hi g n cap cur.toArray hb ya m yc news (by rw [hi1]; exact hl) hn h1 hroom (by rw [hi1]; simpa using hfit)
  rw [hi1] at hr
  obtain ⟨dst, op, type, pos, after, guard⟩ := o
  subst ho
  refine step_run hg ?_ hK
  rw [BigFrame.execOp_builtin, BigFrame.builtin_append]
  simp only [Sem.run_bind]
  simp only [show (#[x, y].map a.eval) = #[a.eval x, a.eval y] from (by simp), hx, hy]
  rw [hr]
  simp

/-- clear of a part of a block. -/
theorem wl_clear (hg : o.guard = none) (x : Operand) (t e : TypeId) (ho : o.op = .call { callee := .builtin .clear, args := #[x], argTypes := #[t] })
    (ht : P.underlying t = some (.slice e)) (size bytes : Nat) (z : Value) (hs : (P.info? e).map (fun i => (i.zero, i.size, i.bytes)) = some (some z, size, bytes)) (hz : z.cells.size = size) (hone : ∀ u ∈ z.cells.toList, u.oneCell' = true)
    (g off n cap : Nat) (hx : a.eval x = .slice (some ⟨g, off, none⟩) (n + 1) cap) (cur : List Value) (hb : Blk w g e cur) (hfit : off + (n + 1) * size ≤ cur.length)
    (hk : ∀ w1, Only g w w1 → ∀ zs : List Value, zs.length = (n + 1) * size → Blk w1 g e (cur.take off ++ zs ++ cur.drop (off + (n + 1) * size)) → wpList P ops Q rest (a.put o.dst (.tuple #[])) w1) :
    wpList P ops Q (o :: rest) a w := by
  obtain ⟨i, hi, hz0, hz1, hz2⟩ := info_parts hs
  have hlen : (Builtin.zeroCells z.cells (n + 1)).toList.length = (n + 1) * size := by simp [size_zeroCells, hz]
  have h1 : ∀ u ∈ (Builtin.zeroCells z.cells (n + 1)).toList, u.oneCell' = true := by
    intro u hu
    simp [Builtin.zeroCells] at hu
    obtain ⟨k, hk', rfl⟩ := hu
    have hs0 : 0 < z.cells.size := by
      rcases Nat.eq_zero_or_pos z.cells.size with h | h
      · simp [h] at hk'
      · exact h
    have hm : k % z.cells.size < z.cells.size := Nat.mod_lt _ hs0
    rw [getElem!_pos z.cells _ hm]
    exact hone _ (by simp)
  have hst := run_storeCells_at P g off e (Builtin.zeroCells z.cells (n + 1)).toList 0 cur.toArray w hb (by rw [hlen]; simpa using hfit) h1
  simp only [Nat.add_zero] at hst
  obtain ⟨dst, op, type, pos, after, guard⟩ := o
  subst ho
  refine wl_value hg (v := .tuple #[]) (w' := w.setRow g (cur.take off ++ (Builtin.zeroCells z.cells (n + 1)).toList ++ cur.drop (off + (n + 1) * size)).toArray) ?_ (hk _ (Only.setRow _ _ _) _ hlen hb.setRow)
  rw [BigFrame.execOp_builtin, BigFrame.builtin_clear]
  simp only [Sem.run_bind]
  simp only [show (#[x].map a.eval) = #[a.eval x] from (by simp), hx]
  have hc : (Builtin.clear_ #[t] type #[.slice (some ⟨g, off, none⟩) (n + 1) cap]).run P w = .ok (.tuple #[]) (w.setRow g (cur.take off ++ (Builtin.zeroCells z.cells (n + 1)).toList ++ cur.drop (off + (n + 1) * size)).toArray) := by
    rw [hlen] at hst
    simp [Builtin.clear_, run_underlying ht, zeroValue, typeInfo, hi, hz0, hst]
  rw [hc]
  simp

end
end Go.Proofs.YtnieambhpmnliaaDoor
