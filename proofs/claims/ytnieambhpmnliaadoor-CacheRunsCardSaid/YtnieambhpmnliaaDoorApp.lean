/- append of one element to a list that grows: no program. -/
import Derived.Test.YtnieambhpmnliaaDoorRules
namespace Go.Proofs.YtnieambhpmnliaaDoor
set_option linter.all false
set_option linter.unusedVariables false
set_option linter.unusedSimpArgs false
open Go Go.RowKit

/-- A list of n elements behind a slice, cell by cell: nil, or at a block's head with room behind it. -/
def SlC (w : World) (T : TypeId) (size : Nat) (lv : Option Addr) (n : Nat) (cells : List Value) (cap : Nat) : Prop :=
  cells.length = n * size ∧ ((lv = none ∧ n = 0 ∧ cap = 0) ∨ ∃ lb r, lv = some ⟨lb, 0, none⟩ ∧ Blk w lb T (cells ++ r) ∧ n ≤ cap ∧ cap ≤ maxLen ∧ n * size + r.length = cap * size)
theorem SlC.below {w w' : World} {T size lv n cells cap} (h : SlC w T size lv n cells cap) (hb : Below w.heap.size w w') : SlC w' T size lv n cells cap := by
  obtain ⟨hl, h⟩ := h
  rcases h with h | ⟨lb, r, h1, h2, h3⟩
  · exact ⟨hl, Or.inl h⟩
  · exact ⟨hl, Or.inr ⟨lb, r, h1, h2.below hb h2.lt, h3⟩⟩
theorem SlC.fr {B S} {w w' : World} {T size lv n cells cap} (h : SlC w T size lv n cells cap) (hb : Fr B S w w') (hT : T ∉ S) : SlC w' T size lv n cells cap := by
  obtain ⟨hl, h⟩ := h
  rcases h with h | ⟨lb, r, h1, h2, h3⟩
  · exact ⟨hl, Or.inl h⟩
  · exact ⟨hl, Or.inr ⟨lb, r, h1, h2.fr hb hT, h3⟩⟩
theorem SlC.nil (w : World) (T : TypeId) (size : Nat) : SlC w T size none 0 [] 0 := ⟨by simp, Or.inl ⟨rfl, rfl, rfl⟩⟩

theorem blk_cells {w : World} {lb : Nat} {T : TypeId} {c : List Value} (hb : Blk w lb T c) (o : Nat) (l : List Value) (h : l <+: c.drop o) : ∀ j u, l[j]? = some u → w.cell? ((⟨lb, o, none⟩ : Addr).add j) = some u := by
  intro j u hu
  obtain ⟨r, hr⟩ := h
  rw [Addr.add_lit, hb.cell]
  have h2 : (c.drop o)[j]? = some u := by
    rw [← hr, List.getElem?_append_left (by rw [List.getElem?_eq_some_iff] at hu; exact hu.1)]; exact hu
  rwa [List.getElem?_drop] at h2

theorem blk_new (w : World) (c : List Value) (T : TypeId) (b : Nat) (e : b = w.heap.size) : Blk (w.alloc (.cells c.toArray T)) b T c := by subst e; exact heap_alloc_new w _

section
variable {P : Program} {ops : Array Oper} {rest : List Oper} {o : Oper} {a : Act} {w : World} {Q : Exit → Act → World → Prop}
theorem wl_append_one (hg : o.guard = none) (x y : Operand) (t T : TypeId) (ho : o.op = .call { callee := .builtin .append, args := #[x, y], argTypes := #[t, t] })
    (ht : P.underlying t = some (.slice T)) (size bytes : Nat) (z : Value) (hs : (P.info? T).map (fun i => (i.zero, i.size, i.bytes)) = some (some z, size, bytes)) (hz : z.cells.size = size) (hsz : 0 < size) (hby : bytes ≤ 1000)
    (G : Nat) (lv : Option Addr) (n cap : Nat) (hx : a.eval x = .slice lv n cap) (vb vc : Nat) (hy : a.eval y = .slice (some ⟨vb, 0, none⟩) 1 vc)
    (cells xs : List Value) (hl : SlC w T size lv n cells cap) (hv : Blk w vb T xs) (hxs : xs.length = size) (h1 : ∀ u ∈ xs, u.oneCell' = true) (hn : n + 1 ≤ 1000000) (hG : G ≤ w.heap.size) (hlG : ∀ q, lv = some q → G ≤ q.block)
    (hk : ∀ w1 lv' cap', SlC w1 T size lv' (n + 1) (cells ++ xs) cap' → (∀ q, lv' = some q → G ≤ q.block) → Below G w w1 → wpList P ops Q rest (a.put o.dst (.slice lv' (n + 1) cap')) w1) :
    wpList P ops Q (o :: rest) a w := by
  obtain ⟨hcl, hl⟩ := hl
  have hs1 : (P.info? T).map (·.size) = some size := by
    obtain ⟨i, hi, _, hz1, _⟩ := info_parts hs
    simp [hi, hz1]
  have hlen' : (cells ++ xs).length = (n + 1) * size := by rw [List.length_append, hcl, hxs, Nat.succ_mul]
  have hxc : ∀ w1, Blk w1 vb T xs → ∀ j u, xs[j]? = some u → w1.cell? ((⟨vb, 0, none⟩ : Addr).add j) = some u := fun w1 hb => blk_cells hb 0 xs ⟨[], by simp⟩
  by_cases hroom : n + 1 ≤ cap
  · rcases hl with ⟨rfl, rfl, rfl⟩ | ⟨lb, r, rfl, h2, h3, h4, h5⟩
    · omega
    · have hrl : size ≤ r.length := by
        have : (n + 1) * size ≤ cap * size := Nat.mul_le_mul_right _ hroom
        rw [Nat.succ_mul] at this; omega
      refine wl_append_room hg x y t t T ho ht size hs1 lb n cap hx ⟨vb, 0, none⟩ 1 vc hy _ xs h2 (by rw [hxs, Nat.one_mul]) (hxc w hv) h1 hroom (by rw [hxs, List.length_append, hcl]; omega) ?_
      intro w1 ho1 hb1
      refine hk w1 _ cap ⟨hlen', Or.inr ⟨lb, r.drop size, rfl, ?_, hroom, h4, ?_⟩⟩ hlG (ho1.below.mono (hlG _ rfl))
      · have e1 : (cells ++ r).take (n * size) = cells := by rw [← hcl]; simp
        have e2 : (cells ++ r).drop (n * size + xs.length) = r.drop size := by rw [← hcl, hxs, ← List.drop_drop]; simp
        rw [e1, e2] at hb1; exact hb1
      · rw [List.length_drop, Nat.succ_mul]; omega
  · have hold : (Builtin.firstCells size n (.slice lv n cap)).run P w.drew = .ok cells.toArray w.drew := by
      rcases hl with ⟨rfl, rfl, rfl⟩ | ⟨lb, r, rfl, h2, h3, h4, h5⟩
      · have : cells = [] := List.eq_nil_of_length_eq_zero (by rw [hcl]; simp)
        subst this; simp [Builtin.firstCells]
      · exact run_firstCells_some _ size n ⟨lb, 0, none⟩ n cap _ hcl (blk_cells (w := w.drew) (T := T) (c := cells ++ r) h2 0 _ ⟨r, by simp⟩)
    refine wl_append_grow hg x y t t T ho ht size bytes z hs hz lv n cap hx (.slice (some ⟨vb, 0, none⟩) 1 vc) 1 hy cells xs hold (Src.ofSlice _ ht _ _ _ _ (by rw [hxs, Nat.one_mul]) (hxc w hv) h1) (by omega) hn (by omega) hby ?_
    intro w1 cap' r' hb1 hs1' hge hmax hr' hblk
    refine hk w1 _ cap' ⟨hlen', Or.inr ⟨w.heap.size, r', rfl, hblk, hge, hmax, ?_⟩⟩ (fun q hq => by cases hq; exact hG) (hb1.mono hG)
    rw [hr', ← Nat.add_mul]; congr 1; omega
end
end Go.Proofs.YtnieambhpmnliaaDoor
