import Derived.Test.YtldgccbiikahgabGreatEvDraw
namespace Go.Ev
open Go Go.RowKit

theorem splice_at (cs : List AV) (o : Nat) (xs : List AV) (h : o + xs.length ≤ cs.length) (i : Nat) : (splice cs o xs)[i]? = if o ≤ i ∧ i < o + xs.length then xs[i - o]? else cs[i]? := by
  unfold splice
  rw [List.append_assoc]
  by_cases h1 : i < o
  · rw [List.getElem?_append_left (by simp; omega), List.getElem?_take, if_pos h1, if_neg (by omega)]
  · rw [List.getElem?_append_right (by simp; omega)]
    have e : (List.take o cs).length = o := by simp; omega
    rw [e]
    by_cases h2 : i < o + xs.length
    · rw [List.getElem?_append_left (by omega), if_pos (by omega)]
    · rw [List.getElem?_append_right (by omega), List.getElem?_drop, if_neg (by omega)]
      congr 1; omega
theorem splice_len (cs : List AV) (o : Nat) (xs : List AV) (h : o + xs.length ≤ cs.length) : (splice cs o xs).length = cs.length := by simp [splice]; omega
theorem splice_swap (cs : List AV) (o o' : Nat) (xs ys : List AV) (hx : o + xs.length ≤ cs.length) (hy : o' + ys.length ≤ cs.length) (h : o + xs.length ≤ o' ∨ o' + ys.length ≤ o) :
    splice (splice cs o xs) o' ys = splice (splice cs o' ys) o xs := by
  apply List.ext_getElem?
  intro i
  rw [splice_at _ _ _ (by rw [splice_len _ _ _ hx]; exact hy), splice_at _ _ _ hx, splice_at _ _ _ (by rw [splice_len _ _ _ hy]; exact hx), splice_at _ _ _ hy]
  by_cases h1 : o ≤ i ∧ i < o + xs.length
  · rw [if_neg (by omega)]
    simp only [if_pos h1]
  · simp only [if_neg h1]

/-- what a store asks and does -/
theorem store_parts {C : Ctx} {H H1 : Heap} {t : TypeId} {u : AV} {b o : Nat} (h : evStore C H t u (.ptr b o) = some H1) :
    ∃ i ob, C.ty t = some i ∧ H.get b = some ob ∧ ob.kind.isMap = false ∧ ob.kind.lets o = true ∧ u.cells.length = i.size ∧ o + u.cells.length ≤ ob.cs.length ∧ flatAll u.cells = true ∧ H1 = H.write b { ob with cs := splice ob.cs o u.cells } := by
  simp only [evStore] at h
  split at h
  · rename_i i ob e1 e2
    cases hc : (ob.kind.lets o && Nat.beq u.cells.length i.size && Nat.ble (o + i.size) ob.cs.length && flatAll u.cells) with
    | false => rw [hc] at h; cases h
    | true =>
      rw [hc] at h; cases h
      simp only [Bool.and_eq_true, Tr.nbeq, decide_eq_true_eq, Nat.ble_eq] at hc
      obtain ⟨⟨⟨c1, c2⟩, c3⟩, c4⟩ := hc
      exact ⟨i, ob, e1, (Heap.cells_eq e2).1, (Heap.cells_eq e2).2, c1, c2, by omega, c4, rfl⟩
  · cases h
theorem store_of {C : Ctx} {H : Heap} {t : TypeId} {u : AV} {b o : Nat} {i : TI} {ob : Obj} (e1 : C.ty t = some i) (e2 : H.get b = some ob) (hm : ob.kind.isMap = false) (c1 : ob.kind.lets o = true) (c2 : u.cells.length = i.size)
    (c3 : o + u.cells.length ≤ ob.cs.length) (c4 : flatAll u.cells = true) : evStore C H t u (.ptr b o) = some (H.write b { ob with cs := splice ob.cs o u.cells }) := by
  have hc : H.cells b = some ob := by unfold Heap.cells; rw [e2]; simp [hm]
  simp only [evStore, e1, hc]
  have : (ob.kind.lets o && Nat.beq u.cells.length i.size && Nat.ble (o + i.size) ob.cs.length && flatAll u.cells) = true := by
    simp only [Bool.and_eq_true, Tr.nbeq, decide_eq_true_eq, Nat.ble_eq]
    exact ⟨⟨⟨c1, c2⟩, by omega⟩, c4⟩
  rw [this]; rfl
/-- two stores that are apart, in either order -/
theorem store_swap {C : Ctx} {H H1 K H2 : Heap} {tx ty : TypeId} {ux uy : AV} {bx ox yb oy : Nat} (h1 : evStore C H tx ux (.ptr bx ox) = some H1) (hK : ∀ b, K.get b = H1.get b) (hn : K.next = H1.next)
    (h2 : evStore C K ty uy (.ptr yb oy) = some H2) (far : farA (some (bx, ox, ux.cells.length)) (some (yb, oy, uy.cells.length)) = true) :
    ∃ M M', evStore C H ty uy (.ptr yb oy) = some M ∧ evStore C M tx ux (.ptr bx ox) = some M' ∧ (∀ b, M'.get b = H2.get b) ∧ M'.next = H2.next ∧ M.next = H.next ∧ (∀ b, b ≠ yb → M.get b = H.get b) ∧ (∀ b, H.get b ≠ none → M.get b ≠ none) := by
  obtain ⟨i, ob, p1, p2, p3, p4, p5, p6, p7, rfl⟩ := store_parts h1
  obtain ⟨j, oc, q1, q2, q3, q4, q5, q6, q7, rfl⟩ := store_parts h2
  simp only [farA, Bool.or_eq_true, Bool.not_eq_true', Tr.nbeq, decide_eq_false_iff_not, Nat.ble_eq] at far
  rw [hK, Heap.get_write] at q2
  by_cases e : yb = bx
  · subst e
    rw [if_pos rfl] at q2; cases q2
    have far' : ox + ux.cells.length ≤ oy ∨ oy + uy.cells.length ≤ ox := by
      rcases far with (f | f) | f
      · exact (f rfl).elim
      · exact .inl f
      · exact .inr f
    have q6' : oy + uy.cells.length ≤ ob.cs.length := by simpa [splice_len _ _ _ p6] using q6
    refine ⟨_, _, store_of q1 p2 p3 q4 q5 q6' q7, store_of (ob := { ob with cs := splice ob.cs oy uy.cells }) p1 (by rw [Heap.get_write, if_pos rfl]) p3 p4 p5 (by simp only; rw [splice_len _ _ _ q6']; exact p6) p7, fun b => ?_, hn.symm, rfl, fun b hb => by rw [Heap.get_write, if_neg hb], fun b hb => by rw [Heap.get_write]; split <;> simp_all⟩
    rw [Heap.get_write, Heap.get_write, Heap.get_write, hK, Heap.get_write]
    by_cases e : b = yb
    · simp only [if_pos e]; rw [splice_swap _ _ _ _ _ p6 q6' far']
    · simp only [if_neg e]
  · rw [if_neg e] at q2
    refine ⟨_, _, store_of q1 q2 q3 q4 q5 q6 q7, store_of p1 (by rw [Heap.get_write, if_neg (Ne.symm e)]; exact p2) p3 p4 p5 p6 p7, fun b => ?_, hn.symm, rfl, fun b hb => by rw [Heap.get_write, if_neg hb], fun b hb => by rw [Heap.get_write]; split <;> simp_all⟩
    rw [Heap.get_write, Heap.get_write, Heap.get_write, hK, Heap.get_write]
    by_cases e1 : b = bx
    · subst e1; rw [if_pos rfl, if_neg (Ne.symm e), if_pos rfl]
    · rw [if_neg e1]
      by_cases e2 : b = yb
      · rw [if_pos e2, if_pos e2]
      · rw [if_neg e2, if_neg e2, if_neg e1]
end Go.Ev
