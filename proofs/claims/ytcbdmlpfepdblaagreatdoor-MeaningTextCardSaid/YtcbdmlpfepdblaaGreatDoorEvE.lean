import Derived.Test.YtcbdmlpfepdblaaGreatDoorEvD
import Derived.OrdersIn
import Derived.LoopNIn
import Derived.RangeFuncLeaves
import Derived.RangeFuncRecord
import Derived.RangeFuncNested
/-! What is known behind both sides of a branch whose condition is not known. -/
namespace Go.Ev
noncomputable section
open Go Go.RowKit

theorem expsBe_sound : ∀ {xs ys : List Exp}, expsBe xs ys = true → xs = ys
  | [], ys, h => by cases ys <;> simp only [expsBe] at h <;> first | (cases h; done) | rfl
  | x :: xs, ys, h => by
    cases ys <;> simp only [expsBe] at h
    · cases h
    · simp only [Bool.and_eq_true] at h; rw [Exp.beq_sound h.1, expsBe_sound h.2]
mutual
theorem AV.beq_sound : ∀ {x y : AV}, x.beq y = true → x = y
  | .bool a, y, h => by cases y <;> simp only [AV.beq] at h <;> first | (cases h; done) | (simp only [beq_iff_eq] at h; rw [h])
  | .int k n, y, h => by cases y <;> simp only [AV.beq] at h <;> first | (cases h; done) | (simp only [Bool.and_eq_true, beq_iff_eq] at h; rw [h.1, h.2])
  | .sx k e, y, h => by cases y <;> simp only [AV.beq] at h <;> first | (cases h; done) | (simp only [Bool.and_eq_true, beq_iff_eq] at h; rw [h.1, Exp.beq_sound h.2])
  | .str s, y, h => by cases y <;> simp only [AV.beq] at h <;> first | (cases h; done) | (simp only [beq_iff_eq] at h; rw [h])
  | .sxs s, y, h => by cases y <;> simp only [AV.beq] at h <;> first | (cases h; done) | rw [expsBe_sound h]
  | .ptr0, y, h => by cases y <;> simp only [AV.beq] at h <;> first | (cases h; done) | rfl
  | .ptr b o, y, h => by cases y <;> simp only [AV.beq] at h <;> first | (cases h; done) | (simp only [Bool.and_eq_true, Tr.nbeq, decide_eq_true_eq] at h; rw [h.1, h.2])
  | .sl0, y, h => by cases y <;> simp only [AV.beq] at h <;> first | (cases h; done) | rfl
  | .sl b o n, y, h => by cases y <;> simp only [AV.beq] at h <;> first | (cases h; done) | (simp only [Bool.and_eq_true, Tr.nbeq, decide_eq_true_eq] at h; rw [h.1.1, h.1.2, h.2])
  | .map0, y, h => by cases y <;> simp only [AV.beq] at h <;> first | (cases h; done) | rfl
  | .map b, y, h => by cases y <;> simp only [AV.beq] at h <;> first | (cases h; done) | (simp only [Tr.nbeq, decide_eq_true_eq] at h; rw [h])
  | .fn f a c, y, h => by
    cases y <;> simp only [AV.beq] at h <;> first | (cases h; done) | (simp only [Bool.and_eq_true, beq_iff_eq] at h; rw [h.1.1, beqs_sound h.1.2, beqs_sound h.2])
  | .nilfn, y, h => by cases y <;> simp only [AV.beq] at h <;> first | (cases h; done) | rfl
  | .iface t v, y, h => by cases y <;> simp only [AV.beq] at h <;> first | (cases h; done) | (simp only [Bool.and_eq_true, Tr.nbeq, decide_eq_true_eq] at h; rw [h.1, AV.beq_sound h.2])
  | .nilif, y, h => by cases y <;> simp only [AV.beq] at h <;> first | (cases h; done) | rfl
  | .agg cs, y, h => by cases y <;> simp only [AV.beq] at h <;> first | (cases h; done) | rw [beqs_sound h]
  | .tup cs, y, h => by cases y <;> simp only [AV.beq] at h <;> first | (cases h; done) | rw [beqs_sound h]
  | .any, y, h => by cases y <;> simp only [AV.beq] at h <;> first | (cases h; done) | rfl
  | .anyb, y, h => by cases y <;> simp only [AV.beq] at h <;> first | (cases h; done) | rfl
  | .yld b, y, h => by cases y <;> simp only [AV.beq] at h <;> first | (cases h; done) | (simp only [Tr.nbeq, decide_eq_true_eq] at h; rw [h])
  | .pan x, y, h => by cases y <;> simp only [AV.beq] at h <;> first | (cases h; done) | rw [AV.beq_sound h]
theorem beqs_sound : ∀ {xs ys : List AV}, beqs xs ys = true → xs = ys
  | [], ys, h => by cases ys <;> simp only [beqs] at h <;> first | (cases h; done) | rfl
  | x :: xs, ys, h => by
    cases ys <;> simp only [beqs] at h
    · cases h
    · simp only [Bool.and_eq_true] at h; rw [AV.beq_sound h.1, beqs_sound h.2]
end

variable [Env]
omit [Env] in
theorem meetO_some {a b : Option AV} {x : AV} (h : meetO a b = some x) : a = some x ∧ b = some x := by
  unfold meetO at h
  split at h
  · rename_i u v
    obtain ⟨e, h⟩ := bound_of_cond h
    cases h
    rw [AV.beq_sound e]; exact ⟨rfl, rfl⟩
  · cases h
omit [Env] in
theorem Tr.meet_get : ∀ {s t : Tr AV} {i : Nat} {x : AV}, (s.meet t).get i = some x → s.get i = some x ∧ t.get i = some x
  | .nil, t, i, x, h => by simp only [Tr.meet, Tr.get_nil] at h; cases h
  | .node v l r, .nil, i, x, h => by simp only [Tr.meet, Tr.get_nil] at h; cases h
  | .node v l r, .node v' l' r', i, x, h => by
    simp only [Tr.meet, Tr.get_node, Tr.nbeq] at h ⊢
    by_cases h0 : i = 0
    · simp only [h0, decide_true, cond_true] at h ⊢; exact meetO_some h
    · simp only [h0, decide_false, cond_false] at h ⊢
      by_cases h1 : i % 2 = 1
      · simp only [h1, decide_true, cond_true] at h ⊢; exact Tr.meet_get h
      · simp only [h1, decide_false, cond_false] at h ⊢; exact Tr.meet_get h

/-- what is known of a cell, or less -/
def Less (x y : AV) : Prop := y = x ∨ (y = .any ∧ x.flat = true) ∨ (y = .anyb ∧ ∃ b, x = .bool b)
theorem VR.less {ι : Map} {x y : AV} {v : Value} (h : VR ι x v) (l : Less x y) : VR ι y v := by
  rcases l with rfl | ⟨rfl, hf⟩ | ⟨rfl, b, rfl⟩
  · exact h
  · simp only [VR]; exact h.flat hf
  · simp only [VR] at h ⊢; exact ⟨b, h⟩
def Lesses (xs ys : List AV) : Prop := ys.length = xs.length ∧ ∀ (i : Nat) (y : AV), ys[i]? = some y → ∃ x, xs[i]? = some x ∧ Less x y
omit [Env] in
theorem Lesses.refl (xs : List AV) : Lesses xs xs := ⟨rfl, fun _ y h => ⟨y, h, .inl rfl⟩⟩
omit [Env] in
theorem Lesses.cons {x y : AV} {xs ys : List AV} (h : Less x y) (k : Lesses xs ys) : Lesses (x :: xs) (y :: ys) := by
  refine ⟨by simp [k.1], fun i z hz => ?_⟩
  cases i with
  | zero => simp at hz; subst hz; exact ⟨x, rfl, h⟩
  | succ i => simp at hz; obtain ⟨u, hu, q⟩ := k.2 i z hz; exact ⟨u, by simpa using hu, q⟩
omit [Env] in
theorem joinCells_sound : ∀ {xs ys zs : List AV}, joinCells xs ys = some zs → Lesses xs zs ∧ Lesses ys zs
  | [], [], zs, h => by simp only [joinCells] at h; cases h; exact ⟨Lesses.refl _, Lesses.refl _⟩
  | [], _ :: _, zs, h => by simp only [joinCells] at h; cases h
  | _ :: _, [], zs, h => by simp only [joinCells] at h; cases h
  | x :: xs, y :: ys, zs, h => by
    simp only [joinCells] at h
    split at h
    · rename_i us e
      obtain ⟨k1, k2⟩ := joinCells_sound e
      cases hb : x.beq y with
      | true =>
        rw [hb] at h; cases h
        have := AV.beq_sound hb
        subst this
        exact ⟨k1.cons (.inl rfl), k2.cons (.inl rfl)⟩
      | false =>
        rw [hb] at h
        simp only [cond_false] at h
        obtain ⟨e2, h⟩ := bound_of_cond h
        cases h
        simp only [Bool.and_eq_true] at e2
        exact ⟨k1.cons (.inr (.inl ⟨rfl, e2.1⟩)), k2.cons (.inr (.inl ⟨rfl, e2.2⟩))⟩
    · cases h

/-- what is known of a block, or less -/
structure ObjW (o q : Obj) : Prop where
  es : q.es = o.es
  kind : q.kind = o.kind
  cs : Lesses o.cs q.cs
  map : o.kind.isMap = true → q.cs = o.cs
omit [Env] in
theorem ObjW.refl (o : Obj) : ObjW o o := ⟨rfl, rfl, Lesses.refl _, fun _ => rfl⟩
omit [Env] in
theorem Kind.beq_sound {k l : Kind} (h : k.beq l = true) : k = l := by
  cases k <;> cases l <;> simp only [Kind.beq] at h <;> first | (cases h; done) | rfl | (simp only [Tr.nbeq, decide_eq_true_eq] at h; rw [h])
omit [Env] in
theorem joinObj_sound {o p q : Obj} (h : joinObj o p = some q) : ObjW o q ∧ ObjW p q := by
  unfold joinObj at h
  obtain ⟨e, h⟩ := bound_of_cond h
  simp only [Bool.and_eq_true, Tr.nbeq, decide_eq_true_eq] at e
  have hk := Kind.beq_sound e.2
  split at h
  · rename_i hm
    obtain ⟨e2, h⟩ := bound_of_cond h
    cases h
    have hc := beqs_sound e2
    exact ⟨ObjW.refl _, ⟨e.1, hk, by rw [hc]; exact Lesses.refl _, fun _ => hc⟩⟩
  · rename_i hm
    split at h
    · rename_i cs e2
      cases h
      obtain ⟨k1, k2⟩ := joinCells_sound e2
      exact ⟨⟨rfl, rfl, k1, fun h => by rw [hm] at h; cases h⟩, ⟨e.1, hk, k2, fun h => by rw [← hk, hm] at h; cases h⟩⟩
    · cases h
theorem Blk.less {ι : Map} {w : World} {l : Loc} {o q : Obj} (h : Blk ι w l o) (k : ObjW o q) : Blk ι w l q := by
  rcases o.kind.three with hk | hk | ⟨st, L, hk⟩
  rotate_left
  · obtain ⟨es, clock, h1, h2⟩ := h.map hk
    exact .of_map (by rw [k.kind]; exact hk) ⟨es, clock, h1, by rw [k.map (by cases q : o.kind <;> rw [q] at hk <;> first | rfl | cases hk)]; exact h2⟩
  · exact .of_loop (by rw [k.kind]; exact hk) (h.loop hk)
  · skip
    obtain ⟨c, et, lo, hi, h1, h2, h3, h4, h5, h6⟩ := h.cells hk
    refine .of_cells (by rw [k.kind]; exact hk) ⟨c, et, lo, hi, h1, h2, h3, by rw [h4, k.es], by rw [k.cs.1]; exact h5, fun i y hy => ?_⟩
    obtain ⟨x, hx, hl⟩ := k.cs.2 i y hy
    obtain ⟨v, hv, r⟩ := h6 i x hx
    exact ⟨v, hv, r.less hl⟩

/-- a heap of which less is known -/
structure HW (H K : Heap) : Prop where
  next : H.next ≤ K.next
  get : ∀ b q, K.get b = some q → (H.get b = none ∧ H.next ≤ b) ∨ ∃ o, H.get b = some o ∧ ObjW o q
  has : ∀ b, H.get b ≠ none → K.get b ≠ none
theorem WR.less {ι : Map} {H K : Heap} {w : World} (h : WR ι H w) (k : HW H K) : WR ι K w := by
  have old : ∀ b l q, ι b = some l → K.get b = some q → ∃ o, H.get b = some o ∧ ObjW o q := fun b l q hb hq => by
    rcases k.get b q hq with ⟨e, _⟩ | e
    · exact (h.vis b l hb e).elim
    · exact e
  refine ⟨fun b l q hb hq => ?_, fun b1 b2 l1 l2 q1 q2 hne e1 e2 g1 g2 heq => ?_, fun b hb => h.new b (Nat.le_trans k.next hb), fun b l hb => k.has b (h.vis b l hb), h.glob⟩
  · obtain ⟨o, ho, hw⟩ := old b l q hb hq
    exact (h.obj b l o hb ho).less hw
  · obtain ⟨o1, ho1, w1⟩ := old b1 l1 q1 e1 g1
    obtain ⟨o2, ho2, w2⟩ := old b2 l2 q2 e2 g2
    rw [w1.kind, w2.kind, w1.cs.1, w2.cs.1]
    exact h.apart b1 b2 l1 l2 o1 o2 hne e1 e2 ho1 ho2 heq
theorem Step.less {ids : Nat → Prop} {ι ι' : Map} {H H' K : Heap} {w w' : World} (h0 : ∀ b l, ι b = some l → H.get b ≠ none) (h : Step ids ι H w ι' H' w') (k : HW H' K) : Step ids ι H w ι' K w' :=
  ⟨h.ext, h.wr.less k, Nat.le_trans h.next k.next, h.dom, fun b hb => k.has b (h.keep b hb), fun b l hb _ => h0 b l hb, h.os, h.tape, h.output, h.size, fun b l o q hb g gq => (by
    cases e : H'.get b with
    | none => exact (h.keep b (by rw [g]; simp) e).elim
    | some o1 =>
      rcases k.get b q gq with ⟨e2, _⟩ | ⟨o2, e2, hw⟩
      · rw [e] at e2; cases e2
      · rw [e] at e2; cases e2
        rw [hw.kind]; exact h.stay b l o o1 hb g e), h.frame, h.fresh⟩

omit [Env] in
theorem joinBlks_sound {Ha Hb : Heap} : ∀ {bs : List Nat} {H K : Heap}, joinBlks Ha Hb bs H = some K →
    K.next = H.next ∧ ∀ b, (b ∈ bs ∧ ∃ o p q, Ha.get b = some o ∧ Hb.get b = some p ∧ joinObj o p = some q ∧ K.get b = some q) ∨
      (K.get b = H.get b ∧ (b ∈ bs → Ha.get b = none ∧ Hb.get b = none))
  | [], H, K, h => by simp only [joinBlks] at h; cases h; exact ⟨rfl, fun b => .inr ⟨rfl, fun h => by simp at h⟩⟩
  | c :: bs, H, K, h => by
    simp only [joinBlks] at h
    split at h
    · rename_i o p e1 e2
      split at h
      · rename_i q e3
        obtain ⟨k1, k2⟩ := joinBlks_sound h
        refine ⟨k1, fun b => ?_⟩
        rcases k2 b with ⟨m, r⟩ | ⟨r, m⟩
        · exact .inl ⟨by simp [m], r⟩
        · by_cases e : b = c
          · subst e
            by_cases hm : b ∈ bs
            · have := (m hm).1; rw [e1] at this; cases this
            · rw [Heap.get_put, if_pos rfl] at r
              exact .inl ⟨by simp, o, p, q, e1, e2, e3, r⟩
          · rw [Heap.get_put, if_neg e] at r
            exact .inr ⟨r, fun hb => m (by simpa [e] using hb)⟩
      · cases h
    · rename_i e1 e2
      obtain ⟨k1, k2⟩ := joinBlks_sound h
      refine ⟨k1, fun b => ?_⟩
      rcases k2 b with ⟨m, r⟩ | ⟨r, m⟩
      · exact .inl ⟨by simp [m], r⟩
      · refine .inr ⟨r, fun hb => ?_⟩
        by_cases e : b = c
        · subst e; exact ⟨e1, e2⟩
        · exact m (by simpa [e] using hb)
    · cases h

omit [Env] in
/-- what both sides of a branch leave is less than either -/
theorem joinHeap_sound {H Ha Hb K : Heap} {d : Nat} (ha : HRel (fun _ => False) { H with next := H.next + d, log := [] } Ha) (hb : HRel (fun _ => False) { H with log := [] } Hb)
    (h : joinHeap H Ha Hb = some K) : HW Ha K ∧ HW Hb K ∧ HRel (fun _ => False) H K := by
  unfold joinHeap at h
  obtain ⟨hv, h⟩ := bound_of_cond h
  split at h
  · rename_i K1 e1
    cases h
    obtain ⟨k1, k2⟩ := joinBlks_sound e1
    have na : H.next + d ≤ Ha.next := ha.next
    have nb : H.next ≤ Hb.next := hb.next
    have hvac : ∀ b, H.next ≤ b → b < max Ha.next Hb.next → H.get b = none := fun b h1 h2 => by
      unfold Heap.vacant at hv
      rw [List.all_eq_true] at hv
      have := hv b (by rw [List.mem_range'_1]; omega)
      split at this
      · assumption
      · cases this
    obtain ⟨la, a1, a2⟩ := ha.log
    obtain ⟨lb, b1, b2⟩ := hb.log
    simp only [List.append_nil] at a1 b1
    -- a block that is in neither log, and is not new
    have keepA : ∀ b, b ∉ Ha.log → H.get b ≠ none → Ha.get b = H.get b := fun b h1 h2 => a2 b h2 (by rw [← a1]; exact h1)
    have keepB : ∀ b, b ∉ Hb.log → H.get b ≠ none → Hb.get b = H.get b := fun b h1 h2 => b2 b h2 (by rw [← b1]; exact h1)
    have madeA : ∀ b, H.get b = none → Ha.get b ≠ none → H.next + d ≤ b ∧ b < Ha.next := fun b h1 h2 => (ha.made b h1 h2).elim (fun h => h.elim) id
    have madeB : ∀ b, H.get b = none → Hb.get b ≠ none → H.next ≤ b ∧ b < Hb.next := fun b h1 h2 => (hb.made b h1 h2).elim (fun h => h.elim) id
    have key : ∀ b, (∃ o p q, Ha.get b = some o ∧ Hb.get b = some p ∧ joinObj o p = some q ∧ K1.get b = some q) ∨ (K1.get b = H.get b ∧ ((Ha.get b = H.get b ∧ Hb.get b = H.get b) ∨ (Ha.get b = none ∧ Hb.get b = none ∧ H.get b = none))) := by
      intro b
      rcases k2 b with ⟨_, r⟩ | ⟨r, m⟩
      · exact .inl r
      · right
        refine ⟨r, ?_⟩
        by_cases hm : b ∈ Ha.log ++ Hb.log ++ List.range' H.next (max Ha.next Hb.next - H.next)
        · obtain ⟨m1, m2⟩ := m hm
          right
          refine ⟨m1, m2, ?_⟩
          cases e : H.get b with
          | none => rfl
          | some o => exact (ha.keep b (show Heap.get _ b ≠ none by show H.get b ≠ none; rw [e]; simp) m1).elim
        · simp only [List.mem_append, List.mem_range'_1, not_or] at hm
          obtain ⟨⟨m1, m2⟩, m3⟩ := hm
          left
          by_cases e : H.get b = none
          · rw [e]
            constructor
            · exact Classical.byContradiction fun hn => by have := madeA b e hn; omega
            · exact Classical.byContradiction fun hn => by have := madeB b e hn; omega
          · exact ⟨keepA b m1 e, keepB b m2 e⟩
    refine ⟨⟨Nat.le_max_left _ _, fun b q hq => ?_, fun b hb2 => ?_⟩, ⟨Nat.le_max_right _ _, fun b q hq => ?_, fun b hb2 => ?_⟩, ⟨show H.next ≤ max Ha.next Hb.next by omega, fun b h1 h2 => .inr ?_, ⟨Ha.log ++ Hb.log, rfl, fun b h1 h2 => ?_⟩, fun b h1 => ?_⟩⟩
    · have hq' : K1.get b = some q := hq
      rcases key b with ⟨o, p, q2, r1, r2, r3, r4⟩ | ⟨r, ⟨r1, r2⟩ | ⟨r1, r2, r3⟩⟩
      · rw [hq'] at r4; cases r4; exact .inr ⟨o, r1, (joinObj_sound r3).1⟩
      · exact .inr ⟨q, by rw [r1, ← r, hq'], ObjW.refl _⟩
      · rw [r3, hq'] at r; cases r
    · show K1.get b ≠ none
      rcases key b with ⟨o, p, q2, r1, r2, r3, r4⟩ | ⟨r, ⟨r1, r2⟩ | ⟨r1, r2, r3⟩⟩
      · rw [r4]; simp
      · rw [r, ← r1]; exact hb2
      · exact (hb2 r1).elim
    · have hq' : K1.get b = some q := hq
      rcases key b with ⟨o, p, q2, r1, r2, r3, r4⟩ | ⟨r, ⟨r1, r2⟩ | ⟨r1, r2, r3⟩⟩
      · rw [hq'] at r4; cases r4; exact .inr ⟨p, r2, (joinObj_sound r3).2⟩
      · exact .inr ⟨q, by rw [r2, ← r, hq'], ObjW.refl _⟩
      · rw [r3, hq'] at r; cases r
    · show K1.get b ≠ none
      rcases key b with ⟨o, p, q2, r1, r2, r3, r4⟩ | ⟨r, ⟨r1, r2⟩ | ⟨r1, r2, r3⟩⟩
      · rw [r4]; simp
      · rw [r, ← r2]; exact hb2
      · exact (hb2 r2).elim
    · show H.next ≤ b ∧ b < max Ha.next Hb.next
      have h2' : K1.get b ≠ none := h2
      rcases key b with ⟨o, p, q2, r1, r2, r3, r4⟩ | ⟨r, _⟩
      · have := madeA b h1 (by rw [r1]; simp); omega
      · rw [r, h1] at h2'; exact (h2' rfl).elim
    · show K1.get b = H.get b
      simp only [List.mem_append, not_or] at h2
      rcases k2 b with ⟨m, r⟩ | ⟨r, _⟩
      · simp only [List.mem_append, List.mem_range'_1] at m
        rcases m with (m | m) | m
        · exact (h2.1 m).elim
        · exact (h2.2 m).elim
        · exact (h1 (hvac b (by omega) (by omega))).elim
      · exact r
    · show K1.get b ≠ none
      rcases key b with ⟨o, p, q2, r1, r2, r3, r4⟩ | ⟨r, _⟩
      · rw [r4]; simp
      · rw [r]; exact h1
  · cases h

theorem SR.less {dd : List Deferred} {ι : Map} {s s' : St} {a : Act} {w : World} (h : SR dd ι s a w) (hH : HW s.H s'.H) (hN : s'.N = s.N) (hT : ∀ t x, s'.T.get t = some x → s.T.get t = some x) : SR dd ι s' a w :=
  ⟨h.wr.less hH, fun t x hx => h.tr t x (hT t x hx), by rw [hN]; exact h.size, h.defers⟩
end
end Go.Ev
/-! A region that tosses a coin: a new cell, two stores into it in either order, what lies there then. -/
namespace Go.Ev
noncomputable section
open Go Go.RowKit
variable [Env]

/-- where a run of such a region stands -/
structure CInv (dd : List Deferred) (ι0 : Map) (H0 Hn K1 K2 : Heap) (w0 : World) (T : Tr AV) (N ta tr base : Nat) (ls : Array Bool) (K : Heap) (a : Act) (w : World) (ι : Map) : Prop where
  sz : ls.size = 4
  c1 : Li ls 1 → Li ls 0
  c2 : Li ls 2 → Li ls 0
  c3 : Li ls 3 → Li ls 1 ∧ Li ls 2
  k0 : ¬ Li ls 0 → K = Hn
  k1 : Li ls 0 → ¬ (Li ls 1 ∧ Li ls 2) → K = K1
  k2 : Li ls 1 → Li ls 2 → K = K2
  st : Step (fun b => base ≤ b) ι0 H0 w0 ι K w
  tm : ∀ t x, t ≠ ta → t ≠ tr → T.get t = some x → ∃ v, a.tmps[t]? = some v ∧ VR ι x v
  tva : Li ls 0 → ∃ v, a.tmps[ta]? = some v ∧ VR ι (.ptr base 0) v
  tvr : Li ls 3 → ∃ v, a.tmps[tr]? = some v ∧ VR ι .anyb v
  un : ∀ j, j < 4 → ¬ Li ls j → ι (base + j) = none
  asz : a.tmps.size = N
  df : a.defers = dd

/-- what such a region looks like -/
structure Coin (C : Ctx) (ops : Array Oper) (H : Heap) (N ta tr base : Nat) (Hn K1 K2 : Heap) : Prop where
  size : ops.size = 4
  ne : tr ≠ ta
  ltA : ta < N
  ltR : tr < N
  nx : Hn.next = base + 4
  hn : Hn = { H with next := base + 4 }
  free : H.get base = none
  op0 : ∃ o z es, ops[0]? = some o ∧ o.guard = none ∧ o.dst = some ta ∧ (∀ j, j ∈ binding o → False) ∧ AV.flat z = true ∧ (∀ call T, evOp C call Hn base T o = some (.ptr base 0, Hn.put base { cs := [z], es := es, kind := .free })) ∧
    K1 = Hn.put base { cs := [.any], es := es, kind := .free } ∧ K2 = Hn.put base { cs := [.anyb], es := es, kind := .free }
  op12 : ∀ i, i = 1 ∨ i = 2 → ∃ o t b, ops[i]? = some o ∧ o.guard = none ∧ o.dst = none ∧ (∀ j, j ∈ binding o ↔ j = 0) ∧ o.op = .store t (.tmp ta) (.const (.bool b)) ∧
    ∀ (call : CallA) (K : Heap) (T : Tr AV) (id : Nat) (ob : Obj), T.get ta = some (.ptr base 0) → K.get base = some ob → ob.kind = .free → ob.cs.length = 1 → evOp C call K id T o = some (undefA, K.write base { ob with cs := [.bool b] })
  op3 : ∃ o, ops[3]? = some o ∧ o.guard = none ∧ o.dst = some tr ∧ (∀ j, j ∈ binding o ↔ j = 0 ∨ j = 1 ∨ j = 2) ∧
    ∀ (call : CallA) (K : Heap) (T : Tr AV) (id : Nat) (ob : Obj), T.get ta = some (.ptr base 0) → K.get base = some ob → ob.kind = .free → ob.cs = [.anyb] → evOp C call K id T o = some (.anyb, K)

omit [Env] in
theorem list4 {ops : Array Oper} {o0 o1 o2 o3 : Oper} (h : ops.toList = [o0, o1, o2, o3]) : ops.size = 4 ∧ ops[0]? = some o0 ∧ ops[1]? = some o1 ∧ ops[2]? = some o2 ∧ ops[3]? = some o3 := by
  obtain ⟨l⟩ := ops
  simp only at h; subst h
  exact ⟨rfl, rfl, rfl, rfl, rfl⟩
omit [Env] in
theorem coin_store {C : Ctx} {call : CallA} {K : Heap} {id : Nat} {T : Tr AV} {o : Oper} {t : TypeId} {ta base : Nat} {b : Bool} {i : TI} {ob : Obj} (ho : o.op = .store t (.tmp ta) (.const (.bool b))) (hT : T.get ta = some (.ptr base 0))
    (hi : C.ty t = some i) (hs : i.size = 1) (hK : K.get base = some ob) (hk : ob.kind = .free) (hl : ob.cs.length = 1) :
    evOp C call K id T o = some (undefA, K.write base { ob with cs := [.bool b] }) := by
  have hc : K.cells base = some ob := by unfold Heap.cells; rw [hK]; simp [hk, Kind.isMap]
  have h1 : ev T (.tmp ta) = some (.ptr base 0) := hT
  have h2 : ev T (.const (.bool b)) = some (.bool b) := rfl
  have hsp : splice ob.cs 0 [AV.bool b] = [.bool b] := by
    match ob.cs, hl with
    | [x], _ => rfl
  simp only [evOp, ho, h1, h2, evStore, hi, hc, hk, Kind.lets, hs, AV.cells, hl]
  simp [flatAll, AV.flat, hsp, Nat.ble]
omit [Env] in
theorem coin_load {C : Ctx} {call : CallA} {K : Heap} {id : Nat} {T : Tr AV} {o : Oper} {t : TypeId} {ta base : Nat} {i : TI} {ob : Obj} (ho : o.op = .load t (.tmp ta)) (hT : T.get ta = some (.ptr base 0))
    (hi : C.ty t = some i) (hs : i.isAgg = false) (hK : K.get base = some ob) (hk : ob.kind = .free) (hl : ob.cs = [.anyb]) :
    evOp C call K id T o = some (.anyb, K) := by
  have hc : K.cells base = some ob := by unfold Heap.cells; rw [hK]; simp [hk, Kind.isMap]
  have h1 : ev T (.tmp ta) = some (.ptr base 0) := hT
  simp only [evOp, ho, h1, evLoad, hi, hc, part, hs, hl]
  rfl

omit [Env] in
theorem coin_of {C : Ctx} {ops : Array Oper} {s s' : St} (h : coinA C ops s = some s') : ∃ ta tr Hn K1 K2, Coin C ops s.H s.N ta tr s.H.next Hn K1 K2 ∧ s'.H = K2 ∧ s'.N = s.N ∧ s'.T = (s.T.set ta (.ptr s.H.next 0)).set tr .anyb := by
  unfold coinA at h
  split at h
  · rename_i o0 o1 o2 o3 hl
    obtain ⟨z0, z1, z2, z3, z4⟩ := list4 hl
    split at h
    · rename_i t0 t1 a1 b1 t2 a2 b2 t3 a3 q0 q1 q2 q3
      split at h
      · rename_i a r d0 d3
        obtain ⟨hc, h⟩ := bound_of_cond h
        simp only [Bool.and_eq_true, Tr.nbeq, decide_eq_true_eq, Bool.not_eq_true', decide_eq_false_iff_not, Option.isNone_iff_eq_none, Nat.blt_eq, List.isEmpty_iff, beq_iff_eq, List.contains_iff_mem, List.all_eq_true] at hc
        obtain ⟨⟨⟨⟨⟨⟨⟨⟨⟨⟨⟨⟨⟨⟨⟨rfl, rfl⟩, rfl⟩, hne⟩, g0⟩, g1⟩, g2⟩, g3⟩, n1⟩, n2⟩, m0⟩, m1⟩, m2⟩, ⟨⟨x0, x1⟩, x2⟩, x3⟩, la⟩, lr⟩ := hc
        split at h
        · rename_i i0 i1 i2 i3 y0 y1 y2 y3
          split at h
          · rename_i z hz
            obtain ⟨hc2, h⟩ := bound_of_cond h
            simp only [Bool.and_eq_true, Tr.nbeq, decide_eq_true_eq, Bool.not_eq_true'] at hc2
            obtain ⟨⟨⟨⟨⟨f0, f1⟩, f2⟩, f3⟩, f4⟩, f5⟩ := hc2
            split at h
            · rename_i H' e
              cases h
              obtain ⟨hfree, rfl⟩ := Heap.add_eq e
              have hfree' : s.H.get s.H.next = none := hfree
              rw [z0] at hfree ⊢
              refine ⟨_, _, { s.H with next := s.H.next + 4 }, _, _, ⟨z0, hne, la, lr, rfl, rfl, hfree', ⟨o0, z, i0.size, z1, g0, d0, fun j hj => by rw [m0] at hj; simp at hj, f0, fun call T => ?_, rfl, rfl⟩, ?_, ⟨o3, z4, g3, d3, fun j => ⟨fun hj => ?_, fun hj => ?_⟩, fun call K T id ob hT hK hk hc => coin_load q3 hT y3 f3 hK hk hc⟩⟩, rfl, rfl, rfl⟩
              · have hadd : ({ s.H with next := s.H.next + 4 } : Heap).add s.H.next { cs := [z], es := i0.size, kind := .free } = some (({ s.H with next := s.H.next + 4 } : Heap).put s.H.next { cs := [z], es := i0.size, kind := .free }) := by
                  unfold Heap.add; rw [hfree]
                simp only [evOp, q0, allocA, y0, hz, hadd]
              · rintro i (rfl | rfl)
                · exact ⟨o1, t1, b1, z2, g1, n1, fun j => by rw [m1]; simp, q1, fun call K T id ob hT hK hk hc => coin_store q1 hT y1 f4 hK hk hc⟩
                · exact ⟨o2, t2, b2, z3, g2, n2, fun j => by rw [m2]; simp, q2, fun call K T id ob hT hK hk hc => coin_store q2 hT y2 f5 hK hk hc⟩
              · have := x3 j hj; omega
              · rcases hj with rfl | rfl | rfl
                · exact x0
                · exact x1
                · exact x2
            · cases h
          · cases h
        · cases h
      · cases h
    · cases h
  · cases h

section
variable {dd : List Deferred} {C : Ctx} {P : Program} (hC : C.Ok P) {ops : Array Oper} {ι0 : Map} {H0 Hn K1 K2 : Heap} {w0 : World} {T : Tr AV} {N ta tr base : Nat} {Q : Exit → Act → World → Prop}

omit [Env] in
theorem Act.put_get {a : Act} {d t : Nat} {v : Value} (hd : d < a.tmps.size) : (a.put (some d) v).tmps[t]? = if t = d then some v else a.tmps[t]? := by
  simp only [Act.put]
  by_cases e : t = d
  · subst e; simp [hd]
  · rw [if_neg e, Array.getElem?_setIfInBounds_ne (Ne.symm e)]

include hC
theorem CInv.run {call : CallA} (hcall : CallSound P call) (hc : Coin C ops H0 N ta tr base Hn K1 K2) {ls : Array Bool} {K : Heap} {a : Act} {w : World} {ι : Map} (inv : CInv dd ι0 H0 Hn K1 K2 w0 T N ta tr base ls K a w ι)
    {i : Nat} (hi : i < 4) (hun : ¬ Li ls i) (hr : ∀ o, ops[i]? = some o → ∀ j ∈ binding o, Li ls j) {G : Act → World → Prop}
    (hG : ∀ a' w' ι' K', CInv dd ι0 H0 Hn K1 K2 w0 T N ta tr base (ls.setIfInBounds i true) K' a' w' ι' → G a' w') : wpOp P ops Q i G a w := by
  have hsz : i < ls.size := by rw [inv.sz]; exact hi
  have hLi : ∀ j, Li (ls.setIfInBounds i true) j ↔ (j = i ∨ Li ls j) := fun j => Li_set hsz
  obtain ⟨o0, z, es, p1, p2, p3, p4, p5, p6, p7, p8⟩ := hc.op0
  have w1 : ObjW { cs := [z], es := es, kind := .free } { cs := [.any], es := es, kind := .free } := ⟨rfl, rfl, (Lesses.refl []).cons (.inr (.inl ⟨rfl, p5⟩)), fun h => by cases h⟩
  have put_less : ∀ (H : Heap) (o q : Obj), ObjW o q → HW (H.put base o) (H.put base q) := fun H o q hw => by
    refine ⟨Nat.le_refl _, fun b x hx => .inr ?_, fun b hb => ?_⟩
    · rw [Heap.get_put] at hx ⊢
      by_cases e : b = base
      · rw [if_pos e] at hx ⊢; cases hx; exact ⟨o, rfl, hw⟩
      · rw [if_neg e] at hx ⊢; exact ⟨x, hx, ObjW.refl _⟩
    · rw [Heap.get_put] at hb ⊢
      by_cases e : b = base
      · rw [if_pos e]; simp
      · rw [if_neg e] at hb ⊢; exact hb
  have vis0 : ∀ b l, ι b = some l → K.get b ≠ none := inv.st.wr.vis
  have hnext : K.next = base + 4 := by
    by_cases h0 : Li ls 0
    · by_cases h12 : Li ls 1 ∧ Li ls 2
      · rw [inv.k2 h12.1 h12.2, p8, Heap.next_put, hc.nx]
      · rw [inv.k1 h0 h12, p7, Heap.next_put, hc.nx]
    · rw [inv.k0 h0, hc.nx]
  have hasz := inv.asz
  have hid := inv.un i hi hun
  have hTa : (Tr.nil.set ta (AV.ptr base 0)).get ta = some (.ptr base 0) := Tr.get_set_self _ _ _
  have hev : Li ls 0 → ∀ x : Operand, ∀ v, ev (Tr.nil.set ta (.ptr base 0)) x = some v → VR ι v (a.eval x) := fun l0 x v hv => by
    obtain ⟨va, hva, ra⟩ := inv.tva l0
    cases x with
    | tmp t =>
      have hv' : (Tr.nil.set ta (AV.ptr base 0)).get t = some v := hv
      rw [Tr.get_set] at hv'
      by_cases e : t = ta
      · rw [if_pos e] at hv'; cases hv'; rw [e]; simpa [Act.eval, hva] using ra
      · rw [if_neg e] at hv'; cases hv'
    | const c => exact ofValue_sound hv ι
    | global g => cases hv
    | func f => cases hv; simp only [VR, Act.eval]; exact ⟨[], [], VRs_nil, VRs_nil, rfl⟩
  have hun' : ∀ {ι' : Map} {K' : Heap} {w' : World}, Step (· = base + i) ι K w ι' K' w' → ∀ j, j < 4 → ¬ Li (ls.setIfInBounds i true) j → ι' (base + j) = none := fun {ι' K' w'} hs j hj hnl => by
    rw [hLi] at hnl
    have hne : j ≠ i := fun e => hnl (.inl e)
    cases e : ι' (base + j) with
    | none => rfl
    | some l =>
      rcases hs.dom (base + j) (inv.un j hj (fun h => hnl (.inr h))) (by rw [e]; simp) with h | h
      · omega
      · omega
  -- one of the two stores
  have store : i = 1 ∨ i = 2 → wpOp P ops Q i G a w := by
    intro h12
    obtain ⟨o, t, b, q1, q2, q3, q4, q5, q6⟩ := hc.op12 i h12
    have l0 : Li ls 0 := hr o q1 0 ((q4 0).2 rfl)
    have n3 : ¬ Li ls 3 := fun h => by rcases h12 with rfl | rfl; exact hun (inv.c3 h).1; exact hun (inv.c3 h).2
    have hK := inv.k1 l0 (fun h => by rcases h12 with rfl | rfl; exact hun h.1; exact hun h.2)
    have hget : K.get base = some { cs := [.any], es := es, kind := .free } := by rw [hK, p7, Heap.get_put, if_pos rfl]
    unfold wpOp
    simp only [q1]
    rw [show Region.wanted o (yielded ops a.tmps) = true by unfold Region.wanted; rw [q2]]
    simp only [if_true]
    refine .inl ?_
    refine evOp_sound' hC hcall inv.st.wr (T := Tr.nil.set ta (.ptr base 0)) (fun x _ => hev l0 x) hid (by omega) (q6 call K _ _ _ hTa hget rfl rfl) (fun ι' v' w' hs hv => ?_) (fun x hx => by cases hx)
    have hs1 : Step (· = base + i) ι K w ι' (Hn.put base { cs := [.bool b], es := es, kind := .free }) w' := by
      refine hs.cast (HEq2.refl _) ⟨fun c => ?_, ?_⟩
      · rw [Heap.get_put, Heap.get_write]
        by_cases e : c = base
        · rw [if_pos e, if_pos e]
        · rw [if_neg e, if_neg e, hK, p7, Heap.get_put, if_neg e]
      · show Hn.next = K.next; rw [hnext, hc.nx]
    have hb1 : HW (Hn.put base { cs := [.bool b], es := es, kind := .free }) K1 := by rw [p7]; exact put_less _ _ _ ⟨rfl, rfl, (Lesses.refl []).cons (.inr (.inl ⟨rfl, rfl⟩)), fun h => by cases h⟩
    have hb2 : HW (Hn.put base { cs := [.bool b], es := es, kind := .free }) K2 := by rw [p8]; exact put_less _ _ _ ⟨rfl, rfl, (Lesses.refl []).cons (.inr (.inr ⟨rfl, b, rfl⟩)), fun h => by cases h⟩
    have fin : ∀ K' : Heap, HW (Hn.put base { cs := [.bool b], es := es, kind := .free }) K' → (¬ (Li (ls.setIfInBounds i true) 1 ∧ Li (ls.setIfInBounds i true) 2) → K' = K1) → (Li (ls.setIfInBounds i true) 1 → Li (ls.setIfInBounds i true) 2 → K' = K2) →
        G (a.put o.dst v') w' := by
      intro K' hw f1 f2
      have hs2 := hs1.less vis0 hw
      have hl0 : Li (ls.setIfInBounds i true) 0 := (hLi 0).2 (.inr l0)
      rw [q3]
      refine hG _ _ ι' K' ⟨by simp [inv.sz], fun _ => hl0, fun _ => hl0, fun h => ?_, fun h => (h hl0).elim, fun _ => f1, f2, inv.st.trans (fun _ h => h) (fun c hb => by omega) hs2, fun t x h1 h2 hx => ?_, fun _ => ?_, fun h => ?_, hun' hs2, inv.asz, inv.df⟩
      · rw [hLi] at h; rcases h with h | h
        · omega
        · exact (n3 h).elim
      · obtain ⟨u, hu, r⟩ := inv.tm t x h1 h2 hx
        exact ⟨u, hu, r.ext hs.ext⟩
      · obtain ⟨u, hu, r⟩ := inv.tva l0
        exact ⟨u, hu, r.ext hs.ext⟩
      · rw [hLi] at h; rcases h with h | h
        · omega
        · exact (n3 h).elim
    by_cases hb : Li (ls.setIfInBounds i true) 1 ∧ Li (ls.setIfInBounds i true) 2
    · exact fin K2 hb2 (fun h => (h hb).elim) (fun _ _ => rfl)
    · exact fin K1 hb1 (fun _ => rfl) (fun h1 h2 => (hb ⟨h1, h2⟩).elim)
  match i, hi with
  | 1, _ => exact store (.inl rfl)
  | 2, _ => exact store (.inr rfl)
  | 0, _ =>
    have hK := inv.k0 hun
    have n1 : ¬ Li ls 1 := fun h => hun (inv.c1 h)
    have n2 : ¬ Li ls 2 := fun h => hun (inv.c2 h)
    have n3 : ¬ Li ls 3 := fun h => n1 (inv.c3 h).1
    unfold wpOp
    simp only [p1]
    rw [show Region.wanted o0 (yielded ops a.tmps) = true by unfold Region.wanted; rw [p2]]
    simp only [if_true]
    refine .inl ?_
    have hev0 : evOp C call K base .nil o0 = some (.ptr base 0, Hn.put base { cs := [z], es := es, kind := .free }) := by rw [hK]; exact p6 call .nil
    refine evOp_sound' hC hcall inv.st.wr (T := .nil) (fun x _ v hv => ?_) hid (by omega) hev0 (fun ι' v' w' hs hv => ?_) (fun x hx => by cases hx)
    · cases x with
      | tmp t => cases hv
      | const c => exact ofValue_sound hv ι
      | global g => cases hv
      | func f => cases hv; simp only [VR, Act.eval]; exact ⟨[], [], VRs_nil, VRs_nil, rfl⟩
    · have hs2 : Step (· = base + 0) ι K w ι' K1 w' := by rw [p7]; exact hs.less vis0 (put_less _ _ _ w1)
      have hlt : ta < a.tmps.size := by rw [hasz]; exact hc.ltA
      have hl0 : Li (ls.setIfInBounds 0 true) 0 := (hLi 0).2 (.inl rfl)
      rw [p3]
      refine hG _ _ ι' K1 ⟨by simp [inv.sz], fun _ => hl0, fun _ => hl0, fun h => ?_, fun h => (h hl0).elim, fun _ _ => rfl, fun h _ => ?_, inv.st.trans (fun _ h => h) (fun b hb => by omega) hs2, fun t x h1 h2 hx => ?_, fun _ => ?_, fun h => ?_, hun' hs2, ?_, ?_⟩
      · rw [hLi] at h; rcases h with h | h
        · omega
        · exact (n3 h).elim
      · rw [hLi] at h; rcases h with h | h
        · omega
        · exact (n1 h).elim
      · obtain ⟨u, hu, r⟩ := inv.tm t x h1 h2 hx
        refine ⟨u, ?_, r.ext hs.ext⟩
        rw [Act.put_get hlt, if_neg h1]; exact hu
      · refine ⟨v', ?_, hv⟩
        rw [Act.put_get hlt, if_pos rfl]
      · rw [hLi] at h; rcases h with h | h
        · omega
        · exact (n3 h).elim
      · simp [Act.put, inv.asz]
      · exact inv.df
  | 3, _ =>
    obtain ⟨o, q1, q2, q3, q4, q5⟩ := hc.op3
    have l1 : Li ls 1 := hr o q1 1 ((q4 1).2 (by omega))
    have l2 : Li ls 2 := hr o q1 2 ((q4 2).2 (by omega))
    have l0 : Li ls 0 := inv.c1 l1
    have hK := inv.k2 l1 l2
    have hget : K.get base = some { cs := [.anyb], es := es, kind := .free } := by rw [hK, p8, Heap.get_put, if_pos rfl]
    unfold wpOp
    simp only [q1]
    rw [show Region.wanted o (yielded ops a.tmps) = true by unfold Region.wanted; rw [q2]]
    simp only [if_true]
    refine .inl ?_
    refine evOp_sound' hC hcall inv.st.wr (T := Tr.nil.set ta (.ptr base 0)) (fun x _ => hev l0 x) hid (by omega) (q5 call K _ _ _ hTa hget rfl rfl) (fun ι' v' w' hs hv => ?_) (fun x hx => by cases hx)
    have hlt : tr < a.tmps.size := by rw [hasz]; exact hc.ltR
    have h0' : Li (ls.setIfInBounds 3 true) 0 := (hLi 0).2 (.inr l0)
    have h1' : Li (ls.setIfInBounds 3 true) 1 := (hLi 1).2 (.inr l1)
    have h2' : Li (ls.setIfInBounds 3 true) 2 := (hLi 2).2 (.inr l2)
    rw [q3]
    refine hG _ _ ι' K ⟨by simp [inv.sz], fun _ => h0', fun _ => h0', fun _ => ⟨h1', h2'⟩, fun h => (h h0').elim, fun _ h => (h ⟨h1', h2'⟩).elim, fun _ _ => hK, inv.st.trans (fun _ h => h) (fun b hb => by omega) hs, fun t x g1 g2 hx => ?_, fun _ => ?_, fun _ => ?_, hun' hs, ?_, ?_⟩
    · obtain ⟨u, hu, r⟩ := inv.tm t x g1 g2 hx
      refine ⟨u, ?_, r.ext hs.ext⟩
      rw [Act.put_get hlt, if_neg g2]; exact hu
    · obtain ⟨u, hu, r⟩ := inv.tva l0
      refine ⟨u, ?_, r.ext hs.ext⟩
      rw [Act.put_get hlt, if_neg (Ne.symm hc.ne)]; exact hu
    · refine ⟨v', ?_, hv⟩
      rw [Act.put_get hlt, if_pos rfl]
    · simp [Act.put, inv.asz]
    · exact inv.df
end
end
end Go.Ev
/-! From what is shown in a plain frame to what holds in the frame of a round too. -/
namespace Go.Ev
noncomputable section
open Go Go.RowKit

/-- all is let in; the round that the frame is in -/
def Fr (ro : Option Nat) : Fence := { Fence.wide with round := ro }
theorem Fr_none : Fr none = Fence.wide := rfl
theorem calls_fr {P : Program} {ro : Option Nat} {n : Nat} {f : FuncId} {args : Array Value} {w : World} {R : Ending → World → Prop} (h : Calls P f args w R) : CallsIn (Fr ro) n P f args w R :=
  (callsIn_wide.2 h : CallsIn Fence.wide n P f args w R)
theorem fr_calls {P : Program} {ro : Option Nat} {n : Nat} {f : FuncId} {args : Array Value} {w : World} {R : Ending → World → Prop} (h : CallsIn (Fr ro) n P f args w R) : Calls P f args w R :=
  callsIn_wide.1 (show CallsIn Fence.wide n P f args w R from h)
theorem rows_fr {P : Program} {ro : Option Nat} {n : Nat} {row : String} {args : Array Value} {w : World} {R : Value → World → Prop} (h : Rows P row args w R) : RowsIn (Fr ro) n P row args w R := by
  intro c cs _
  obtain ⟨v, w', r, s⟩ := h c cs
  exact ⟨v, w', r, stepsIn_wide.2 s⟩

theorem opIn_of {P : Program} {ro : Option Nat} {o : Oper} {a : Act} {w : World} {K : Act → World → Prop} {Q : Exit → Act → World → Prop} (h : o.wp P a w K Q) (nd : ∀ c, o.op ≠ .defer c) : o.wpIn (Fr ro) 0 P a w K Q := by
  refine ⟨fun _ _ => trivial, ?_⟩
  rw [Oper.semAt_eq _ _ _ nd]
  unfold Oper.wp at h
  generalize (execOp a.eval o).run P w = r at h ⊢
  cases r with
  | ok nx w' =>
    cases nx <;> simp only [Oper.upon] at h <;> simp only [Oper.uponIn] <;> first
      | exact h
      | exact h.elim
      | exact ⟨(fun q => by cases q), calls_fr h⟩
      | exact ⟨(fun q => by cases q), rows_fr h⟩
  | halt x w' => cases x <;> simp only [Oper.upon] at h <;> simp only [Oper.uponIn] <;> first | exact h | exact h.elim

def ND (ops : Array Oper) : Prop := ∀ (i : Nat) (o : Oper), ops[i]? = some o → ∀ c, o.op ≠ .defer c
theorem noDefer_sound {ops : Array Oper} (h : noDefer ops = true) : ND ops := by
  intro i o ho c hc
  unfold noDefer at h
  rw [List.all_eq_true] at h
  have := h o (by rw [Array.mem_toList_iff]; exact Array.mem_of_getElem? ho)
  rw [hc] at this; cases this

theorem opsIn_of {P : Program} {ro : Option Nat} {ops : Array Oper} {Q : Exit → Act → World → Prop} (nd : ND ops) (hno : ∀ a w, ¬ Q .outgrown a w) : ∀ (l : List Nat) (a : Act) (w : World), wpOps P ops Q l a w → wpOpsIn (Fr ro) 0 P ops Q l a w
  | [], a, w, h => h
  | i :: l, a, w, h => by
    simp only [wpOps] at h
    simp only [wpOpsIn]
    split
    · rename_i e; rw [e] at h; exact opsIn_of nd hno l a w h
    · rename_i o e
      rw [e] at h
      simp only at h
      split
      · rename_i hw
        rw [if_pos hw] at h
        rcases h with h | ⟨_, a0, w0, h⟩
        · exact opIn_of (Oper.wp_mono (fun a w h => opsIn_of nd hno l a w h) h) (nd i o e)
        · exact (hno a0 w0 h).elim
      · rename_i hw
        rw [if_neg hw] at h
        exact ⟨fun _ _ => trivial, opsIn_of nd hno l _ _ h⟩
theorem anyIn_of {P : Program} {ro : Option Nat} {ops : Array Oper} {Q : Exit → Act → World → Prop} (nd : ND ops) (hno : ∀ a w, ¬ Q .outgrown a w) : ∀ (fuel : Nat) (ls : Array Bool) (a : Act) (w : World), wpAny P .any ops Q fuel ls a w → wpAnyIn (Fr ro) 0 P .any ops Q fuel ls a w
  | 0, ls, a, w, h => h
  | fuel + 1, ls, a, w, h => by
    refine ⟨h.1, fun i hi => ?_⟩
    have := h.2 i hi
    unfold wpOp at this
    unfold wpOpIn
    split
    · rename_i e; rw [e] at this; exact anyIn_of nd hno fuel _ _ _ this
    · rename_i o e
      rw [e] at this
      simp only at this
      split
      · rename_i hw
        rw [if_pos hw] at this
        rcases this with h | ⟨_, a0, w0, h⟩
        · exact opIn_of (Oper.wp_mono (fun a w h => anyIn_of nd hno fuel _ a w h) h) (nd i o e)
        · exact (hno a0 w0 h).elim
      · rename_i hw
        rw [if_neg hw] at this
        exact ⟨fun _ _ => trivial, anyIn_of nd hno fuel _ _ _ this⟩
end
end Go.Ev
/-! Calls of the function that a loop over a function hands out. -/
namespace Go.Ev
noncomputable section
open Go Go.RowKit
variable [Env]

/-- what a round of a loop comes to -/
def YSound (P : Program) (yc : YCall) (ro : Option Nat) : Prop := ∀ H b vs H', yc H b vs = some H' → ∀ (ι : Map) (w : World) (l : Loc) (args' : List Value), WR ι H w → ι b = some l → VRs ι vs args' →
  ∃ r, w.heap[l.blk]? = some (.loop r) ∧ args'.toArray.size = r.params.size ∧
    RoundIn (Fr ro) 0 P l.blk r.fn ((r.params.zip args'.toArray).foldl (fun tmps (t, a) => tmps.setIfInBounds t a) r.tmps) r.assign r.body w
      (fun e w' => e = .returned (.bool true) ∧ ∃ ι', Step Nope ι H w ι' H' w')
def YHeap (yc : YCall) : Prop := ∀ H b vs H', yc H b vs = some H' → HRel (fun _ => False) H H'

theorem yieldOf_sound {P : Program} {ι : Map} {s : St} {a : Act} {w : World} (hT : TR ι s.T a.tmps) {o : Oper} {b : Nat} {vs : List AV} (h : yieldOf s.T o = some (b, vs)) :
    (∃ c, o.op = .call c) ∧ ∃ l args', ι b = some l ∧ VRs ι vs args' ∧ ∀ r, w.heap[l.blk]? = some (.loop r) → args'.toArray.size = r.params.size →
      (execOp a.eval o).run P w = .ok (.round l.blk r.fn ((r.params.zip args'.toArray).foldl (fun tmps (t, a) => tmps.setIfInBounds t a) r.tmps) r.assign r.body) w := by
  unfold yieldOf at h
  split at h
  · rename_i c ho
    split at h
    · rename_i f hc
      split at h
      · rename_i b' e1
        split at h
        · rename_i vs' e2
          cases h
          have hf := ev_sound hT e1
          simp only [VR] at hf
          obtain ⟨l, hl, hfe⟩ := hf
          have hvs := evs_sound' (a := a) (fun x _ v hx => ev_sound hT hx) e2
          refine ⟨⟨c, ho⟩, l, _, hl, hvs, fun r hr hs => ?_⟩
          have hrun := run_yield (P := P) hr hs
          have harr : (c.args.map a.eval) = (c.args.toList.map a.eval).toArray := by apply Array.ext'; simp
          simp only [execOp, ho, resolve, hc, hfe, Deferred.ofValue, Sem.run_bind, Sem.run_pure, Result.andThen_ok, invoke, harr, Array.empty_append]
          exact hrun
        · cases h
      · cases h
    · cases h
  · cases h

section
variable {dd : List Deferred} {C : Ctx} {P : Program} (hC : C.Ok P)
include hC
theorem evOps_in {call : CallA} (hcall : CallSound P call) {yc : YCall} {ro : Option Nat} (hy : YSound P yc ro) {ops : Array Oper} (nd : ND ops) {base : Nat} {Q : Exit → Act → World → Prop} : ∀ (l : List Oper) (i : Nat) {ι : Map} {x : X} {s s' : St} {a : Act} {w : World},
    evOps C call yc ops base i l s = some (x, s') → (∀ k o, l[k]? = some o → ops[i + k]? = some o) → SR dd ι s a w → (∀ j, i ≤ j → j < i + l.length → ι (base + j) = none) → base + i + l.length ≤ s.H.next →
    (∀ ι' a' w' e, Step (fun b => base + i ≤ b) ι s.H w ι' s'.H w' → XR dd ι' x s' a' w' e → s'.N = s.N → Q e a' w') → wpOpsIn (Fr ro) 0 P ops Q (List.range' i l.length) a w
  | [], i, ι, x, s, s', a, w, h, _, hs, _, _, hQ => by
    simp only [evOps] at h; cases h
    exact hQ ι a w .normal (Step.refl hs.wr) ⟨rfl, hs⟩ rfl
  | o :: l, i, ι, x, s, s', a, w, h, hops, hs, hid, hle, hQ => by
    simp only [List.length_cons] at hid hle
    have hoi : ops[i]? = some o := hops 0 o rfl
    have hops' : ∀ k o', l[k]? = some o' → ops[i + 1 + k]? = some o' := fun k o' hk => by
      have := hops (k + 1) o' (by simpa using hk); rw [show i + 1 + k = i + (k + 1) by omega]; exact this
    simp only [List.length_cons, List.range'_succ, wpOpsIn, hoi]
    simp only [evOps, St.cut_eq, putA_eq, St.eta] at h
    split at h
    · cases h
    · -- not wanted
      rename_i hwt
      split at h
      · rename_i s1 e1
        obtain ⟨k1, k2, k3⟩ := put_sound (v' := undef) e1 hs (by simp only [VR, undefA, undef]; exact ⟨[], VRs_nil, rfl⟩)
        rw [wanted_sound hs.tr hwt]
        simp only [Bool.false_eq_true, if_false]
        refine ⟨fun _ _ => trivial, evOps_in hcall hy nd l (i + 1) h hops' k1 (fun j h1 h2 => hid j (by omega) (by omega)) (by rw [k2]; omega) fun ι' a' w' e q1 q2 q3 => ?_⟩
        rw [k2] at q1
        exact hQ ι' a' w' e (q1.weaken (fun b hb => by omega)) q2 (q3.trans k3)
      · cases h
    · -- wanted
      rename_i hwt
      rw [wanted_sound hs.tr hwt]
      simp only [if_true]
      -- on to the rest
      have rest : ∀ {v : AV} {H1 : Heap} {s1 : St}, ({ s with H := H1 } : St).put o.dst v = some s1 → evOps C call yc ops base (i + 1) l s1 = some (x, s') → ∀ (ι1 : Map) (v' : Value) (w1 : World), Step (· = base + i) ι s.H w ι1 H1 w1 → VR ι1 v v' →
          wpOpsIn (Fr ro) 0 P ops Q (List.range' (i + 1) l.length) (a.put o.dst v') w1 := by
        intro v H1 s1 e2 h ι1 v' w1 hst hv
        have hs1 : SR dd ι1 { s with H := H1 } a w1 := ⟨hst.wr, hs.tr.ext hst.ext, hs.size, hs.defers⟩
        obtain ⟨k1, k2, k3⟩ := put_sound e2 hs1 hv
        have hid' : ∀ j, i + 1 ≤ j → j < i + 1 + l.length → ι1 (base + j) = none := fun j h1 h2 => by
          cases e : ι1 (base + j) with
          | none => rfl
          | some q =>
            rcases hst.dom (base + j) (hid j (by omega) (by omega)) (by rw [e]; simp) with q | q
            · omega
            · omega
        have hnx := hst.next
        simp only at k2 k3
        refine evOps_in hcall hy nd l (i + 1) h hops' k1 hid' (by rw [k2]; omega) fun ι' a' w' e q1 q2 q3 => ?_
        rw [k2] at q1
        exact hQ ι' a' w' e (hst.trans (fun b hb => by omega) (fun b hb => by omega) q1) q2 (q3.trans k3)
      split at h
      · -- a round
        rename_i b vs e0
        split at h
        · rename_i H1 e1
          split at h
          · rename_i s1 e2
            obtain ⟨_, lc, args', hl, hvs, hrun⟩ := yieldOf_sound (P := P) (w := w) hs.tr e0
            obtain ⟨r, hr, hsz, hround⟩ := hy s.H b vs H1 e1 ι w lc args' hs.wr hl hvs
            refine ⟨fun _ _ => trivial, ?_⟩
            rw [Oper.semAt_eq _ _ _ (nd i o hoi), hrun r hr hsz, Oper.uponIn_round]
            refine ⟨(fun q => by cases q), hround.mono ?_⟩
            rintro e w' ⟨rfl, ι1, q1⟩
            exact rest e2 h ι1 (.bool true) w' (q1.weaken (fun _ q => q.elim)) (by simp only [VR])
          · cases h
        · cases h
      split at h
      · -- it panics
        rename_i y H1 e1
        cases h
        refine opIn_of (evOp_sound hC hcall hs.wr hs.tr (hid i (by omega) (by omega)) (by omega) e1 (fun ι1 v' w1 hst hv => (by simp only [VR] at hv)) fun z hz _ ι1 v' w1 hst hv => ?_) (nd i o hoi)
        cases hz
        exact hQ ι1 a w1 _ (hst.weaken (fun b hb => by omega)) ⟨v', rfl, hv, hst.wr, hs.tr.ext hst.ext, hs.size, hs.defers⟩ rfl
      · rename_i v H1 hno e1
        split at h
        · rename_i s1 e2
          exact opIn_of (evOp_sound hC hcall hs.wr hs.tr (hid i (by omega) (by omega)) (by omega) e1 (fun ι1 v' w1 hst hv => rest e2 h ι1 v' w1 hst hv) fun z hz => (hno z hz).elim) (nd i o hoi)
        · cases h
      · cases h

theorem region_in {call : CallA} (hcall : CallSound P call) {yc : YCall} {ro : Option Nat} (hy : YSound P yc ro) {ops : Array Oper} (nd : ND ops) {Q : Exit → Act → World → Prop} {ι : Map} {x : X} {s s' : St} {a : Act} {w : World}
    (h : evOps C call yc ops s.H.next 0 ops.toList { s with H := { s.H with next := s.H.next + ops.size } } = some (x, s')) (hs : SR dd ι s a w)
    (hQ : ∀ ι' a' w' e, Step Nope ι s.H w ι' s'.H w' → XR dd ι' x s' a' w' e → s'.N = s.N → Q e a' w') : wpOpsIn (Fr ro) 0 P ops Q (List.range ops.size) a w := by
  rw [List.range_eq_range', show ops.size = ops.toList.length by simp]
  have hs1 : SR dd ι { s with H := { s.H with next := s.H.next + ops.size } } a w := ⟨⟨hs.wr.obj, hs.wr.apart, fun b hb => hs.wr.new b (by have : s.H.next + ops.size ≤ b := hb; omega), hs.wr.vis, hs.wr.glob⟩, hs.tr, hs.size, hs.defers⟩
  refine evOps_in hC hcall hy nd ops.toList 0 h (fun k o hk => by rw [Nat.zero_add]; simpa using hk) hs1 (fun j _ _ => hs.wr.new _ (by omega)) (by simp) fun ι' a' w' e q1 q2 q3 => hQ ι' a' w' e ?_ q2 q3
  exact { ext := q1.ext, wr := q1.wr, next := Nat.le_trans (Nat.le_add_right _ _) q1.next, dom := fun b hb hn => by
            rcases q1.dom b hb hn with e | e
            · exact .inr (by omega)
            · exact .inr (by simp only at e; omega),
          keep := q1.keep, junk := q1.junk, os := q1.os, tape := q1.tape, output := q1.output, size := q1.size, stay := q1.stay, frame := q1.frame, fresh := q1.fresh }
end
end
end Go.Ev
/-! What loops over functions leave in a frame: marks; and their records. -/
namespace Go.Ev
noncomputable section
open Go Go.RowKit
variable [Env]

/-- what a frame's deferred calls are: marks of loops, and those that it had; lo: may there be marks; n0: where the frame's own blocks begin -/
def Marks (lo : Bool) (n0 : Nat) (w : World) (dd ds : List Deferred) : Prop :=
  n0 ≤ w.heap.size ∧ ∃ ms, ds = ms ++ dd ∧ (lo = false → ms = []) ∧ ms.Nodup ∧ ∀ m ∈ ms, ∃ r, n0 ≤ r ∧ m = { target := .collected r, args := #[] } ∧ w.heap[r]? = some (.deferred (some []))
omit [Env] in
theorem Marks.refl {lo : Bool} {n0 : Nat} {w : World} {dd : List Deferred} (h : n0 ≤ w.heap.size) : Marks lo n0 w dd dd := ⟨h, [], rfl, fun _ => rfl, List.nodup_nil, fun m hm => by simp at hm⟩
theorem hidden {ι : Map} {H : Heap} {w : World} (h : WR ι H w) {r : Nat} {ds : Option (List Deferred)} (hr : w.heap[r]? = some (.deferred ds)) : ∀ b l o, ι b = some l → H.get b = some o → l.blk ≠ r := by
  intro b l o hb ho e
  have hB := h.obj b l o hb ho
  rcases o.kind.three with hk | hk | ⟨st, L, hk⟩
  · obtain ⟨c, et, lo, hi, h1, _⟩ := hB.cells hk; rw [e, hr] at h1; cases h1
  · obtain ⟨es, clock, h1, _⟩ := hB.map hk; rw [e, hr] at h1; cases h1
  · obtain ⟨r', h1, _⟩ := hB.loop hk; rw [e, hr] at h1; cases h1
theorem Step.deferred {ids : Nat → Prop} {ι ι' : Map} {H H' : Heap} {w w' : World} (h : Step ids ι H w ι' H' w') (hw : WR ι H w) {r : Nat} {ds : Option (List Deferred)} (hr : w.heap[r]? = some (.deferred ds)) : w'.heap[r]? = some (.deferred ds) := by
  rw [h.frame r (Array.getElem?_eq_some_iff.1 hr).1 (fun b l o hb ho _ => hidden hw hr b l o hb ho)]; exact hr
theorem Marks.step {ids : Nat → Prop} {lo : Bool} {n0 : Nat} {ι ι' : Map} {H H' : Heap} {w w' : World} {dd ds : List Deferred} (m : Marks lo n0 w dd ds) (h : Step ids ι H w ι' H' w') (hw : WR ι H w) : Marks lo n0 w' dd ds := by
  obtain ⟨h0, ms, h1, h2, hd, h3⟩ := m
  refine ⟨Nat.le_trans h0 h.size, ms, h1, h2, hd, fun x hx => ?_⟩
  obtain ⟨r, k0, k1, k2⟩ := h3 x hx
  exact ⟨r, k0, k1, h.deferred hw k2⟩

def SM (lo : Bool) (n0 : Nat) (dd : List Deferred) (ι : Map) (s : St) (a : Act) (w : World) : Prop := ∃ ds, Marks lo n0 w dd ds ∧ SR ds ι s a w
def XM (lo : Bool) (n0 : Nat) (dd : List Deferred) (ι : Map) (x : X) (s : St) (a : Act) (w : World) (e : Exit) : Prop := ∃ ds, Marks lo n0 w dd ds ∧ XR ds ι x s a w e
theorem SM.wr {lo : Bool} {n0 : Nat} {dd : List Deferred} {ι : Map} {s : St} {a : Act} {w : World} (h : SM lo n0 dd ι s a w) : WR ι s.H w := by obtain ⟨_, _, h⟩ := h; exact h.wr
theorem SM.tr {lo : Bool} {n0 : Nat} {dd : List Deferred} {ι : Map} {s : St} {a : Act} {w : World} (h : SM lo n0 dd ι s a w) : TR ι s.T a.tmps := by obtain ⟨_, _, h⟩ := h; exact h.tr
theorem SM.same {lo : Bool} {n0 : Nat} {dd : List Deferred} {ι : Map} {s s' : St} {a : Act} {w : World} (h : SM lo n0 dd ι s a w) (h1 : WR ι s'.H w) (h2 : s'.T = s.T) (h3 : s'.N = s.N) : SM lo n0 dd ι s' a w := by
  obtain ⟨ds, m, h⟩ := h; exact ⟨ds, m, h1, by rw [h2]; exact h.tr, by rw [h3]; exact h.size, h.defers⟩

/-- the round's record is known -/
def RoOk (ro : Option Nat) (ι : Map) (H : Heap) : Prop := ∀ l0, ro = some l0 → ∃ b l o, ι b = some l ∧ l.blk = l0 ∧ H.get b = some o ∧ o.kind.isLoop = true
theorem RoOk.step {ids : Nat → Prop} {ro : Option Nat} {ι ι' : Map} {H H' : Heap} {w w' : World} (r : RoOk ro ι H) (h : Step ids ι H w ι' H' w') : RoOk ro ι' H' := by
  intro l0 e
  obtain ⟨b, l, o, h1, h2, h3, h4⟩ := r l0 e
  cases g : H'.get b with
  | none => exact (h.keep b (by rw [h3]; simp) g).elim
  | some o' => exact ⟨b, l, o', h.ext b l h1, h2, g, (h.stay b l o o' h1 h3 g).2 h4⟩
omit [Env] in
theorem isLoop_ex {k : Kind} (h : k.isLoop = true) : ∃ st L, k = .loop st L := by cases k <;> first | exact ⟨_, _, rfl⟩ | cases h

/-- a loop's record comes into another state -/
theorem step_loop {ids : Nat → Prop} {ι : Map} {H : Heap} {w : World} {b : Nat} {l : Loc} {o : Obj} {st q : LState} {L : LoopA} (hw : WR ι H w) (hb : ι b = some l) (ho : H.get b = some o) (hk : o.kind = .loop st L) {r : Loop} (hr : LoopR ι (w.putObj l.blk (.loop r)) l q L) :
    Step ids ι H w ι (H.write b { o with kind := .loop q L }) (w.putObj l.blk (.loop r)) := by
  have hlt := (hw.obj b l o hb ho).lt
  have hother : ∀ k, k ≠ l.blk → (w.putObj l.blk (.loop r)).heap[k]? = w.heap[k]? := fun k h => World.putObj_heap_other h
  have hf : o.kind.isFree = true := by rw [hk]; rfl
  refine ⟨Ext.refl _, ⟨?_, ?_, hw.new, ?_, hw.glob⟩, Nat.le_refl _, fun _ h k => (k h).elim, ?_, ?_, rfl, rfl, rfl, by simp, fun b1 l1 o1 o' _ g g' => ?_, ?_, fun _ _ h k => by rw [h] at k; cases k⟩
  · intro b1 l1 o1 e1 g1
    rw [Heap.get_write] at g1
    by_cases q1 : b1 = b
    · subst q1
      rw [hb] at e1; cases e1
      rw [if_pos rfl] at g1; cases g1
      exact .of_loop rfl hr
    · rw [if_neg q1] at g1
      have hne : l1.blk ≠ l.blk := fun e => by
        have := (hw.apart b1 b l1 l o1 o q1 e1 hb g1 ho e).2.1
        rw [hf] at this; cases this
      exact (hw.obj b1 l1 o1 e1 g1).mono (Ext.refl _) (hother _ hne)
  · intro b1 b2 l1 l2 o1 o2 hne e1 e2 g1 g2 heq
    rw [Heap.get_write] at g1 g2
    by_cases q1 : b1 = b
    · have q2 : b2 ≠ b := fun e => hne (q1.trans e.symm)
      subst q1
      rw [if_neg q2] at g2
      have := (hw.apart b1 b2 l1 l2 o o2 hne e1 e2 ho g2 heq).1
      rw [hf] at this; cases this
    · rw [if_neg q1] at g1
      by_cases q2 : b2 = b
      · subst q2
        have := (hw.apart b1 b2 l1 l2 o1 o hne e1 e2 g1 ho heq).2.1
        rw [hf] at this; cases this
      · rw [if_neg q2] at g2; exact hw.apart b1 b2 l1 l2 o1 o2 hne e1 e2 g1 g2 heq
  · intro b1 l1 hb1; rw [Heap.get_write]; split
    · simp
    · exact hw.vis b1 l1 hb1
  · intro b1 h; rw [Heap.get_write]; split
    · simp
    · exact h
  · intro b1 l1 e1 h; rw [Heap.get_write] at h
    by_cases q1 : b1 = b
    · subst q1; rw [ho]; simp
    · simpa [q1] using h
  · rw [Heap.get_write] at g'
    by_cases q1 : b1 = b
    · rw [if_pos q1] at g'; cases g'
      rw [q1, ho] at g; cases g
      exact ⟨(fun h => by rw [hk] at h; cases h), fun _ => rfl⟩
    · rw [if_neg q1, g] at g'; cases g'; exact ⟨fun h => h, fun h => h⟩
  · intro k hk' hfr
    exact hother k (fun e => hfr b l o hb ho (by rw [hk]; rfl) e.symm)
omit [Env] in
theorem setLoop_eq {H H' : Heap} {b : Nat} {p q : LState} (h : setLoop H b p q = some H') : ∃ o L, H.get b = some o ∧ o.kind = .loop p L ∧ H' = H.write b { o with kind := .loop q L } := by
  unfold setLoop at h
  split at h
  · rename_i o ho
    split at h
    · rename_i st L hk
      obtain ⟨e, h⟩ := bound_of_cond h
      cases h
      have : st = p := by cases st <;> cases p <;> first | rfl | cases e
      subst this
      exact ⟨o, L, ho, hk, rfl⟩
    · cases h
  · cases h
omit [Env] in
theorem setLoop_heap {H H' : Heap} {b : Nat} {p q : LState} (h : setLoop H b p q = some H') : HRel (fun _ => False) H H' := by
  obtain ⟨o, L, ho, _, rfl⟩ := setLoop_eq h
  refine ⟨Nat.le_refl _, fun c hc hn => ?_, ⟨[b], rfl, fun c hc hn => ?_⟩, fun c hc => ?_⟩
  · rw [Heap.get_write] at hn
    by_cases e : c = b
    · rw [e, ho] at hc; cases hc
    · rw [if_neg e] at hn; exact (hn hc).elim
  · rw [Heap.get_write, if_neg (by simpa using hn)]
  · rw [Heap.get_write]; split
    · simp
    · exact hc
omit [Env] in
theorem round_heap {run : Code → St → Option (X × St)} (hr : ∀ c s x s', run c s = some (x, s') → HRel (fun _ => False) s.H s'.H) : YHeap (roundA run) := by
  intro H b vs H' h
  unfold roundA at h
  split at h
  · split at h
    · obtain ⟨_, h⟩ := bound_of_cond h
      split at h
      · rename_i s1 e1
        split at h
        · rename_i H1 e2
          split at h
          · rename_i s2 e3
            exact (hr _ _ _ _ e1).trans (ids := fun _ => False) (fun _ h => h) (fun _ h => h) ((setLoop_heap e2).trans (ids := fun _ => False) (fun _ h => h) (fun _ h => h) ((hr _ _ _ _ e3).trans (ids := fun _ => False) (fun _ h => h) (fun _ h => h) (setLoop_heap h)))
          · cases h
        · cases h
      · cases h
    · cases h
  · cases h
/-- the parameters of a round -/
theorem enterP_tr {ι : Map} : ∀ {ps : List Nat} {vs : List AV} {args : List Value} {T : Tr AV} {tmps : Array Value}, TR ι T tmps → VRs ι vs args → allBelow tmps.size ps = true → vs.length = ps.length →
    TR ι (enterP ps vs T) ((ps.zip args).foldl (fun t (p, v) => t.setIfInBounds p v) tmps) ∧ ((ps.zip args).foldl (fun t (p, v) => t.setIfInBounds p v) tmps).size = tmps.size
  | [], vs, args, T, tmps, h, hv, _, hl => by
    cases vs with
    | nil => exact ⟨h, rfl⟩
    | cons v vs => cases hl
  | p :: ps, [], args, T, tmps, h, hv, _, hl => by cases hl
  | p :: ps, v :: vs, args, T, tmps, h, hv, hb, hl => by
    simp only [VRs] at hv
    obtain ⟨y, ys, hy, hys, rfl⟩ := hv
    simp only [allBelow, Bool.and_eq_true, Nat.blt_eq] at hb
    have h1 : TR ι (T.set p v) (tmps.setIfInBounds p y) := by
      intro t x ht
      rw [Tr.get_set] at ht
      by_cases e : t = p
      · subst e
        rw [if_pos rfl] at ht; cases ht
        exact ⟨y, by simp [hb.1], hy⟩
      · rw [if_neg e] at ht
        obtain ⟨u, hu, r⟩ := h t x ht
        exact ⟨u, by rw [Array.getElem?_setIfInBounds_ne (Ne.symm e)]; exact hu, r⟩
    have h2 := enterP_tr (ps := ps) (vs := vs) (args := ys) h1 hys (by simpa using hb.2) (by simpa using hl)
    simp only [enterP, List.zip_cons_cons, List.foldl_cons]
    exact ⟨h2.1, by rw [h2.2]; simp⟩
/-- a hidden block of the frame's own turns -/
theorem Step.late {ids : Nat → Prop} {ι ι' : Map} {H H' : Heap} {w w' : World} (h : Step ids ι H w ι' H' w') {r : Nat} {ds : Option (List Deferred)} (hr : w'.heap[r]? = some (.deferred ds)) (hn : w.heap.size ≤ r) (o : Go.Obj) : Step ids ι H w ι' H' (w'.putObj r o) := by
  have hoth : ∀ k, k ≠ r → (w'.putObj r o).heap[k]? = w'.heap[k]? := fun k h => World.putObj_heap_other h
  refine ⟨h.ext, ⟨fun b l o1 hb ho => (h.wr.obj b l o1 hb ho).mono (Ext.refl _) (hoth _ (hidden h.wr hr b l o1 hb ho)), h.wr.apart, h.wr.new, h.wr.vis, h.wr.glob⟩, h.next, h.dom, h.keep, h.junk, h.os, h.tape, h.output, by simp; exact h.size, h.stay, fun c hc hf => ?_, h.fresh⟩
  rw [hoth c (by omega)]
  exact h.frame c hc hf
/-- the marks are come to: nothing was deferred in a round -/
theorem leavesM {P : Program} {n : Nat} {fn : Func} {tmps : Array Value} {R : Ending → World → Prop} {ids : Nat → Prop} {ι ι' : Map} {H H' : Heap} {w : World} {u : FrameMode} (hu : u ≠ .run) : ∀ (ms : List Deferred) (w' : World), ms.Nodup → (∀ m ∈ ms, ∃ r, w.heap.size ≤ r ∧ m = { target := .collected r, args := #[] } ∧ w'.heap[r]? = some (.deferred (some []))) →
    Step ids ι H w ι' H' w' → (∀ w'', Step ids ι H w ι' H' w'' → LeavesIn (Fr none) n P fn tmps R [] u w'') → LeavesInM (Fr none) n P fn tmps R ms u w'
  | [], w', _, _, h, k => k w' h
  | m :: ms, w', hd, hm, h, k => by
    obtain ⟨r, h1, h2, h3⟩ := hm m (by simp)
    rw [List.nodup_cons] at hd
    refine ⟨hu, .inl ⟨r, w'.putObj r (.deferred none), by rw [h2], run_takeDeferred h3, leavesM hu ms _ hd.2 (fun x hx => ?_) (h.late h3 h1 _) k⟩⟩
    obtain ⟨q, q1, q2, q3⟩ := hm x (by simp [hx])
    refine ⟨q, q1, q2, ?_⟩
    rw [World.putObj_heap_other (fun e => hd.1 (by rw [h2, ← e, ← q2]; exact hx))]
    exact q3
end
end Go.Ev
namespace Go.Ev
noncomputable section
open Go Go.RowKit
variable [Env]

/-! ### how many are still to come -/
def cnt (n : Nat) (ls : Array Bool) : Nat := (List.range n).countP fun i => !ls.getD i false
omit [Env] in
theorem countP_less (p q : Nat → Bool) (i : Nat) : ∀ l : List Nat, l.Nodup → i ∈ l → p i = true → (∀ j, q j = (p j && !decide (j = i))) → l.countP q + 1 = l.countP p
  | [], _, hi, _, _ => by simp at hi
  | j :: l, hn, hi, hp, hq => by
    rw [List.nodup_cons] at hn
    by_cases e : j = i
    · subst e
      have h1 : l.countP q = l.countP p := List.countP_congr fun x hx => by
        have : x ≠ j := fun e => hn.1 (by rw [← e]; exact hx)
        simp [hq, this]
      simp [hq j, hp, h1]
    · have hi' : i ∈ l := by
        rcases List.mem_cons.1 hi with h | h
        · exact (e h.symm).elim
        · exact h
      have ih := countP_less p q i l hn.2 hi' hp hq
      have : q j = p j := by simp [hq, e]
      simp only [List.countP_cons, this]
      omega
omit [Env] in
theorem cnt_set {n : Nat} {ls : Array Bool} (hs : ls.size = n) {i : Nat} (hi : i < n) (hu : ¬ Li ls i) : cnt n (ls.setIfInBounds i true) + 1 = cnt n ls := by
  unfold cnt
  refine countP_less _ _ i _ List.nodup_range (by simpa using hi) (by unfold Li at hu; simpa using hu) fun j => ?_
  by_cases e : j = i
  · subst e
    have : Li (ls.setIfInBounds j true) j := (Li_set (by omega)).2 (.inl rfl)
    unfold Li at this
    rw [this]; simp
  · rw [Array.getD_eq_getD_getElem?, Array.getD_eq_getD_getElem?, Array.getElem?_setIfInBounds_ne (Ne.symm e)]
    simp [e]
omit [Env] in
theorem cnt_zero {n : Nat} {ls : Array Bool} (h : cnt n ls = 0) (i : Nat) (hi : i < n) : Li ls i := by
  unfold cnt at h
  rw [List.countP_eq_zero] at h
  have := h i (by simpa using hi)
  unfold Li
  simpa using this

section
variable {dd : List Deferred} {C : Ctx} {P : Program} (hC : C.Ok P) {call : CallA} (hcall : CallSound P call) (hheap : CallHeap call) {ops : Array Oper} {base : Nat} {pn : Option (Nat × AV)} {ord : List Nat} {lo : Option Nat} {S : Nat → St} {F : Nat → Info}
  (ch : Chain C call ops base pn ord lo S F) {ι0 : Map} {H0 : Heap} {w0 : World} {Q : Exit → Act → World → Prop}

include ch
theorem Inv.done {ls : Array Bool} {a : Act} {w : World} {ι : Map} {q : Nat} {fl : Bool} {Kh : Heap} (inv : Inv dd C call ops base pn ord lo S F ι0 H0 w0 ls a w ι q fl Kh) (hall : ∀ i, i < ops.size → Li ls i) :
    pn = none ∧ Step (fun b => base ≤ b) ι0 H0 w0 ι (S ops.size).H w ∧ SR dd ι (S ops.size) a w := by
  have hpn : pn = none := by
    cases hpn : pn with
    | none => rfl
    | some px =>
      obtain ⟨i0, x0⟩ := px
      obtain ⟨p, _, _, p1, _⟩ := ch.panic i0 x0 hpn
      exact (inv.np i0 x0 hpn (hall i0 (ch.static.lt p i0 p1))).elim
  refine ⟨hpn, ?_⟩
  have hq : q = ops.size := by
    rcases inv.q2 with h | ⟨j, hj, hj3⟩
    · exact h
    · have := (inv.q3 q j hj hj3).1 (hall j (ch.static.lt q j hj))
      rcases this with h | ⟨_, h⟩ <;> omega
  subst hq
  have hk : Kh = (S ops.size).H := by
    rcases inv.kk with ⟨_, h⟩ | ⟨_, hlo, _⟩
    · exact h
    · have := (ch.static.loose _ hlo).1; omega
  subst hk
  refine ⟨inv.st, inv.st.wr, fun t x hx => inv.tm t ops.size x (Nat.le_refl _) (fun p i hp _ => ⟨fun _ => by have := (List.getElem?_eq_some_iff.1 hp).1; rw [ch.static.len] at this; exact this, fun _ => hall i (ch.static.lt p i hp)⟩) hx, ?_, inv.df⟩
  rw [inv.asz, ch.N (Nat.le_refl _)]
theorem Inv.all {ls : Array Bool} {a : Act} {w : World} {ι : Map} {q : Nat} {fl : Bool} {Kh : Heap} (inv : Inv dd C call ops base pn ord lo S F ι0 H0 w0 ls a w ι q fl Kh) (hr : Region.ready .any ops ls = []) : ∀ i, i < ops.size → Li ls i := by
  have key : ∀ (n p i : Nat), p < n → ord[p]? = some i → Li ls i := by
    intro n
    induction n with
    | zero => intro p i h; omega
    | succ n ih =>
      intro p i hp hi
      by_cases hl : Li ls i
      · exact hl
      · exfalso
        have hil := ch.static.lt p i hi
        have hpp := ch.static.pos p i hi
        have hmem : i ∈ Region.ready .any ops ls := by
          rw [mem_ready]
          have hsz : i < ls.size := by rw [inv.sz]; exact hil
          refine ⟨?_, ops[i], by simp [hil], fun e he hb => ?_⟩
          · unfold Li at hl
            rw [Array.getD_eq_getD_getElem?] at hl ⊢
            simp [hsz] at hl ⊢; exact hl
          · obtain ⟨h1, h2⟩ := ch.static.edge i ops[i] (by simp [hil]) e he hb
            exact ih (posOf ord e.on) e.on (by omega) (ch.static.ex e.on h1)
        rw [hr] at hmem; cases hmem
  intro i hi
  exact key (posOf ord i + 1) (posOf ord i) i (by omega) (ch.static.ex i hi)

include hC hcall hheap
theorem draw_any : ∀ (fuel : Nat) (ls : Array Bool) (a : Act) (w : World) (ι : Map) (q : Nat) (fl : Bool) (Kh : Heap), Inv dd C call ops base pn ord lo S F ι0 H0 w0 ls a w ι q fl Kh → cnt ops.size ls = fuel →
    (∀ ι' a' w', pn = none → Step (fun b => base ≤ b) ι0 H0 w0 ι' (S ops.size).H w' → SR dd ι' (S ops.size) a' w' → Q .normal a' w') →
    (∀ i x, pn = some (i, x) → ∀ ι' a' w' x', Step (fun b => base ≤ b) ι0 H0 w0 ι' (S ops.size).H w' → VR ι' x x' → a'.defers = dd → a'.tmps.size = (S 0).N → (∀ t y, (∀ j, dstAt ops j ≠ some t) → (S 0).T.get t = some y → ∃ u, a'.tmps[t]? = some u ∧ VR ι' y u) → Q (.panic [{ v := x', recovered := false }]) a' w') → wpAny P .any ops Q fuel ls a w
  | 0, ls, a, w, ι, q, fl, Kh, inv, hc, hQ, hP => by
    have hall := fun i hi => cnt_zero hc i hi
    refine ⟨?_, ?_⟩
    · apply List.eq_nil_iff_forall_not_mem.2
      intro i hi
      rw [mem_ready] at hi
      obtain ⟨h1, o, ho, _⟩ := hi
      have hil := (Array.getElem?_eq_some_iff.1 ho).1
      have := hall i hil
      unfold Li at this
      have hsz : i < ls.size := by rw [inv.sz]; exact hil
      rw [Array.getD_eq_getD_getElem?] at h1 this
      simp [hsz] at h1 this
      rw [h1] at this; cases this
    · obtain ⟨h0, h1, h2⟩ := inv.done ch hall
      exact hQ ι a w h0 h1 h2
  | fuel + 1, ls, a, w, ι, q, fl, Kh, inv, hc, hQ, hP => by
    refine ⟨fun hr => ?_, fun i hi => ?_⟩
    · obtain ⟨h0, h1, h2⟩ := inv.done ch (inv.all ch hr)
      exact hQ ι a w h0 h1 h2
    · rw [mem_ready] at hi
      obtain ⟨h1, o, ho, he⟩ := hi
      have hil := (Array.getElem?_eq_some_iff.1 ho).1
      have hun : ¬ Li ls i := by
        have hsz : i < ls.size := by rw [inv.sz]; exact hil
        unfold Li
        rw [Array.getD_eq_getD_getElem?] at h1 ⊢
        simp [hsz] at h1 ⊢; exact h1
      refine inv.run hC hcall hheap ch hil hun (fun o' ho' e he' hb => ?_) (fun a' w' ι' q' fl' K' inv' => ?_) (fun x hx => hP i x hx)
      · rw [ho] at ho'; cases ho'
        exact he e he' hb
      · exact draw_any fuel _ a' w' ι' q' fl' K' inv' (by have := cnt_set inv.sz hil hun; omega) hQ hP
end


omit [Env] in
theorem one_heap {call : CallA} (hheap : CallHeap call) {C : Ctx} {ops : Array Oper} {base i : Nat} {s s' : St} {f : Info} {o : Oper} {v : AV} {H' : Heap} {pn : Option (Nat × AV)} (h : One C call ops base pn i s s' f o v H') (hlog : s.H.log = []) :
    s.H.next ≤ s'.H.next ∧ (∀ b, s.H.get b = none → s'.H.get b ≠ none → b = base + i ∨ (s.H.next ≤ b ∧ b < s'.H.next)) ∧ (∀ b, s.H.get b ≠ none → s'.H.get b ≠ none) ∧
    ∀ b, s.H.get b ≠ none → b ∉ f.wr → s'.H.get b = s.H.get b := by
  rcases h.how with ⟨_, _, rfl, hf⟩ | ⟨_, hev, hf⟩
  · exact ⟨by rw [h.next]; exact Nat.le_refl _, fun b hb hn => by rw [h.get] at hn; exact (hn hb).elim, fun b hb => by rw [h.get]; exact hb, fun b _ _ => h.get b⟩
  · have hr := evOp_heap hheap hev
    have hno3 : clsOf o ≠ 3 → ∀ b, s.H.get b ≠ none → H'.get b = s.H.get b := by
      intro hne
      have hc : clsOf o = 0 ∨ clsOf o = 1 ∨ clsOf o = 2 := by
        have : clsOf o ≤ 3 := by unfold clsOf; split <;> omega
        omega
      rcases hc with hc | hc | hc
      · obtain ⟨rfl, _⟩ := loc0 hc hev; exact fun _ _ => rfl
      · obtain ⟨ob, ha, _⟩ := loc1 hc hev
        obtain ⟨h0, rfl⟩ := Heap.add_eq ha
        exact fun b hb => by rw [Heap.get_put, if_neg (fun e => hb (by rw [e]; exact h0))]
      · obtain ⟨rfl, _⟩ := loc2 (base := base) (i := i) hc hev; exact fun _ _ => rfl
    refine ⟨by rw [h.next]; exact hr.next, fun b hb hn => by rw [h.get] at hn; rw [h.next]; exact hr.made b hb hn, fun b hb => by rw [h.get]; exact hr.keep b hb, fun b hb hn => ?_⟩
    rw [h.get]
    by_cases hc : clsOf o = 3
    · obtain ⟨l, e1, e2⟩ := hr.log
      rw [hlog, List.append_nil] at e1
      refine e2 b hb ?_
      rw [hf, hc] at hn
      simpa [e1] using hn
    · exact hno3 hc b hb

omit [Env] in
theorem evDead_heap {ops : Array Oper} : ∀ (l : List Nat) (s s' : St) (fs : List (Nat × Info)), evDead ops l s = some (s', fs) → s'.H = s.H
  | [], s, s', fs, h => by simp only [evDead] at h; cases h; rfl
  | j :: l, s, s', fs, h => by
    simp only [evDead] at h
    split at h
    · split at h
      · rename_i s1 e1
        split at h
        · rename_i s2 fs2 e2
          cases h
          rw [evDead_heap l s1 _ fs2 e2, (put_facts e1).1]
        · cases h
      · cases h
    · cases h
omit [Env] in
omit [Env] in
theorem evOpsD_heap {call : CallA} (hheap : CallHeap call) {C : Ctx} {ops : Array Oper} {base : Nat} {ms : List Nat} : ∀ (l : List Nat) (s s' : St) (fs : List (Nat × Info)) (r : Option (Nat × AV)), evOpsD C call ops base ms l s = some (s', fs, r) → s.H.log = [] → (∀ i ∈ l, i < ops.size) →
    s.H.next ≤ s'.H.next ∧ (∀ b, s.H.get b = none → s'.H.get b ≠ none → (base ≤ b ∧ b < base + ops.size) ∨ (s.H.next ≤ b ∧ b < s'.H.next)) ∧ (∀ b, s.H.get b ≠ none → s'.H.get b ≠ none) ∧
    ∀ b, s.H.get b ≠ none → b ∉ fs.flatMap (fun x => x.2.wr) → s'.H.get b = s.H.get b
  | [], s, s', fs, r, h, _, _ => by
    simp only [evOpsD] at h; cases h
    exact ⟨Nat.le_refl _, fun b h k => (k h).elim, fun _ h => h, fun _ _ _ => rfl⟩
  | i :: l, s, s', fs, r, h, hlog, hlt => by
    simp only [evOpsD] at h
    split at h
    · rename_i s1 f x e1
      obtain ⟨_, h⟩ := bound_of_cond h
      split at h
      · rename_i s2 fs2 e2
        cases h
        obtain ⟨o, v, H', one, _⟩ := one_of e1 (pn := some (i, x)) (fun y hy => by cases hy; rfl)
        obtain ⟨a1, a2, a3, a4⟩ := one_heap hheap one hlog
        have hd := evDead_heap l s1 _ fs2 e2
        have hi := hlt i (by simp)
        rw [hd]
        refine ⟨a1, fun b hb hn => ?_, a3, fun b hb hn => ?_⟩
        · rcases a2 b hb hn with q | q
          · exact .inl (by omega)
          · exact .inr q
        · simp only [List.flatMap_cons, List.mem_append, not_or] at hn
          exact a4 b hb hn.1
      · cases h
    · rename_i s1 f e1
      split at h
      · rename_i s2 fs2 r2 e2
        cases h
        obtain ⟨o, v, H', one, _⟩ := one_of e1 (pn := none) (fun y hy => by cases hy)
        obtain ⟨a1, a2, a3, a4⟩ := one_heap hheap one hlog
        obtain ⟨b1, b2, b3, b4⟩ := evOpsD_heap hheap l s1 _ fs2 _ e2 (one.log hlog) (fun j hj => hlt j (by simp [hj]))
        have hi := hlt i (by simp)
        refine ⟨Nat.le_trans a1 b1, fun b hb hn => ?_, fun b hb => b3 b (a3 b hb), fun b hb hn => ?_⟩
        · by_cases e : s1.H.get b = none
          · rcases b2 b e hn with q | q
            · exact .inl q
            · exact .inr ⟨Nat.le_trans a1 q.1, q.2⟩
          · rcases a2 b hb e with q | q
            · exact .inl (by omega)
            · exact .inr ⟨q.1, Nat.lt_of_lt_of_le q.2 b1⟩
        · simp only [List.flatMap_cons, List.mem_append, not_or] at hn
          rw [b4 b (a3 b hb) hn.2, a4 b hb hn.1]
      · cases h
    · cases h

omit [Env] in
theorem evOps_heap {call : CallA} (hheap : CallHeap call) {yc : YCall} (hy : YHeap yc) {C : Ctx} {ops : Array Oper} {base n : Nat} : ∀ (l : List Oper) (i : Nat) (s : St) (x : X) (s' : St), evOps C call yc ops base i l s = some (x, s') → i + l.length ≤ n → HRel (fun b => base ≤ b ∧ b < base + n) s.H s'.H
  | [], i, s, x, s', h, _ => by simp only [evOps] at h; cases h; exact HRel.refl _
  | o :: l, i, s, x, s', h, hn => by
    simp only [List.length_cons] at hn
    simp only [evOps, St.cut_eq, putA_eq, St.eta] at h
    split at h
    · cases h
    · split at h
      · rename_i s1 e1
        have k := (put_facts e1).1
        have := evOps_heap (n := n) hheap hy l (i + 1) s1 x s' h (by omega)
        rw [k] at this; exact this
      · cases h
    · split at h
      · split at h
        · rename_i H1 e1
          split at h
          · rename_i s1 e2
            have k := (put_facts e2).1
            have := evOps_heap (n := n) hheap hy l (i + 1) s1 x s' h (by omega)
            rw [k] at this
            exact (hy _ _ _ _ e1).trans (fun _ h => h.elim) (fun _ h => h) this
          · cases h
        · cases h
      split at h
      · rename_i y H1 e1
        cases h
        exact (evOp_heap hheap e1).trans (fun b hb => by omega) (fun _ h => h) (HRel.refl _)
      · rename_i v H1 _ e1
        split at h
        · rename_i s1 e2
          have k := (put_facts e2).1
          have := evOps_heap (n := n) hheap hy l (i + 1) s1 x s' h (by omega)
          rw [k] at this
          exact (evOp_heap hheap e1).trans (fun b hb => by omega) (fun _ h => h) this
        · cases h
      · cases h

omit [Env] in
theorem coin_heap {C : Ctx} {ops : Array Oper} {s s' : St} (h : coinA C ops s = some s') : HRel (fun _ => False) s.H s'.H := by
  obtain ⟨ta, tr, Hn, K1, K2, hc, e1, _, _⟩ := coin_of h
  obtain ⟨o, z, es, _, _, _, _, _, _, _, p8⟩ := hc.op0
  rw [e1, p8, hc.hn]
  refine ⟨show s.H.next ≤ s.H.next + 4 by omega, fun b hb hn => .inr ?_, ⟨[], rfl, fun b hb _ => ?_⟩, fun b hb => ?_⟩
  · rw [Heap.get_put] at hn
    by_cases e : b = s.H.next
    · show s.H.next ≤ b ∧ b < s.H.next + 4; omega
    · rw [if_neg e] at hn; exact (hn hb).elim
  · rw [Heap.get_put]
    by_cases e : b = s.H.next
    · rw [e] at hb; exact (hb hc.free).elim
    · rw [if_neg e]; rfl
  · rw [Heap.get_put]
    by_cases e : b = s.H.next
    · rw [if_pos e]; simp
    · rw [if_neg e]; exact hb

omit [Env] in
theorem evCode_heap {call : CallA} (hheap : CallHeap call) {C : Ctx} : ∀ n : Nat, (∀ (c : Code) (s : St) (x : X) (s' : St), evCode C call n c s = some (x, s') → HRel (fun _ => False) s.H s'.H) ∧
    (∀ (c : Code) (s : St) (x : X) (s' : St), evLoop C call n c s = some (x, s') → HRel (fun _ => False) s.H s'.H)
  | 0 => ⟨fun c s x s' h => by simp [evCode] at h, fun c s x s' h => by simp [evLoop] at h⟩
  | n + 1 => by
    obtain ⟨ihc, ihl⟩ := evCode_heap hheap (C := C) n
    refine ⟨fun c s x s' h => ?_, fun c s x s' h => ?_⟩
    · cases c <;> simp only [evCode, St.cut_eq] at h <;> try (cases h; done)
      case skip => cases h; exact HRel.refl _
      case label l => cases h; exact HRel.refl _
      case ret => cases h; exact HRel.refl _
      case exit id => cases h; exact HRel.refl _
      case region id ops draw =>
        obtain ⟨_, h⟩ := bound_of_cond h
        cases draw with
        | false =>
          simp only at h
          have hr := evOps_heap hheap (round_heap ihc) (n := ops.size) ops.toList 0 _ _ s' h (by simp)
          refine ⟨Nat.le_trans (Nat.le_add_right _ _) hr.next, fun b hb hn => .inr ?_, hr.log, hr.keep⟩
          have hnx : s.H.next + ops.size ≤ s'.H.next := hr.next
          rcases hr.made b hb hn with e | e
          · omega
          · have : s.H.next + ops.size ≤ b := e.1
            exact ⟨by omega, e.2⟩
        | true =>
          simp only at h
          split at h
          · rename_i s1 e1
            cases h
            exact coin_heap e1
          · rename_i e1
            clear e1
            have e1 := h
            unfold evDraw at e1
            obtain ⟨hst, e1⟩ := bound_of_cond e1
            split at e1
            · rename_i s2 fs r e2
              obtain ⟨_, e1⟩ := bound_of_cond e1
              have hH : s'.H = { s2.H with log := fs.flatMap (fun x => x.2.wr) ++ s.H.log } := by
                cases r with
                | none => cases e1; rfl
                | some px => cases e1; rfl
              clear e1
              rw [hH]
              have static := static_sound hst
              obtain ⟨b1, b2, b3, b4⟩ := evOpsD_heap hheap _ _ _ _ _ e2 rfl (fun i hi => by
                obtain ⟨p, hp⟩ := List.getElem?_of_mem hi
                exact static.lt p i hp)
              have b1' : s.H.next + ops.size ≤ s2.H.next := b1
              refine ⟨show s.H.next ≤ s2.H.next by omega, fun b hb hn => .inr ?_, ⟨_, rfl, fun b hb hn => b4 b hb hn⟩, fun b hb => b3 b hb⟩
              show s.H.next ≤ b ∧ b < s2.H.next
              rcases b2 b hb hn with e | e
              · omega
              · have : s.H.next + ops.size ≤ b := e.1
                exact ⟨by omega, e.2⟩
            · cases e1
      case seq b c =>
        split at h
        · rename_i s1 e1
          exact (ihc _ _ _ _ e1).trans (fun _ h => h) (fun _ h => h) (ihc _ _ _ _ h)
        · exact ihc _ _ _ _ h
      case cond x0 b c =>
        split at h
        · exact ihc _ _ _ _ h
        · exact ihc _ _ _ _ h
        · split at h
          · rename_i sa sb e1 e2
            split at h
            · rename_i s1 e3
              cases h
              unfold joinSt at e3
              split at e3
              · rename_i K e4
                cases e3
                exact (joinHeap_sound (ihc _ _ _ _ e1) (ihc _ _ _ _ e2) e4).2.2
              · cases e3
            · cases h
          · cases h
        · cases h
      case block id b =>
        split at h
        · rename_i i s1 e1
          cases h
          exact ihc _ _ _ _ e1
        · exact ihc _ _ _ _ h
      case loop b => exact ihl _ _ _ _ h
      case rangeFunc f ps assign body =>
        obtain ⟨_, h⟩ := bound_of_cond h
        split at h
        · split at h
          · rename_i H1 e1
            split at h
            · cases h
            · rename_i v H2 _ e2
              split at h
              · rename_i H3 e3
                cases h
                obtain ⟨hg, rfl⟩ := Heap.add_eq e1
                have h1 : HRel (fun _ => False) s.H (({ s.H with next := s.H.next + 1 } : Heap).put s.H.next { cs := [], es := 0, kind := .loop .ready ⟨s.T, s.N, ps.toList, assign, body⟩ }) := by
                  refine ⟨Nat.le_succ _, fun b hb hn => .inr ?_, ⟨[], rfl, fun b hb _ => ?_⟩, fun b hb => ?_⟩
                  · rw [Heap.get_put] at hn
                    by_cases e : b = s.H.next
                    · show s.H.next ≤ b ∧ b < s.H.next + 1; omega
                    · rw [if_neg e] at hn; exact (hn hb).elim
                  · rw [Heap.get_put, if_neg (fun e => hb (by rw [e]; exact hg))]; rfl
                  · rw [Heap.get_put, if_neg (fun e => hb (by rw [e]; exact hg))]; exact hb
                exact (h1.trans (fun _ h => h) (fun _ h => h) (hheap _ _ _ _ _ e2)).trans (fun _ h => h) (fun _ h => h) (setLoop_heap e3)
              · cases h
            · cases h
          · cases h
        · cases h
    · simp only [evLoop] at h
      split at h
      · rename_i s1 e1
        exact (ihc _ _ _ _ e1).trans (fun _ h => h) (fun _ h => h) (ihl _ _ _ _ h)
      · exact ihc _ _ _ _ h

section
variable {dd : List Deferred} {C : Ctx} {P : Program} (hC : C.Ok P)
include hC
omit hC
omit [Env] in
theorem wipe_get : ∀ {l : List Oper} {T : Tr AV} {t : Nat} {x : AV}, (wipe l T).get t = some x → (∀ o ∈ l, o.dst ≠ some t) ∧ T.get t = some x
  | [], T, t, x, h => ⟨fun o ho => by simp at ho, h⟩
  | o :: l, T, t, x, h => by
    simp only [wipe] at h
    split at h
    · rename_i d hd
      obtain ⟨h1, h2⟩ := wipe_get h
      rw [Tr.get_setO] at h2
      by_cases e : t = d
      · rw [if_pos e] at h2; cases h2
      · rw [if_neg e] at h2
        refine ⟨fun o' ho' => ?_, h2⟩
        rcases List.mem_cons.1 ho' with rfl | ho'
        · rw [hd]; exact fun h => e (by cases h; rfl)
        · exact h1 o' ho'
    · rename_i hd
      obtain ⟨h1, h2⟩ := wipe_get h
      refine ⟨fun o' ho' => ?_, h2⟩
      rcases List.mem_cons.1 ho' with rfl | ho'
      · rw [hd]; exact fun h => by cases h
      · exact h1 o' ho'
include hC
theorem draw_ops {call : CallA} (hcall : CallSound P call) (hheap : CallHeap call) {ops : Array Oper} {Q : Exit → Act → World → Prop} {ι : Map} {x : X} {s s' : St} {a : Act} {w : World}
    (h : evDraw C call ops s = some (x, s')) (hs : SR dd ι s a w)
    (hQ : ∀ ι' a' w' e, Step Nope ι s.H w ι' s'.H w' → XR dd ι' x s' a' w' e → s'.N = s.N → Q e a' w') : wpAny P .any ops Q ops.size (Array.replicate ops.size false) a { w with drawn := w.drawn + 1 } := by
  unfold evDraw at h
  obtain ⟨hst, h⟩ := bound_of_cond h
  split at h
  · rename_i s1 fs pn e1
    obtain ⟨hdyn, h⟩ := bound_of_cond h
    simp only [Bool.and_eq_true] at hdyn
    obtain ⟨hdyn, hloose⟩ := hdyn
    have hx : (pn = none ∧ x = .normal ∧ s' = { s1 with H := { s1.H with log := fs.flatMap (fun x => x.2.wr) ++ s.H.log } }) ∨
        (∃ i y, pn = some (i, y) ∧ x = .panic y ∧ s' = { s with T := wipe ops.toList s.T, H := { s1.H with log := fs.flatMap (fun x => x.2.wr) ++ s.H.log } }) := by
      cases pn with
      | none => cases h; exact .inl ⟨rfl, rfl, rfl⟩
      | some px => obtain ⟨i, y⟩ := px; cases h; exact .inr ⟨i, y, rfl, rfl, rfl⟩
    clear h
    have static := static_sound hst
    obtain ⟨S, F, h0, h1, h2, h3⟩ := trace_of _ _ _ _ _ e1
    rw [static.len] at h1
    have hdyn' : ∀ (p i q j : Nat) (b : Nat), (orderOf ops)[p]? = some i → (orderOf ops)[q]? = some j → (F p).blk = some b → b ∈ (F q).wr → i = j ∨ BefP ops i j ∨ BefP ops j i := by
      intro p i q j b hp hq hb hm
      have m1 := (h2 p i hp).1
      have m2 := (h2 q j hq).1
      unfold dynOk at hdyn
      rw [List.all_eq_true] at hdyn
      have := hdyn _ m1
      rw [hb] at this
      simp only at this
      rw [List.all_eq_true] at this
      have := this _ m2
      have hc : (F q).wr.contains b = true := by simpa using hm
      simp only [hc, cond_true, Bool.or_eq_true, Tr.nbeq, decide_eq_true_eq] at this
      rcases this with h | h
      · exact .inl h
      · exact .inr (ordered_sound h)
    have hfar : ∀ (p i j : Nat), pn = none → looseAt ops (masks ops) (orderOf ops) = some p → (orderOf ops)[p]? = some i → (orderOf ops)[p + 1]? = some j → farA (F p).st (F (p + 1)).st = true := by
      intro p i j hpn hlo hp hq
      rw [hpn] at hloose
      simp only [Option.isSome_none, Bool.false_or] at hloose
      have m1 := (h2 p i hp).1
      have m2 := (h2 (p + 1) j hq).1
      have e1 := static.pos p i hp
      have e2 := static.pos (p + 1) j hq
      unfold looseDyn at hloose
      rw [hlo] at hloose
      simp only [List.all_eq_true] at hloose
      have := hloose _ m1 _ m2
      have hc : loosePair (orderOf ops) (some p) i j = true := by
        unfold loosePair
        simp only [e1, e2, Tr.nbeq, decide_true, Bool.and_self, Bool.true_or]
      simp only [hc, cond_true] at this
      exact this
    have h3' : ∀ i x, pn = some (i, x) → ∃ p o H', (orderOf ops)[p]? = some i ∧ One C call ops s.H.next pn i (S p) (S (p + 1)) (F p) o (.pan x) H' ∧ (∀ q, p < q → q ≤ ops.size → (S q).H = (S (p + 1)).H) ∧ effAt ops i = true ∧ ∀ q j, p < q → (orderOf ops)[q]? = some j → BefP ops j i := fun i x hx => by
      have := h3 i x hx
      rw [static.len] at this
      exact this
    have ch : Chain C call ops s.H.next pn (orderOf ops) (looseAt ops (masks ops) (orderOf ops)) S F := ⟨static, fun p i hp => (h2 p i hp).2, hdyn', hfar, h3', by rw [h0], by rw [h0]; exact Nat.le_refl _⟩
    obtain ⟨q, n1, n2, n3, n4⟩ := next_eff ops (orderOf ops) static.len ops.size 0 (by omega)
    obtain ⟨k1, k2, _⟩ := ch.plain hheap n1 n2 n4
    have hfalse : ∀ i, ¬ Li (Array.replicate ops.size false) i := by
      intro i hl
      unfold Li at hl
      rw [Array.getD_eq_getD_getElem?] at hl
      by_cases e : i < ops.size
      · simp [e] at hl
      · simp [e] at hl
    have hw0 : WR ι s.H { w with drawn := w.drawn + 1 } := ⟨hs.wr.obj, hs.wr.apart, hs.wr.new, hs.wr.vis, hs.wr.glob⟩
    have hget : ∀ b, ι b ≠ none → (S q).H.get b = s.H.get b := fun b hb => by
      cases e : ι b with
      | none => exact (hb e).elim
      | some l =>
        have hv := hs.wr.vis b l e
        have h00 : (S 0).H.get b = s.H.get b := by rw [h0]; rfl
        rw [ch.same hheap n1 n2 (by rw [h00]; exact hv) (fun r j r1 r2 hrj => by rw [ch.wrnil hrj (n4 r j r1 r2 hrj)]; simp), h00]
    have hnext : s.H.next ≤ (S q).H.next := by rw [k1, h0]; exact Nat.le_add_right _ _
    have hkeep : ∀ b, s.H.get b ≠ none → (S q).H.get b ≠ none := fun b hb => k2 b (by rw [h0]; exact hb)
    have inv : Inv dd C call ops s.H.next pn (orderOf ops) (looseAt ops (masks ops) (orderOf ops)) S F ι s.H { w with drawn := w.drawn + 1 } (Array.replicate ops.size false) a { w with drawn := w.drawn + 1 } ι q false (S q).H := by
      refine ⟨by simp, fun j o _ hl => (hfalse j hl).elim, n2, n3, fun p i hp hc => ?_, .inl ⟨rfl, rfl⟩, fun t k x hk hl hx => ?_, Step.heap hw0 hget hnext hkeep, fun i hi _ => hs.wr.new _ (Nat.le_add_right _ _), by rw [h0]; exact hs.size, hs.defers, fun i x _ => hfalse i⟩
      · constructor
        · intro hl; exact (hfalse i hl).elim
        · rintro (hl | ⟨hl, _⟩)
          · exact (n4 p i (Nat.zero_le _) hl hp hc).elim
          · cases hl
      · have hno : ∀ r j, 0 ≤ r → r < k → (orderOf ops)[r]? = some j → dstAt ops j ≠ some t := fun r j _ r2 hrj hd => hfalse j ((hl r j hrj hd).2 r2)
        rw [ch.slot (Nat.zero_le _) hk hno, h0] at hx
        exact hs.tr t x hx
    have hcnt : cnt ops.size (Array.replicate ops.size false) = ops.size := by
      unfold cnt
      rw [List.countP_eq_length.2]
      · simp
      · intro i hi
        have : ¬ Li (Array.replicate ops.size false) i := hfalse i
        unfold Li at this
        simpa using this
    refine (draw_any hC hcall hheap ch ops.size _ a _ ι q false _ inv hcnt (fun ι' a' w' hpn q1 q2 => ?_) fun i y0 hpn ι' a' w' x' q1 q2 q4 q5 q6 => ?_)
    rotate_left
    · rw [h1] at q1
      obtain ⟨i2, y, e1, rfl, rfl⟩ : ∃ i y, pn = some (i, y) ∧ x = .panic y ∧ s' = { s with T := wipe ops.toList s.T, H := { s1.H with log := fs.flatMap (fun x => x.2.wr) ++ s.H.log } } := by
        rcases hx with ⟨e, _⟩ | e
        · rw [hpn] at e; cases e
        · exact e
      rw [hpn] at e1
      cases e1
      refine hQ ι' a' w' _ ?_ ⟨x', rfl, q2, q1.wr.cast (HEq2.log _ _), fun t y hy => ?_, by rw [q5, h0], q4⟩ rfl
      rotate_left
      · obtain ⟨hno, hy⟩ := wipe_get hy
        refine q6 t y (fun j hj => ?_) (by rw [h0]; exact hy)
        unfold dstAt at hj
        split at hj
        · rename_i o ho; exact hno o (by rw [Array.mem_toList_iff]; exact Array.mem_of_getElem? ho) hj
        · cases hj
      · have q3 := (Step.draw q1).cast (HEq2.refl _) (HEq2.log s1.H (fs.flatMap (fun x => x.2.wr) ++ s.H.log))
        exact { q3 with dom := fun b hb hn => .inr (by rcases q3.dom b hb hn with e | e <;> exact e) }
    obtain ⟨rfl, rfl⟩ : x = .normal ∧ s' = { s1 with H := { s1.H with log := fs.flatMap (fun x => x.2.wr) ++ s.H.log } } := by
      rcases hx with ⟨_, e⟩ | ⟨_, _, e, _⟩
      · exact e
      · rw [hpn] at e; cases e
    rw [h1] at q1 q2
    refine hQ ι' a' w' _ ?_ ⟨rfl, q2.wr.cast (HEq2.log _ _), q2.tr, q2.size, q2.defers⟩ ?_
    · have q3 := (Step.draw q1).cast (HEq2.refl _) (HEq2.log s1.H (fs.flatMap (fun x => x.2.wr) ++ s.H.log))
      exact { q3 with dom := fun b hb hn => .inr (by rcases q3.dom b hb hn with e | e <;> exact e) }
    · have := ch.N (Nat.le_refl _)
      rw [h1, h0] at this
      exact this
  · cases h

theorem coin_any {call : CallA} (hcall : CallSound P call) {ops : Array Oper} {ι0 : Map} {H0 Hn K1 K2 : Heap} {w0 : World} {T : Tr AV} {N ta tr base : Nat} {Q : Exit → Act → World → Prop} (hc : Coin C ops H0 N ta tr base Hn K1 K2) :
    ∀ (fuel : Nat) (ls : Array Bool) (K : Heap) (a : Act) (w : World) (ι : Map), CInv dd ι0 H0 Hn K1 K2 w0 T N ta tr base ls K a w ι → cnt ops.size ls = fuel →
    (∀ ι' a' w' K' ls', CInv dd ι0 H0 Hn K1 K2 w0 T N ta tr base ls' K' a' w' ι' → Li ls' 3 → Q .normal a' w') → wpAny P .any ops Q fuel ls a w := by
  have h4 := hc.size
  have rdy : ∀ {ls : Array Bool} {i : Nat}, ls.size = 4 → (i ∈ Region.ready .any ops ls ↔ ¬ Li ls i ∧ ∃ o, ops[i]? = some o ∧ ∀ j ∈ binding o, Li ls j) := fun {ls i} hs => by
    rw [mem_ready]
    constructor
    · rintro ⟨h1, o, ho, he⟩
      have hil := (Array.getElem?_eq_some_iff.1 ho).1
      refine ⟨?_, o, ho, fun j hj => ?_⟩
      · have hsz : i < ls.size := by omega
        unfold Li
        rw [Array.getD_eq_getD_getElem?] at h1 ⊢
        simp [hsz] at h1 ⊢; exact h1
      · obtain ⟨e, h2, h3, rfl⟩ := mem_binding.1 hj
        exact he e h2 h3
    · rintro ⟨h1, o, ho, he⟩
      have hil := (Array.getElem?_eq_some_iff.1 ho).1
      refine ⟨?_, o, ho, fun e h2 h3 => he e.on (mem_binding.2 ⟨e, h2, h3, rfl⟩)⟩
      have hsz : i < ls.size := by omega
      unfold Li at h1
      rw [Array.getD_eq_getD_getElem?] at h1 ⊢
      simp [hsz] at h1 ⊢; exact h1
  have all : ∀ {ls : Array Bool}, ls.size = 4 → Region.ready .any ops ls = [] → Li ls 3 := fun {ls} hs hr => by
    have no : ∀ i, i ∉ Region.ready .any ops ls := fun i => by rw [hr]; simp
    obtain ⟨o0, z, es, p1, _, _, p4, _⟩ := hc.op0
    have l0 : Li ls 0 := Classical.byContradiction fun h => no 0 ((rdy hs).2 ⟨h, o0, p1, fun j hj => (p4 j hj).elim⟩)
    have l12 : ∀ i, i = 1 ∨ i = 2 → Li ls i := fun i hi => by
      obtain ⟨o, t, b, q1, _, _, q4, _⟩ := hc.op12 i hi
      exact Classical.byContradiction fun h => no i ((rdy hs).2 ⟨h, o, q1, fun j hj => by rw [(q4 j).1 hj]; exact l0⟩)
    obtain ⟨o, q1, _, _, q4, _⟩ := hc.op3
    refine Classical.byContradiction fun h => no 3 ((rdy hs).2 ⟨h, o, q1, fun j hj => ?_⟩)
    rcases (q4 j).1 hj with rfl | rfl | rfl
    · exact l0
    · exact l12 1 (.inl rfl)
    · exact l12 2 (.inr rfl)
  intro fuel
  induction fuel with
  | zero =>
    intro ls K a w ι inv hcnt hQ
    have hall := fun i hi => cnt_zero hcnt i hi
    refine ⟨?_, hQ ι a w K ls inv (hall 3 (by omega))⟩
    apply List.eq_nil_iff_forall_not_mem.2
    intro i hi
    obtain ⟨h1, o, ho, _⟩ := (rdy inv.sz).1 hi
    exact h1 (hall i (Array.getElem?_eq_some_iff.1 ho).1)
  | succ fuel ih =>
    intro ls K a w ι inv hcnt hQ
    refine ⟨fun hr => hQ ι a w K ls inv (all inv.sz hr), fun i hi => ?_⟩
    obtain ⟨h1, o, ho, he⟩ := (rdy inv.sz).1 hi
    have hil := (Array.getElem?_eq_some_iff.1 ho).1
    refine inv.run hC hcall hc (by omega) h1 (fun o' ho' j hj => by rw [ho] at ho'; cases ho'; exact he j hj) fun a' w' ι' K' inv' => ?_
    exact ih _ K' a' w' ι' inv' (by have := cnt_set (n := ops.size) (by rw [inv.sz, h4]) hil h1; omega) hQ

theorem coin_ops {call : CallA} (hcall : CallSound P call) {ops : Array Oper} {Q : Exit → Act → World → Prop} {ι : Map} {s s' : St} {a : Act} {w : World}
    (h : coinA C ops s = some s') (hs : SR dd ι s a w)
    (hQ : ∀ ι' a' w', Step Nope ι s.H w ι' s'.H w' → SR dd ι' s' a' w' → s'.N = s.N → Q .normal a' w') : wpAny P .any ops Q ops.size (Array.replicate ops.size false) a { w with drawn := w.drawn + 1 } := by
  obtain ⟨ta, tr, Hn, K1, K2, hc, e1, e2, e3⟩ := coin_of h
  have h4 := hc.size
  have hfalse : ∀ i, ¬ Li (Array.replicate ops.size false) i := by
    intro i hl
    unfold Li at hl
    rw [Array.getD_eq_getD_getElem?] at hl
    by_cases e : i < ops.size
    · simp [e] at hl
    · simp [e] at hl
  have hw0 : WR ι s.H { w with drawn := w.drawn + 1 } := ⟨hs.wr.obj, hs.wr.apart, hs.wr.new, hs.wr.vis, hs.wr.glob⟩
  have inv : CInv dd ι s.H Hn K1 K2 { w with drawn := w.drawn + 1 } s.T s.N ta tr s.H.next (Array.replicate ops.size false) Hn a { w with drawn := w.drawn + 1 } ι := by
    refine ⟨by simp [h4], fun h => (hfalse _ h).elim, fun h => (hfalse _ h).elim, fun h => (hfalse _ h).elim, fun _ => rfl, fun h => (hfalse _ h).elim, fun h => (hfalse _ h).elim, ?_, fun t x _ _ hx => hs.tr t x hx, fun h => (hfalse _ h).elim, fun h => (hfalse _ h).elim, fun j _ _ => hs.wr.new _ (by omega), hs.size, hs.defers⟩
    rw [hc.hn]
    exact Step.heap hw0 (fun _ _ => rfl) (show s.H.next ≤ s.H.next + 4 by omega) (fun _ h => h)
  have hcnt : cnt ops.size (Array.replicate ops.size false) = ops.size := by
    unfold cnt
    rw [List.countP_eq_length.2]
    · simp
    · intro i hi
      have : ¬ Li (Array.replicate ops.size false) i := hfalse i
      unfold Li at this
      simpa using this
  refine (coin_any hC hcall hc ops.size _ _ a _ ι inv hcnt fun ι' a' w' K' ls' inv' h3 => ?_)
  obtain ⟨l1, l2⟩ := inv'.c3 h3
  have hK := inv'.k2 l1 l2
  subst hK
  have hst := inv'.st
  refine hQ ι' a' w' ?_ ⟨by rw [e1]; exact hst.wr, fun t x hx => ?_, by rw [inv'.asz, e2], inv'.df⟩ e2
  · rw [e1]
    have q := Step.draw hst
    exact { q with dom := fun b hb hn => .inr (by rcases q.dom b hb hn with e | e <;> exact e) }
  · rw [e3, Tr.get_set] at hx
    by_cases k1 : t = tr
    · rw [if_pos k1] at hx; cases hx; rw [k1]; exact inv'.tvr h3
    · rw [if_neg k1, Tr.get_set] at hx
      by_cases k2 : t = ta
      · rw [if_pos k2] at hx; cases hx; rw [k2]; exact inv'.tva (inv'.c1 l1)
      · rw [if_neg k2] at hx; exact inv'.tm t x k2 k1 hx
end
end
end Go.Ev
