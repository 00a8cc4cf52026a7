import Derived.Test.YtldgccbiikahgabGreatEvCode
/-! What is known behind both sides of a branch whose condition is not known. -/
namespace Go.Ev
open Go Go.RowKit

mutual
theorem AV.beq_sound : ∀ {x y : AV}, x.beq y = true → x = y
  | .bool a, y, h => by cases y <;> simp only [AV.beq] at h <;> first | (cases h; done) | (simp only [beq_iff_eq] at h; rw [h])
  | .int k n, y, h => by cases y <;> simp only [AV.beq] at h <;> first | (cases h; done) | (simp only [Bool.and_eq_true, beq_iff_eq] at h; rw [h.1, h.2])
  | .sx k e, y, h => by cases y <;> simp only [AV.beq] at h <;> first | (cases h; done) | (simp only [Bool.and_eq_true, beq_iff_eq] at h; rw [h.1, Exp.beq_sound h.2])
  | .str s, y, h => by cases y <;> simp only [AV.beq] at h <;> first | (cases h; done) | (simp only [beq_iff_eq] at h; rw [h])
  | .ptr0, y, h => by cases y <;> simp only [AV.beq] at h <;> first | (cases h; done) | rfl
  | .ptr b o, y, h => by cases y <;> simp only [AV.beq] at h <;> first | (cases h; done) | (simp only [Bool.and_eq_true, Tr.nbeq, decide_eq_true_eq] at h; rw [h.1, h.2])
  | .sl0, y, h => by cases y <;> simp only [AV.beq] at h <;> first | (cases h; done) | rfl
  | .sl b o n, y, h => by cases y <;> simp only [AV.beq] at h <;> first | (cases h; done) | (simp only [Bool.and_eq_true, Tr.nbeq, decide_eq_true_eq] at h; rw [h.1.1, h.1.2, h.2])
  | .map0, y, h => by cases y <;> simp only [AV.beq] at h <;> first | (cases h; done) | rfl
  | .map b, y, h => by cases y <;> simp only [AV.beq] at h <;> first | (cases h; done) | (simp only [Tr.nbeq, decide_eq_true_eq] at h; rw [h])
  | .fn f a c, y, h => by
    cases y <;> simp only [AV.beq] at h <;> first | (cases h; done) | (simp only [Bool.and_eq_true, beq_iff_eq] at h; rw [h.1.1, beqs_sound h.1.2, beqs_sound h.2])
  | .nilfn, y, h => by cases y <;> simp only [AV.beq] at h <;> first | (cases h; done) | rfl
  | .iface t v, y, h => by cases y <;> simp only [AV.beq] at h <;> first | (cases h; done) | (simp only [Bool.and_eq_true, Tr.nbeq, decide_eq_true_eq] at h; rw [h.1, AV.beq_sound h.2])
  | .nilif, y, h => by cases y <;> simp only [AV.beq] at h <;> first | (cases h; done) | rfl
  | .agg cs, y, h => by cases y <;> simp only [AV.beq] at h <;> first | (cases h; done) | rw [beqs_sound h]
  | .tup cs, y, h => by cases y <;> simp only [AV.beq] at h <;> first | (cases h; done) | rw [beqs_sound h]
  | .any, y, h => by cases y <;> simp only [AV.beq] at h <;> first | (cases h; done) | rfl
  | .anyb, y, h => by cases y <;> simp only [AV.beq] at h <;> first | (cases h; done) | rfl
theorem beqs_sound : ∀ {xs ys : List AV}, beqs xs ys = true → xs = ys
  | [], ys, h => by cases ys <;> simp only [beqs] at h <;> first | (cases h; done) | rfl
  | x :: xs, ys, h => by
    cases ys <;> simp only [beqs] at h
    · cases h
    · simp only [Bool.and_eq_true] at h; rw [AV.beq_sound h.1, beqs_sound h.2]
end

variable [Env]
omit [Env] in
theorem meetO_some {a b : Option AV} {x : AV} (h : meetO a b = some x) : a = some x ∧ b = some x := by
  unfold meetO at h
  split at h
  · rename_i u v
    obtain ⟨e, h⟩ := bound_of_cond h
    cases h
    rw [AV.beq_sound e]; exact ⟨rfl, rfl⟩
  · cases h
omit [Env] in
theorem Tr.meet_get : ∀ {s t : Tr AV} {i : Nat} {x : AV}, (s.meet t).get i = some x → s.get i = some x ∧ t.get i = some x
  | .nil, t, i, x, h => by simp only [Tr.meet, Tr.get] at h; cases h
  | .node v l r, .nil, i, x, h => by simp only [Tr.meet, Tr.get] at h; cases h
  | .node v l r, .node v' l' r', i, x, h => by
    simp only [Tr.meet, Tr.get, Tr.nbeq] at h ⊢
    by_cases h0 : i = 0
    · simp only [h0, decide_true, cond_true] at h ⊢; exact meetO_some h
    · simp only [h0, decide_false, cond_false] at h ⊢
      by_cases h1 : i % 2 = 1
      · simp only [h1, decide_true, cond_true] at h ⊢; exact Tr.meet_get h
      · simp only [h1, decide_false, cond_false] at h ⊢; exact Tr.meet_get h

/-- what is known of a cell, or less -/
def Less (x y : AV) : Prop := y = x ∨ (y = .any ∧ x.flat = true) ∨ (y = .anyb ∧ ∃ b, x = .bool b)
theorem VR.less {ι : Map} {x y : AV} {v : Value} (h : VR ι x v) (l : Less x y) : VR ι y v := by
  rcases l with rfl | ⟨rfl, hf⟩ | ⟨rfl, b, rfl⟩
  · exact h
  · simp only [VR]; exact h.flat hf
  · simp only [VR] at h ⊢; exact ⟨b, h⟩
def Lesses (xs ys : List AV) : Prop := ys.length = xs.length ∧ ∀ (i : Nat) (y : AV), ys[i]? = some y → ∃ x, xs[i]? = some x ∧ Less x y
omit [Env] in
theorem Lesses.refl (xs : List AV) : Lesses xs xs := ⟨rfl, fun _ y h => ⟨y, h, .inl rfl⟩⟩
omit [Env] in
theorem Lesses.cons {x y : AV} {xs ys : List AV} (h : Less x y) (k : Lesses xs ys) : Lesses (x :: xs) (y :: ys) := by
  refine ⟨by simp [k.1], fun i z hz => ?_⟩
  cases i with
  | zero => simp at hz; subst hz; exact ⟨x, rfl, h⟩
  | succ i => simp at hz; obtain ⟨u, hu, q⟩ := k.2 i z hz; exact ⟨u, by simpa using hu, q⟩
omit [Env] in
theorem joinCells_sound : ∀ {xs ys zs : List AV}, joinCells xs ys = some zs → Lesses xs zs ∧ Lesses ys zs
  | [], [], zs, h => by simp only [joinCells] at h; cases h; exact ⟨Lesses.refl _, Lesses.refl _⟩
  | [], _ :: _, zs, h => by simp only [joinCells] at h; cases h
  | _ :: _, [], zs, h => by simp only [joinCells] at h; cases h
  | x :: xs, y :: ys, zs, h => by
    simp only [joinCells] at h
    split at h
    · rename_i us e
      obtain ⟨k1, k2⟩ := joinCells_sound e
      cases hb : x.beq y with
      | true =>
        rw [hb] at h; cases h
        have := AV.beq_sound hb
        subst this
        exact ⟨k1.cons (.inl rfl), k2.cons (.inl rfl)⟩
      | false =>
        rw [hb] at h
        simp only [cond_false] at h
        obtain ⟨e2, h⟩ := bound_of_cond h
        cases h
        simp only [Bool.and_eq_true] at e2
        exact ⟨k1.cons (.inr (.inl ⟨rfl, e2.1⟩)), k2.cons (.inr (.inl ⟨rfl, e2.2⟩))⟩
    · cases h

/-- what is known of a block, or less -/
structure ObjW (o q : Obj) : Prop where
  es : q.es = o.es
  kind : q.kind = o.kind
  cs : Lesses o.cs q.cs
  map : o.kind.isMap = true → q.cs = o.cs
omit [Env] in
theorem ObjW.refl (o : Obj) : ObjW o o := ⟨rfl, rfl, Lesses.refl _, fun _ => rfl⟩
omit [Env] in
theorem Kind.beq_sound {k l : Kind} (h : k.beq l = true) : k = l := by
  cases k <;> cases l <;> simp only [Kind.beq] at h <;> first | (cases h; done) | rfl | (simp only [Tr.nbeq, decide_eq_true_eq] at h; rw [h])
omit [Env] in
theorem joinObj_sound {o p q : Obj} (h : joinObj o p = some q) : ObjW o q ∧ ObjW p q := by
  unfold joinObj at h
  obtain ⟨e, h⟩ := bound_of_cond h
  simp only [Bool.and_eq_true, Tr.nbeq, decide_eq_true_eq] at e
  have hk := Kind.beq_sound e.2
  split at h
  · rename_i hm
    obtain ⟨e2, h⟩ := bound_of_cond h
    cases h
    have hc := beqs_sound e2
    exact ⟨ObjW.refl _, ⟨e.1, hk, by rw [hc]; exact Lesses.refl _, fun _ => hc⟩⟩
  · rename_i hm
    split at h
    · rename_i cs e2
      cases h
      obtain ⟨k1, k2⟩ := joinCells_sound e2
      exact ⟨⟨rfl, rfl, k1, fun h => by rw [hm] at h; cases h⟩, ⟨e.1, hk, k2, fun h => by rw [← hk, hm] at h; cases h⟩⟩
    · cases h
theorem Blk.less {ι : Map} {w : World} {l : Loc} {o q : Obj} (h : Blk ι w l o) (k : ObjW o q) : Blk ι w l q := by
  cases hk : o.kind.isMap with
  | true =>
    obtain ⟨es, clock, h1, h2⟩ := h.map hk
    exact .of_map (by rw [k.kind]; exact hk) ⟨es, clock, h1, by rw [k.map hk]; exact h2⟩
  | false =>
    obtain ⟨c, et, lo, hi, h1, h2, h3, h4, h5, h6⟩ := h.cells hk
    refine .of_cells (by rw [k.kind]; exact hk) ⟨c, et, lo, hi, h1, h2, h3, by rw [h4, k.es], by rw [k.cs.1]; exact h5, fun i y hy => ?_⟩
    obtain ⟨x, hx, hl⟩ := k.cs.2 i y hy
    obtain ⟨v, hv, r⟩ := h6 i x hx
    exact ⟨v, hv, r.less hl⟩

/-- a heap of which less is known -/
structure HW (H K : Heap) : Prop where
  next : H.next ≤ K.next
  get : ∀ b q, K.get b = some q → (H.get b = none ∧ H.next ≤ b) ∨ ∃ o, H.get b = some o ∧ ObjW o q
  has : ∀ b, H.get b ≠ none → K.get b ≠ none
theorem WR.less {ι : Map} {H K : Heap} {w : World} (h : WR ι H w) (k : HW H K) : WR ι K w := by
  have old : ∀ b l q, ι b = some l → K.get b = some q → ∃ o, H.get b = some o ∧ ObjW o q := fun b l q hb hq => by
    rcases k.get b q hq with ⟨e, _⟩ | e
    · exact (h.vis b l hb e).elim
    · exact e
  refine ⟨fun b l q hb hq => ?_, fun b1 b2 l1 l2 q1 q2 hne e1 e2 g1 g2 heq => ?_, fun b hb => h.new b (Nat.le_trans k.next hb), fun b l hb => k.has b (h.vis b l hb)⟩
  · obtain ⟨o, ho, hw⟩ := old b l q hb hq
    exact (h.obj b l o hb ho).less hw
  · obtain ⟨o1, ho1, w1⟩ := old b1 l1 q1 e1 g1
    obtain ⟨o2, ho2, w2⟩ := old b2 l2 q2 e2 g2
    rw [w1.kind, w2.kind, w1.cs.1, w2.cs.1]
    exact h.apart b1 b2 l1 l2 o1 o2 hne e1 e2 ho1 ho2 heq
theorem Step.less {ids : Nat → Prop} {ι ι' : Map} {H H' K : Heap} {w w' : World} (h0 : ∀ b l, ι b = some l → H.get b ≠ none) (h : Step ids ι H w ι' H' w') (k : HW H' K) : Step ids ι H w ι' K w' :=
  ⟨h.ext, h.wr.less k, Nat.le_trans h.next k.next, h.dom, fun b hb => k.has b (h.keep b hb), fun b l hb _ => h0 b l hb, h.os, h.tape, h.output, h.size, h.frame, h.fresh⟩

omit [Env] in
theorem joinBlks_sound {Ha Hb : Heap} : ∀ {bs : List Nat} {H K : Heap}, joinBlks Ha Hb bs H = some K →
    K.next = H.next ∧ ∀ b, (b ∈ bs ∧ ∃ o p q, Ha.get b = some o ∧ Hb.get b = some p ∧ joinObj o p = some q ∧ K.get b = some q) ∨
      (K.get b = H.get b ∧ (b ∈ bs → Ha.get b = none ∧ Hb.get b = none))
  | [], H, K, h => by simp only [joinBlks] at h; cases h; exact ⟨rfl, fun b => .inr ⟨rfl, fun h => by simp at h⟩⟩
  | c :: bs, H, K, h => by
    simp only [joinBlks] at h
    split at h
    · rename_i o p e1 e2
      split at h
      · rename_i q e3
        obtain ⟨k1, k2⟩ := joinBlks_sound h
        refine ⟨k1, fun b => ?_⟩
        rcases k2 b with ⟨m, r⟩ | ⟨r, m⟩
        · exact .inl ⟨by simp [m], r⟩
        · by_cases e : b = c
          · subst e
            by_cases hm : b ∈ bs
            · have := (m hm).1; rw [e1] at this; cases this
            · rw [Heap.get_put, if_pos rfl] at r
              exact .inl ⟨by simp, o, p, q, e1, e2, e3, r⟩
          · rw [Heap.get_put, if_neg e] at r
            exact .inr ⟨r, fun hb => m (by simpa [e] using hb)⟩
      · cases h
    · rename_i e1 e2
      obtain ⟨k1, k2⟩ := joinBlks_sound h
      refine ⟨k1, fun b => ?_⟩
      rcases k2 b with ⟨m, r⟩ | ⟨r, m⟩
      · exact .inl ⟨by simp [m], r⟩
      · refine .inr ⟨r, fun hb => ?_⟩
        by_cases e : b = c
        · subst e; exact ⟨e1, e2⟩
        · exact m (by simpa [e] using hb)
    · cases h

omit [Env] in
/-- what both sides of a branch leave is less than either -/
theorem joinHeap_sound {H Ha Hb K : Heap} {d : Nat} (ha : HRel (fun _ => False) { H with next := H.next + d, log := [] } Ha) (hb : HRel (fun _ => False) { H with log := [] } Hb)
    (h : joinHeap H Ha Hb = some K) : HW Ha K ∧ HW Hb K ∧ HRel (fun _ => False) H K := by
  unfold joinHeap at h
  obtain ⟨hv, h⟩ := bound_of_cond h
  split at h
  · rename_i K1 e1
    cases h
    obtain ⟨k1, k2⟩ := joinBlks_sound e1
    have na : H.next + d ≤ Ha.next := ha.next
    have nb : H.next ≤ Hb.next := hb.next
    have hvac : ∀ b, H.next ≤ b → b < max Ha.next Hb.next → H.get b = none := fun b h1 h2 => by
      unfold Heap.vacant at hv
      rw [List.all_eq_true] at hv
      have := hv b (by rw [List.mem_range'_1]; omega)
      split at this
      · assumption
      · cases this
    obtain ⟨la, a1, a2⟩ := ha.log
    obtain ⟨lb, b1, b2⟩ := hb.log
    simp only [List.append_nil] at a1 b1
    -- a block that is in neither log, and is not new
    have keepA : ∀ b, b ∉ Ha.log → H.get b ≠ none → Ha.get b = H.get b := fun b h1 h2 => a2 b h2 (by rw [← a1]; exact h1)
    have keepB : ∀ b, b ∉ Hb.log → H.get b ≠ none → Hb.get b = H.get b := fun b h1 h2 => b2 b h2 (by rw [← b1]; exact h1)
    have madeA : ∀ b, H.get b = none → Ha.get b ≠ none → H.next + d ≤ b ∧ b < Ha.next := fun b h1 h2 => (ha.made b h1 h2).elim (fun h => h.elim) id
    have madeB : ∀ b, H.get b = none → Hb.get b ≠ none → H.next ≤ b ∧ b < Hb.next := fun b h1 h2 => (hb.made b h1 h2).elim (fun h => h.elim) id
    have key : ∀ b, (∃ o p q, Ha.get b = some o ∧ Hb.get b = some p ∧ joinObj o p = some q ∧ K1.get b = some q) ∨ (K1.get b = H.get b ∧ ((Ha.get b = H.get b ∧ Hb.get b = H.get b) ∨ (Ha.get b = none ∧ Hb.get b = none ∧ H.get b = none))) := by
      intro b
      rcases k2 b with ⟨_, r⟩ | ⟨r, m⟩
      · exact .inl r
      · right
        refine ⟨r, ?_⟩
        by_cases hm : b ∈ Ha.log ++ Hb.log ++ List.range' H.next (max Ha.next Hb.next - H.next)
        · obtain ⟨m1, m2⟩ := m hm
          right
          refine ⟨m1, m2, ?_⟩
          cases e : H.get b with
          | none => rfl
          | some o => exact (ha.keep b (show Heap.get _ b ≠ none by show H.get b ≠ none; rw [e]; simp) m1).elim
        · simp only [List.mem_append, List.mem_range'_1, not_or] at hm
          obtain ⟨⟨m1, m2⟩, m3⟩ := hm
          left
          by_cases e : H.get b = none
          · rw [e]
            constructor
            · exact Classical.byContradiction fun hn => by have := madeA b e hn; omega
            · exact Classical.byContradiction fun hn => by have := madeB b e hn; omega
          · exact ⟨keepA b m1 e, keepB b m2 e⟩
    refine ⟨⟨Nat.le_max_left _ _, fun b q hq => ?_, fun b hb2 => ?_⟩, ⟨Nat.le_max_right _ _, fun b q hq => ?_, fun b hb2 => ?_⟩, ⟨show H.next ≤ max Ha.next Hb.next by omega, fun b h1 h2 => .inr ?_, ⟨Ha.log ++ Hb.log, rfl, fun b h1 h2 => ?_⟩, fun b h1 => ?_⟩⟩
    · have hq' : K1.get b = some q := hq
      rcases key b with ⟨o, p, q2, r1, r2, r3, r4⟩ | ⟨r, ⟨r1, r2⟩ | ⟨r1, r2, r3⟩⟩
      · rw [hq'] at r4; cases r4; exact .inr ⟨o, r1, (joinObj_sound r3).1⟩
      · exact .inr ⟨q, by rw [r1, ← r, hq'], ObjW.refl _⟩
      · rw [r3, hq'] at r; cases r
    · show K1.get b ≠ none
      rcases key b with ⟨o, p, q2, r1, r2, r3, r4⟩ | ⟨r, ⟨r1, r2⟩ | ⟨r1, r2, r3⟩⟩
      · rw [r4]; simp
      · rw [r, ← r1]; exact hb2
      · exact (hb2 r1).elim
    · have hq' : K1.get b = some q := hq
      rcases key b with ⟨o, p, q2, r1, r2, r3, r4⟩ | ⟨r, ⟨r1, r2⟩ | ⟨r1, r2, r3⟩⟩
      · rw [hq'] at r4; cases r4; exact .inr ⟨p, r2, (joinObj_sound r3).2⟩
      · exact .inr ⟨q, by rw [r2, ← r, hq'], ObjW.refl _⟩
      · rw [r3, hq'] at r; cases r
    · show K1.get b ≠ none
      rcases key b with ⟨o, p, q2, r1, r2, r3, r4⟩ | ⟨r, ⟨r1, r2⟩ | ⟨r1, r2, r3⟩⟩
      · rw [r4]; simp
      · rw [r, ← r2]; exact hb2
      · exact (hb2 r2).elim
    · show H.next ≤ b ∧ b < max Ha.next Hb.next
      have h2' : K1.get b ≠ none := h2
      rcases key b with ⟨o, p, q2, r1, r2, r3, r4⟩ | ⟨r, _⟩
      · have := madeA b h1 (by rw [r1]; simp); omega
      · rw [r, h1] at h2'; exact (h2' rfl).elim
    · show K1.get b = H.get b
      simp only [List.mem_append, not_or] at h2
      rcases k2 b with ⟨m, r⟩ | ⟨r, _⟩
      · simp only [List.mem_append, List.mem_range'_1] at m
        rcases m with (m | m) | m
        · exact (h2.1 m).elim
        · exact (h2.2 m).elim
        · exact (h1 (hvac b (by omega) (by omega))).elim
      · exact r
    · show K1.get b ≠ none
      rcases key b with ⟨o, p, q2, r1, r2, r3, r4⟩ | ⟨r, _⟩
      · rw [r4]; simp
      · rw [r]; exact h1
  · cases h

theorem SR.less {ι : Map} {s s' : St} {a : Act} {w : World} (h : SR ι s a w) (hH : HW s.H s'.H) (hN : s'.N = s.N) (hT : ∀ t x, s'.T.get t = some x → s.T.get t = some x) : SR ι s' a w :=
  ⟨h.wr.less hH, fun t x hx => h.tr t x (hT t x hx), by rw [hN]; exact h.size, h.defers⟩
end Go.Ev
