import Derived.Test.YtldgccbiikahgabGreatEvSound
namespace Go.Ev
open Go Go.RowKit
variable [Env]

structure HRel (ids : Nat → Prop) (H H' : Heap) : Prop where
  next : H.next ≤ H'.next
  made : ∀ b, H.get b = none → H'.get b ≠ none → ids b ∨ (H.next ≤ b ∧ b < H'.next)
  log : ∃ l, H'.log = l ++ H.log ∧ ∀ b, H.get b ≠ none → b ∉ l → H'.get b = H.get b
  keep : ∀ b, H.get b ≠ none → H'.get b ≠ none

omit [Env] in
theorem HRel.refl {ids : Nat → Prop} (H : Heap) : HRel ids H H := ⟨Nat.le_refl _, fun _ h k => (k h).elim, ⟨[], rfl, fun _ _ _ => rfl⟩, fun _ h => h⟩
omit [Env] in
theorem HRel.trans {i1 i2 ids : Nat → Prop} {H H1 H2 : Heap} (h1 : ∀ b, i1 b → ids b) (h2 : ∀ b, i2 b → ids b) (h : HRel i1 H H1) (k : HRel i2 H1 H2) : HRel ids H H2 := by
  refine ⟨Nat.le_trans h.next k.next, fun b hb hn => ?_, ?_, fun b hb => k.keep b (h.keep b hb)⟩
  · by_cases e : H1.get b = none
    · rcases k.made b e hn with q | q
      · exact .inl (h2 b q)
      · exact .inr ⟨Nat.le_trans h.next q.1, q.2⟩
    · rcases h.made b hb e with q | q
      · exact .inl (h1 b q)
      · exact .inr ⟨q.1, Nat.lt_of_lt_of_le q.2 k.next⟩
  · obtain ⟨l1, e1, f1⟩ := h.log
    obtain ⟨l2, e2, f2⟩ := k.log
    refine ⟨l2 ++ l1, by rw [e2, e1, List.append_assoc], fun b hb hn => ?_⟩
    simp only [List.mem_append, not_or] at hn
    rw [f2 b (h.keep b hb) hn.1, f1 b hb hn.2]
omit [Env] in
theorem HRel.weaken {i1 ids : Nat → Prop} {H H1 : Heap} (h1 : ∀ b, i1 b → ids b) (h : HRel i1 H H1) : HRel ids H H1 :=
  { h with made := fun b hb hn => (h.made b hb hn).imp (h1 b) id }
omit [Env] in
theorem HRel.add {H H' : Heap} {b : Nat} {o : Obj} (h : H.add b o = some H') : HRel (· = b) H H' := by
  obtain ⟨h1, rfl⟩ := Heap.add_eq h
  refine ⟨Nat.le_refl _, fun j hj hn => ?_, ⟨[], rfl, fun j hj _ => ?_⟩, fun j hj => ?_⟩
  · rw [Heap.get_put] at hn
    by_cases e : j = b
    · exact .inl e
    · rw [if_neg e] at hn; exact (hn hj).elim
  · rw [Heap.get_put, if_neg (fun e => hj (by rw [e]; exact h1))]
  · rw [Heap.get_put, if_neg (fun e => hj (by rw [e]; exact h1))]; exact hj
omit [Env] in
theorem HRel.write {ids : Nat → Prop} {H : Heap} {b : Nat} {o x : Obj} (h : H.get b = some x) : HRel ids H (H.write b o) := by
  refine ⟨Nat.le_refl _, fun j hj hn => ?_, ⟨[b], rfl, fun j _ hn => ?_⟩, fun j hj => ?_⟩
  · rw [Heap.get_write] at hn
    by_cases e : j = b
    · rw [e, h] at hj; cases hj
    · rw [if_neg e] at hn; exact (hn hj).elim
  · rw [Heap.get_write, if_neg (by simpa using hn)]
  · rw [Heap.get_write]; split
    · simp
    · exact hj

def CallHeap (call : CallA) : Prop := ∀ H f args v H', call H f args = some (v, H') → HRel (fun _ => False) H H'

section
variable {C : Ctx} {T : Tr AV} {H H' : Heap} {id : Nat} {v : AV}

omit [Env] in
theorem same_loc {r : Option AV} (h : same H r = some (v, H')) : H' = H ∧ ∀ H2, same H2 r = some (v, H2) := by
  obtain ⟨e, e2⟩ := same_eq h
  exact ⟨e2, fun H2 => by rw [e]; rfl⟩

omit [Env] in
theorem alloc_loc {t : TypeId} (h : allocA C H id t = some (v, H')) : ∃ ob, H.add id ob = some H' ∧ ∀ H2 H2', H2.add id ob = some H2' → allocA C H2 id t = some (v, H2') := by
  unfold allocA at h
  split at h
  · rename_i i e1
    split at h
    · rename_i z e2
      split at h
      · rename_i H1 e3
        cases h
        exact ⟨_, e3, fun H2 H2' e => by simp only [allocA, e1, e2, e]⟩
      · cases h
    · cases h
  · cases h
omit [Env] in
theorem box_loc {x : AV} (h : boxA H id x = some (v, H')) : ∃ ob, H.add id ob = some H' ∧ ∀ H2 H2', H2.add id ob = some H2' → boxA H2 id x = some (v, H2') := by
  unfold boxA at h
  split at h
  · rename_i H1 e3
    cases h
    exact ⟨_, e3, fun H2 H2' e => by simp only [boxA, e]⟩
  · cases h
omit [Env] in
theorem buildSlice_loc {t : TypeId} {len : Nat} {ps : List (Nat × AV)} (h : buildSliceA C H id t len ps = some (v, H')) : ∃ ob, H.add id ob = some H' ∧ ∀ H2 H2', H2.add id ob = some H2' → buildSliceA C H2 id t len ps = some (v, H2') := by
  unfold buildSliceA at h
  split at h
  · rename_i e si by_ ze zv0 e1
    split at h
    · rename_i j e2
      split at h
      · rename_i z e3
        cases e4 : (Nat.beq z.length j.size && !Nat.beq j.size 0 && Nat.ble (len * j.size) 16777216) with
        | false => rw [e4] at h; cases h
        | true =>
          rw [e4] at h
          simp only [cond_true] at h
          split at h
          · rename_i cs e5
            cases e6 : Nat.beq cs.length (len * j.size) with
            | false => rw [e6] at h; cases h
            | true =>
              rw [e6] at h
              simp only [cond_true] at h
              split at h
              · rename_i H1 e7
                cases h
                exact ⟨_, e7, fun H2 H2' e => by simp only [buildSliceA, e1, e2, e3, e4, e5, e6, e, cond_true]⟩
              · cases h
          · cases h
      · cases h
    · cases h
  · cases h
omit [Env] in
theorem makeSlice_loc {t : TypeId} {x y : AV} (h : makeSliceA C H id t x y = some (v, H')) : ∃ ob, H.add id ob = some H' ∧ ∀ H2 H2', H2.add id ob = some H2' → makeSliceA C H2 id t x y = some (v, H2') := by
  cases x <;> cases y <;> simp only [makeSliceA] at h <;> try (cases h; done)
  rename_i k n k' c
  split at h
  · rename_i hnc
    split at h
    · rename_i e si by_ ze zv0 e1
      split at h
      · rename_i j e2
        split at h
        · rename_i z e3
          cases e4 : (Nat.beq z.length j.size && !Nat.beq j.size 0 && Nat.ble j.bytes 1000000 && Nat.ble (n.toNat * j.bytes) 140737488355328) with
          | false => rw [e4] at h; cases h
          | true =>
            rw [e4] at h
            simp only [cond_true] at h
            split at h
            · rename_i H1 e5
              cases h
              exact ⟨_, e5, fun H2 H2' e => by simp only [makeSliceA]; rw [if_pos hnc]; simp only [e1, e2, e3, e4, cond_true, e]⟩
            · cases h
        · cases h
      · cases h
    · cases h
  · cases h

omit [Env] in
theorem bound_of_cond' {c : Bool} {α : Type} {x : Option α} {z : α} (h : cond c none x = some z) : c = false ∧ x = some z := by
  cases c with
  | true => cases h
  | false => exact ⟨rfl, h⟩
omit [Env] in
theorem bound_of_cond {c : Bool} {α : Type} {x : Option α} {z : α} (h : cond c x none = some z) : c = true ∧ x = some z := by
  cases c with
  | false => cases h
  | true => exact ⟨rfl, h⟩

omit [Env] in
theorem store_heap {ids : Nat → Prop} {t : TypeId} {x p : AV} (h : evStore C H t x p = some H') : HRel ids H H' := by
  cases p <;> simp only [evStore] at h <;> try (cases h; done)
  split at h
  · rename_i i ob e1 e2
    obtain ⟨_, h⟩ := bound_of_cond h
    cases h
    exact HRel.write (Heap.cells_eq e2).1
  · cases h
omit [Env] in
theorem append_heap {t xt : TypeId} {s x : AV} (h : appendA C H id t xt s x = some (v, H')) : HRel (· = id) H H' := by
  unfold appendA at h
  split at h
  · split at h
    · split at h
      · split at h
        · split at h
          · cases h; exact HRel.refl _
          · cases h; exact HRel.refl _
          · cases h
        · split at h
          · split at h
            · obtain ⟨_, h⟩ := bound_of_cond' h
              obtain ⟨_, h⟩ := bound_of_cond h
              split at h
              · rename_i e; cases h; exact HRel.add e
              · cases h
            · obtain ⟨_, h⟩ := bound_of_cond' h
              split at h
              · rename_i e1
                obtain ⟨_, h⟩ := bound_of_cond h
                split at h
                · rename_i e2; cases h; exact (HRel.write (ids := (· = id)) (Heap.cells_eq e1).1).trans (fun _ h => h) (fun _ h => h) (HRel.add e2)
                · cases h
              · cases h
            · obtain ⟨_, h⟩ := bound_of_cond' h
              cases h
          · cases h
        · cases h
      · cases h
    · cases h
  · cases h

omit [Env] in
theorem appendZ_heap {t xt : TypeId} {s x : AV} (h : appendZA C H id t xt s x = some (v, H')) : HRel (· = id) H H' := by
  unfold appendZA at h
  split at h
  · split at h
    · split at h
      · split at h
        · obtain ⟨_, h⟩ := bound_of_cond h
          split at h
          · cases h; exact HRel.refl _
          · cases h; exact HRel.refl _
          · cases h
        · split at h
          · split at h
            · replace h := bound_of_cond h
              obtain ⟨_, h⟩ := h
              split at h
              · replace h := bound_of_cond h
                obtain ⟨_, h⟩ := h
                split at h
                · rename_i e; cases h; exact HRel.add e
                · cases h
              · split at h
                · rename_i e1
                  replace h := bound_of_cond h
                  obtain ⟨_, h⟩ := h
                  split at h
                  · rename_i e2; cases h; exact (HRel.write (ids := (· = id)) (Heap.cells_eq e1).1).trans (fun _ h => h) (fun _ h => h) (HRel.add e2)
                  · cases h
                · cases h
              · cases h
            · cases h
          · cases h
        · cases h
      · cases h
    · cases h
  · cases h
omit [Env] in
theorem appendH_heap {t xt : TypeId} {s x : AV} (h : appendHA C H id t xt s x = some (v, H')) : HRel (· = id) H H' := by
  unfold appendHA at h
  split at h
  · rename_i e; cases h; exact append_heap e
  · exact appendZ_heap h
omit [Env] in
theorem makeMap_loc (h : makeMapA H id = some (v, H')) : ∃ ob, H.add id ob = some H' ∧ ∀ H2 H2', H2.add id ob = some H2' → makeMapA H2 id = some (v, H2') := by
  unfold makeMapA at h
  split at h
  · rename_i H1 e
    cases h
    exact ⟨_, e, fun H2 H2' e2 => by unfold makeMapA; rw [e2]⟩
  · cases h
omit [Env] in
theorem mapUpdate_heap {ids : Nat → Prop} {t : TypeId} {m k x : AV} (h : mapUpdateA C H t m k x = some H') : HRel ids H H' := by
  unfold mapUpdateA at h
  split at h
  · split at h
    · split at h
      · obtain ⟨_, h⟩ := bound_of_cond h
        split at h
        · rename_i ob e
          split at h
          · cases h; exact HRel.write (Heap.entries_eq e).1
          · cases h
        · cases h
      · cases h
    · cases h
  · cases h
omit [Env] in
theorem evOp_heap {call : CallA} (hcall : CallHeap call) {o : Oper} (h : evOp C call H id T o = some (v, H')) : HRel (· = id) H H' := by
  unfold evOp at h
  split at h
  · obtain ⟨_, rfl⟩ := same_eq h; exact HRel.refl _
  · obtain ⟨_, rfl⟩ := same_eq h; exact HRel.refl _
  · split at h
    · split at h
      · obtain ⟨_, rfl⟩ := same_eq h; exact HRel.refl _
      · obtain ⟨_, rfl⟩ := same_eq h; exact HRel.refl _
    · cases h
  · obtain ⟨ob, e, _⟩ := alloc_loc h; exact HRel.add e
  · split at h
    · obtain ⟨ob, e, _⟩ := box_loc h; exact HRel.add e
    · cases h
  · split at h
    · obtain ⟨_, rfl⟩ := same_eq h; exact HRel.refl _
    · cases h
  · split at h
    · obtain ⟨ob, e, _⟩ := buildSlice_loc h; exact HRel.add e
    · cases h
  · split at h
    · obtain ⟨_, rfl⟩ := same_eq h; exact HRel.refl _
    · cases h
  · split at h
    · split at h
      · rename_i e; cases h; exact store_heap e
      · cases h
    · cases h
  · split at h
    · cases h; exact HRel.refl _
    · cases h; exact HRel.refl _
    · cases h
  · split at h
    · obtain ⟨_, rfl⟩ := same_eq h; exact HRel.refl _
    · cases h
  · split at h
    · obtain ⟨_, rfl⟩ := same_eq h; exact HRel.refl _
    · cases h
  · split at h
    · obtain ⟨_, rfl⟩ := same_eq h; exact HRel.refl _
    · cases h
  · split at h
    · obtain ⟨_, rfl⟩ := same_eq h; exact HRel.refl _
    · cases h
  · split at h
    · obtain ⟨_, rfl⟩ := same_eq h; exact HRel.refl _
    · cases h
  · split at h
    · obtain ⟨_, rfl⟩ := same_eq h; exact HRel.refl _
    · cases h
  · split at h
    · obtain ⟨_, rfl⟩ := same_eq h; exact HRel.refl _
    · cases h
  · split at h
    · obtain ⟨_, rfl⟩ := same_eq h; exact HRel.refl _
    · cases h
  · split at h
    · obtain ⟨_, rfl⟩ := same_eq h; exact HRel.refl _
    · cases h
  · split at h
    · obtain ⟨ob, e, _⟩ := makeSlice_loc h; exact HRel.add e
    · cases h
  · unfold callA at h
    split at h
    · cases h
    · split at h
      · split at h
        · exact (hcall _ _ _ _ _ h).weaken (fun _ q => q.elim)
        · cases h
      · split at h
        · split at h
          · obtain ⟨_, rfl⟩ := same_eq h; exact HRel.refl _
          · cases h
        · cases h
      · split at h
        · exact appendH_heap h
        · cases h
      · split at h
        · obtain ⟨_, rfl⟩ := same_eq h; exact HRel.refl _
        · cases h
      · split at h
        · obtain ⟨_, rfl⟩ := same_eq h; exact HRel.refl _
        · cases h
      · cases h
  · split at h
    · cases h; exact HRel.refl _
    · cases h
  · obtain ⟨ob, e, _⟩ := makeMap_loc h; exact HRel.add e
  · split at h
    · obtain ⟨_, rfl⟩ := same_eq h; exact HRel.refl _
    · cases h
  · split at h
    · split at h
      · rename_i e; cases h; exact mapUpdate_heap e
      · cases h
    · cases h
  · cases h

omit [Env] in
/-- an operation that looks at no memory -/
theorem loc0 {call : CallA} {o : Oper} (hc : clsOf o = 0) (h : evOp C call H id T o = some (v, H')) : H' = H ∧ ∀ H2 id2, evOp C call H2 id2 T o = some (v, H2) := by
  unfold clsOf at hc
  unfold evOp at h ⊢
  cases ho : o.op <;> simp only [ho] at h hc ⊢ <;> try (cases hc; done)
  case move x => obtain ⟨a, b⟩ := same_loc h; exact ⟨a, fun H2 _ => b H2⟩
  case assign x => obtain ⟨a, b⟩ := same_loc h; exact ⟨a, fun H2 _ => b H2⟩
  case pick c x y =>
    split at h
    · rename_i t e1
      split at h
      · obtain ⟨a, b⟩ := same_loc h; exact ⟨a, fun H2 _ => b H2⟩
      · obtain ⟨a, b⟩ := same_loc h; exact ⟨a, fun H2 _ => b H2⟩
    · cases h
  case build t ps =>
    split at h
    · rename_i u e1
      obtain ⟨a, b⟩ := same_loc h; exact ⟨a, fun H2 _ => b H2⟩
    · cases h
  case nilCheck x =>
    split at h
    · rename_i e1; cases h; exact ⟨rfl, fun H2 _ => rfl⟩
    · rename_i e1; cases h; exact ⟨rfl, fun H2 _ => rfl⟩
    · cases h
  case binOp op t x y ty =>
    split at h
    · rename_i u1 u2 e1 e2
      obtain ⟨a, b⟩ := same_loc h; exact ⟨a, fun H2 _ => b H2⟩
    · cases h
  case unOp op t x =>
    split at h
    · rename_i u e1
      obtain ⟨a, b⟩ := same_loc h; exact ⟨a, fun H2 _ => b H2⟩
    · cases h
  case makeFunc f first captured =>
    split at h
    · rename_i u1 u2 e1 e2
      cases h; exact ⟨rfl, fun H2 _ => rfl⟩
    · cases h
  case field t x f =>
    split at h
    · rename_i u e1
      obtain ⟨a, b⟩ := same_loc h; exact ⟨a, fun H2 _ => b H2⟩
    · cases h
  case fieldAddr t x f =>
    split at h
    · rename_i u e1
      obtain ⟨a, b⟩ := same_loc h; exact ⟨a, fun H2 _ => b H2⟩
    · cases h
  case indexAddr t x i =>
    split at h
    · rename_i u1 u2 e1 e2
      obtain ⟨a, b⟩ := same_loc h; exact ⟨a, fun H2 _ => b H2⟩
    · cases h
  case index t x i =>
    split at h
    · rename_i u1 u2 e1 e2
      obtain ⟨a, b⟩ := same_loc h; exact ⟨a, fun H2 _ => b H2⟩
    · cases h
  case extract x i =>
    split at h
    · rename_i vs e1
      obtain ⟨a, b⟩ := same_loc h; exact ⟨a, fun H2 _ => b H2⟩
    · cases h
  case call c =>
    obtain ⟨callee, args, tys⟩ := c
    cases callee with
    | value f => cases hc
    | invoke r m => cases hc
    | builtin bi =>
      cases bi <;> simp only at hc <;> try (cases hc; done)
      all_goals
        unfold callA at h ⊢
        split at h
        · cases h
        · rename_i vs e1
          simp only at h
          split at h
          · obtain ⟨a, b⟩ := same_loc h
            exact ⟨a, fun H2 _ => b H2⟩
          · cases h

omit [Env] in
/-- an operation that makes a block -/
theorem loc1 {call : CallA} {o : Oper} (hc : clsOf o = 1) (h : evOp C call H id T o = some (v, H')) : ∃ ob, H.add id ob = some H' ∧ ∀ H2 H2', H2.add id ob = some H2' → evOp C call H2 id T o = some (v, H2') := by
  unfold clsOf at hc
  unfold evOp at h ⊢
  cases ho : o.op <;> simp only [ho] at h hc ⊢ <;> try (cases hc; done)
  case alloc t => exact alloc_loc h
  case box t x =>
    split at h
    · rename_i u e1
      obtain ⟨ob, a, b⟩ := box_loc h; exact ⟨ob, a, fun H2 H2' e => b H2 H2' e⟩
    · cases h
  case buildSlice t n ps =>
    split at h
    · rename_i u e1
      obtain ⟨ob, a, b⟩ := buildSlice_loc h; exact ⟨ob, a, fun H2 H2' e => b H2 H2' e⟩
    · cases h
  case makeSlice t l c =>
    split at h
    · rename_i u1 u2 e1 e2
      obtain ⟨ob, a, b⟩ := makeSlice_loc h; exact ⟨ob, a, fun H2 H2' e => b H2 H2' e⟩
    · cases h
  case makeMap t r =>
    cases r with
    | some r => cases h
    | none => exact makeMap_loc h
  case call c =>
    obtain ⟨callee, args, tys⟩ := c
    cases callee with
    | value f => cases hc
    | invoke r m => cases hc
    | builtin bi => cases bi <;> simp only at hc <;> (cases hc; done)

omit [Env] in
theorem toString_at {H2 : Heap} {b0 off n : Nat} {a b : TypeId} (hc : H2.cells b0 = H.cells b0) : toStringA C H2 a b (.sl b0 off n) = toStringA C H a b (.sl b0 off n) := by
  unfold toStringA
  cases C.ty a with
  | none => rfl
  | some i => cases C.ty b with
    | none => rfl
    | some j =>
      obtain ⟨d, _, _, _, _⟩ := i
      obtain ⟨d2, _, _, _, _⟩ := j
      cases d <;> try rfl
      cases d2 <;> try rfl
      rename_i e
      simp only
      cases C.ty e with
      | none => rfl
      | some ei =>
        obtain ⟨d3, _, _, _, _⟩ := ei
        cases d3 <;> try rfl
        rename_i k
        cases k <;> try rfl
        simp only [hc]
omit [Env] in
theorem lenMap_at {H2 : Heap} {b0 : Nat} {d : TypeDesc} (hc : H2.entries b0 = H.entries b0) : lenMapA H2 d (.map b0) = lenMapA H d (.map b0) := by
  cases d <;> try rfl
  simp only [lenMapA, hc]
omit [Env] in
/-- an operation that looks at one block -/
theorem loc2 {call : CallA} {o : Oper} (hc : clsOf o = 2) {base i : Nat} (h : evOp C call H id T o = some (v, H')) :
    H' = H ∧ ∀ H2 id2, (∀ b, blkOf T base i o = some b → H2.get b = H.get b) → evOp C call H2 id2 T o = some (v, H2) := by
  unfold clsOf at hc
  unfold evOp at h ⊢
  cases ho : o.op <;> simp only [ho] at h hc ⊢ <;> try (cases hc; done)
  case load t x =>
    split at h
    · rename_i u e1
      obtain ⟨e2, rfl⟩ := same_eq h
      refine ⟨rfl, fun H2 _ hb => ?_⟩
      cases u <;> simp only [evLoad] at e2 <;> try (cases e2; done)
      rename_i b off
      have := Heap.cells_get (hb b (by simp only [blkOf, ho, e1]))
      simp only [evLoad, this, e2, same]
    · cases h
  case slice t x lo hi mx =>
    cases mx with
    | some m => cases h
    | none =>
      simp only at h ⊢
      split at h
      · rename_i u1 u2 u3 e1 e2 e3
        obtain ⟨e4, rfl⟩ := same_eq h
        refine ⟨rfl, fun H2 _ hb => ?_⟩
        have : sliceA C H2 t u1 u2 u3 = some v := by
          have other : ∀ u, (∀ b off n, u ≠ .sl b off n) → sliceA C H' t u u2 u3 = some v → sliceA C H2 t u u2 u3 = some v := by
            intro u hu e
            cases hct : C.ty t <;> cases u <;> simp only [sliceA, hct] at e ⊢ <;> first | exact e | exact absurd rfl (hu _ _ _)
          by_cases hs : ∃ b off n, u1 = .sl b off n
          · obtain ⟨b, off, n, rfl⟩ := hs
            have := Heap.cells_get (hb b (by simp only [blkOf, ho, e1]))
            cases hct : C.ty t with
            | none => simp only [sliceA, hct] at e4; cases e4
            | some i => simp only [sliceA, hct, this] at e4 ⊢; exact e4
          · exact other u1 (fun b off n e => hs ⟨b, off, n, e⟩) e4
        simp only [this, same]
      · cases h
  case convert a b x =>
    split at h
    · rename_i u e1
      obtain ⟨e2, rfl⟩ := same_eq h
      refine ⟨rfl, fun H2 _ hb => ?_⟩
      have : convertHA C H2 a b u = some v := by
        unfold convertHA at e2 ⊢
        split at e2
        · exact e2
        · rename_i e3
          have other : ∀ u, (∀ b off n, u ≠ .sl b off n) → toStringA C H' a b u = some v → toStringA C H2 a b u = some v := by
            intro u hu e
            unfold toStringA at e ⊢
            split at e
            · split at e
              · split at e
                · split at e
                  · exact e
                  · exact absurd rfl (hu _ _ _)
                  · cases e
                · cases e
              · cases e
            · cases e
          by_cases hs : ∃ b off n, u = .sl b off n
          · obtain ⟨b0, off, n, rfl⟩ := hs
            have hc2 := Heap.cells_get (hb b0 (by simp only [blkOf, ho, e1]))
            rw [toString_at hc2]; exact e2
          · exact other u (fun b off n e => hs ⟨b, off, n, e⟩) e2
      simp only [this, same]
    · cases h
  case lookup t m k ok =>
    split at h
    · rename_i u1 u2 e1 e2
      obtain ⟨e3, rfl⟩ := same_eq h
      refine ⟨rfl, fun H2 _ hb => ?_⟩
      have : lookupA C H2 t u1 u2 ok = some v := by
        by_cases hs : ∃ b, u1 = .map b
        · obtain ⟨b0, rfl⟩ := hs
          have hc2 := Heap.entries_get (hb b0 (by simp only [blkOf, ho, e1]))
          unfold lookupA at e3 ⊢
          simp only [hc2]; exact e3
        · unfold lookupA at e3 ⊢
          cases u1 <;> first | exact e3 | exact (hs ⟨_, rfl⟩).elim
      simp only [this, same]
    · cases h
  case call c =>
    obtain ⟨callee, args, tys⟩ := c
    cases callee with
    | value f => cases hc
    | invoke r m => cases hc
    | builtin bi =>
      cases bi <;> simp only at hc <;> try (cases hc; done)
      unfold callA at h ⊢
      split at h
      · cases h
      · rename_i vs e1
        simp only at h
        split at h
        · rename_i t x rest e2
          split at h
          · rename_i i e3
            obtain ⟨e4, rfl⟩ := same_eq h
            refine ⟨rfl, fun H2 _ hb => ?_⟩
            have : lenHA H2 i.desc x = some v := by
              by_cases hs : ∃ b, x = .map b
              · obtain ⟨b0, rfl⟩ := hs
                have hc2 := Heap.entries_get (hb b0 (by simp only [blkOf, ho, e1]))
                simp only [lenHA] at e4 ⊢
                rw [lenMap_at hc2]; exact e4
              · unfold lenHA at e4 ⊢
                cases x <;> first | exact e4 | exact (hs ⟨_, rfl⟩).elim
            simp only [e2, e3, this, same]
          · cases h
        · cases h
end
end Go.Ev
