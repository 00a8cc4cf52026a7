import Derived.Test.YtcbdmlpfepdblaaGreatDoorEvC
namespace Go.Ev
noncomputable section
open Go Go.RowKit
variable [Env]

structure HRel (ids : Nat → Prop) (H H' : Heap) : Prop where
  next : H.next ≤ H'.next
  made : ∀ b, H.get b = none → H'.get b ≠ none → ids b ∨ (H.next ≤ b ∧ b < H'.next)
  log : ∃ l, H'.log = l ++ H.log ∧ ∀ b, H.get b ≠ none → b ∉ l → H'.get b = H.get b
  keep : ∀ b, H.get b ≠ none → H'.get b ≠ none

omit [Env] in
theorem HRel.refl {ids : Nat → Prop} (H : Heap) : HRel ids H H := ⟨Nat.le_refl _, fun _ h k => (k h).elim, ⟨[], rfl, fun _ _ _ => rfl⟩, fun _ h => h⟩
omit [Env] in
theorem HRel.trans {i1 i2 ids : Nat → Prop} {H H1 H2 : Heap} (h1 : ∀ b, i1 b → ids b) (h2 : ∀ b, i2 b → ids b) (h : HRel i1 H H1) (k : HRel i2 H1 H2) : HRel ids H H2 := by
  refine ⟨Nat.le_trans h.next k.next, fun b hb hn => ?_, ?_, fun b hb => k.keep b (h.keep b hb)⟩
  · by_cases e : H1.get b = none
    · rcases k.made b e hn with q | q
      · exact .inl (h2 b q)
      · exact .inr ⟨Nat.le_trans h.next q.1, q.2⟩
    · rcases h.made b hb e with q | q
      · exact .inl (h1 b q)
      · exact .inr ⟨q.1, Nat.lt_of_lt_of_le q.2 k.next⟩
  · obtain ⟨l1, e1, f1⟩ := h.log
    obtain ⟨l2, e2, f2⟩ := k.log
    refine ⟨l2 ++ l1, by rw [e2, e1, List.append_assoc], fun b hb hn => ?_⟩
    simp only [List.mem_append, not_or] at hn
    rw [f2 b (h.keep b hb) hn.1, f1 b hb hn.2]
omit [Env] in
theorem HRel.weaken {i1 ids : Nat → Prop} {H H1 : Heap} (h1 : ∀ b, i1 b → ids b) (h : HRel i1 H H1) : HRel ids H H1 :=
  { h with made := fun b hb hn => (h.made b hb hn).imp (h1 b) id }
omit [Env] in
theorem HRel.add {H H' : Heap} {b : Nat} {o : Obj} (h : H.add b o = some H') : HRel (· = b) H H' := by
  obtain ⟨h1, rfl⟩ := Heap.add_eq h
  refine ⟨Nat.le_refl _, fun j hj hn => ?_, ⟨[], rfl, fun j hj _ => ?_⟩, fun j hj => ?_⟩
  · rw [Heap.get_put] at hn
    by_cases e : j = b
    · exact .inl e
    · rw [if_neg e] at hn; exact (hn hj).elim
  · rw [Heap.get_put, if_neg (fun e => hj (by rw [e]; exact h1))]
  · rw [Heap.get_put, if_neg (fun e => hj (by rw [e]; exact h1))]; exact hj
omit [Env] in
theorem HRel.write {ids : Nat → Prop} {H : Heap} {b : Nat} {o x : Obj} (h : H.get b = some x) : HRel ids H (H.write b o) := by
  refine ⟨Nat.le_refl _, fun j hj hn => ?_, ⟨[b], rfl, fun j _ hn => ?_⟩, fun j hj => ?_⟩
  · rw [Heap.get_write] at hn
    by_cases e : j = b
    · rw [e, h] at hj; cases hj
    · rw [if_neg e] at hn; exact (hn hj).elim
  · rw [Heap.get_write, if_neg (by simpa using hn)]
  · rw [Heap.get_write]; split
    · simp
    · exact hj

def CallHeap (call : CallA) : Prop := ∀ H f args v H', call H f args = some (v, H') → HRel (fun _ => False) H H'

section
variable {C : Ctx} {T : Tr AV} {H H' : Heap} {id : Nat} {v : AV}

omit [Env] in
theorem same_loc {r : Option AV} (h : same H r = some (v, H')) : H' = H ∧ ∀ H2, same H2 r = some (v, H2) := by
  obtain ⟨e, e2⟩ := same_eq h
  exact ⟨e2, fun H2 => by rw [e]; rfl⟩

omit [Env] in
theorem alloc_loc {t : TypeId} (h : allocA C H id t = some (v, H')) : ∃ ob, H.add id ob = some H' ∧ ∀ H2 H2', H2.add id ob = some H2' → allocA C H2 id t = some (v, H2') := by
  unfold allocA at h
  split at h
  · rename_i i e1
    split at h
    · rename_i z e2
      split at h
      · rename_i H1 e3
        cases h
        exact ⟨_, e3, fun H2 H2' e => by simp only [allocA, e1, e2, e]⟩
      · cases h
    · cases h
  · cases h
omit [Env] in
theorem box_loc {x : AV} (h : boxA H id x = some (v, H')) : ∃ ob, H.add id ob = some H' ∧ ∀ H2 H2', H2.add id ob = some H2' → boxA H2 id x = some (v, H2') := by
  unfold boxA at h
  split at h
  · rename_i H1 e3
    cases h
    exact ⟨_, e3, fun H2 H2' e => by simp only [boxA, e]⟩
  · cases h
omit [Env] in
theorem buildSlice_loc {t : TypeId} {len : Nat} {ps : List (Nat × AV)} (h : buildSliceA C H id t len ps = some (v, H')) : ∃ ob, H.add id ob = some H' ∧ ∀ H2 H2', H2.add id ob = some H2' → buildSliceA C H2 id t len ps = some (v, H2') := by
  unfold buildSliceA at h
  split at h
  · rename_i e si by_ ze zv0 e1
    split at h
    · rename_i j e2
      split at h
      · rename_i z e3
        cases e4 : (Nat.beq z.length j.size && !Nat.beq j.size 0 && Nat.ble (len * j.size) 16777216) with
        | false => rw [e4] at h; cases h
        | true =>
          rw [e4] at h
          simp only [cond_true] at h
          split at h
          · rename_i cs e5
            cases e6 : Nat.beq cs.length (len * j.size) with
            | false => rw [e6] at h; cases h
            | true =>
              rw [e6] at h
              simp only [cond_true] at h
              split at h
              · rename_i H1 e7
                cases h
                exact ⟨_, e7, fun H2 H2' e => by simp only [buildSliceA, e1, e2, e3, e4, e5, e6, e, cond_true]⟩
              · cases h
          · cases h
      · cases h
    · cases h
  · cases h
omit [Env] in
theorem makeSlice_loc {t : TypeId} {x y : AV} (h : makeSliceA C H id t x y = some (v, H')) : ∃ ob, H.add id ob = some H' ∧ ∀ H2 H2', H2.add id ob = some H2' → makeSliceA C H2 id t x y = some (v, H2') := by
  cases x <;> cases y <;> simp only [makeSliceA] at h <;> try (cases h; done)
  rename_i k n k' c
  split at h
  · rename_i hnc
    split at h
    · rename_i e si by_ ze zv0 e1
      split at h
      · rename_i j e2
        split at h
        · rename_i z e3
          cases e4 : (Nat.beq z.length j.size && !Nat.beq j.size 0 && Nat.ble j.bytes 1000000 && Nat.ble (n.toNat * j.bytes) 140737488355328) with
          | false => rw [e4] at h; cases h
          | true =>
            rw [e4] at h
            simp only [cond_true] at h
            split at h
            · rename_i H1 e5
              cases h
              exact ⟨_, e5, fun H2 H2' e => by simp only [makeSliceA]; rw [if_pos hnc]; simp only [e1, e2, e3, e4, cond_true, e]⟩
            · cases h
        · cases h
      · cases h
    · cases h
  · cases h

omit [Env] in
theorem bound_of_cond' {c : Bool} {α : Type} {x : Option α} {z : α} (h : cond c none x = some z) : c = false ∧ x = some z := by
  cases c with
  | true => cases h
  | false => exact ⟨rfl, h⟩
omit [Env] in
theorem bound_of_cond {c : Bool} {α : Type} {x : Option α} {z : α} (h : cond c x none = some z) : c = true ∧ x = some z := by
  cases c with
  | false => cases h
  | true => exact ⟨rfl, h⟩

omit [Env] in
theorem store_heap {ids : Nat → Prop} {t : TypeId} {x p : AV} (h : evStore C H t x p = some H') : HRel ids H H' := by
  cases p <;> simp only [evStore] at h <;> try (cases h; done)
  split at h
  · rename_i i ob e1 e2
    obtain ⟨_, h⟩ := bound_of_cond h
    cases h
    exact HRel.write (Heap.cells_eq e2).1
  · cases h
omit [Env] in
theorem append_heap {t xt : TypeId} {s x : AV} (h : appendA C H id t xt s x = some (v, H')) : HRel (· = id) H H' := by
  unfold appendA at h
  split at h
  · split at h
    · split at h
      · split at h
        · split at h
          · cases h; exact HRel.refl _
          · cases h; exact HRel.refl _
          · cases h
        · split at h
          · split at h
            · obtain ⟨_, h⟩ := bound_of_cond' h
              obtain ⟨_, h⟩ := bound_of_cond h
              split at h
              · rename_i e; cases h; exact HRel.add e
              · cases h
            · obtain ⟨_, h⟩ := bound_of_cond' h
              split at h
              · rename_i e1
                obtain ⟨_, h⟩ := bound_of_cond h
                split at h
                · rename_i e2; cases h; exact (HRel.write (ids := (· = id)) (Heap.cells_eq e1).1).trans (fun _ h => h) (fun _ h => h) (HRel.add e2)
                · cases h
              · cases h
            · obtain ⟨_, h⟩ := bound_of_cond' h
              cases h
          · cases h
        · cases h
      · cases h
    · cases h
  · cases h

omit [Env] in
theorem appendZ_heap {t xt : TypeId} {s x : AV} (h : appendZA C H id t xt s x = some (v, H')) : HRel (· = id) H H' := by
  unfold appendZA at h
  split at h
  · split at h
    · split at h
      · split at h
        · obtain ⟨_, h⟩ := bound_of_cond h
          split at h
          · cases h; exact HRel.refl _
          · cases h; exact HRel.refl _
          · cases h
        · split at h
          · split at h
            · replace h := bound_of_cond h
              obtain ⟨_, h⟩ := h
              split at h
              · replace h := bound_of_cond h
                obtain ⟨_, h⟩ := h
                split at h
                · rename_i e; cases h; exact HRel.add e
                · cases h
              · split at h
                · rename_i e1
                  replace h := bound_of_cond h
                  obtain ⟨_, h⟩ := h
                  split at h
                  · rename_i e2; cases h; exact (HRel.write (ids := (· = id)) (Heap.cells_eq e1).1).trans (fun _ h => h) (fun _ h => h) (HRel.add e2)
                  · cases h
                · cases h
              · cases h
            · cases h
          · cases h
        · cases h
      · cases h
    · cases h
  · cases h
omit [Env] in
theorem appendH_heap {t xt : TypeId} {s x : AV} (h : appendHA C H id t xt s x = some (v, H')) : HRel (· = id) H H' := by
  unfold appendHA at h
  split at h
  · rename_i e; cases h; exact append_heap e
  · exact appendZ_heap h
omit [Env] in
theorem makeMap_loc (h : makeMapA H id = some (v, H')) : ∃ ob, H.add id ob = some H' ∧ ∀ H2 H2', H2.add id ob = some H2' → makeMapA H2 id = some (v, H2') := by
  unfold makeMapA at h
  split at h
  · rename_i H1 e
    cases h
    exact ⟨_, e, fun H2 H2' e2 => by unfold makeMapA; rw [e2]⟩
  · cases h
omit [Env] in
theorem mapUpdate_heap {ids : Nat → Prop} {t : TypeId} {m k x : AV} (h : mapUpdateA C H t m k x = some H') : HRel ids H H' := by
  unfold mapUpdateA at h
  split at h
  · split at h
    · split at h
      · obtain ⟨_, h⟩ := bound_of_cond h
        split at h
        · rename_i ob e
          split at h
          · cases h; exact HRel.write (Heap.entries_eq e).1
          · cases h
        · cases h
      · cases h
    · cases h
  · cases h
omit [Env] in
theorem evOp_heap {call : CallA} (hcall : CallHeap call) {o : Oper} (h : evOp C call H id T o = some (v, H')) : HRel (· = id) H H' := by
  unfold evOp at h
  split at h
  · obtain ⟨_, rfl⟩ := same_eq h; exact HRel.refl _
  · obtain ⟨_, rfl⟩ := same_eq h; exact HRel.refl _
  · split at h
    · split at h
      · obtain ⟨_, rfl⟩ := same_eq h; exact HRel.refl _
      · obtain ⟨_, rfl⟩ := same_eq h; exact HRel.refl _
    · cases h
  · obtain ⟨ob, e, _⟩ := alloc_loc h; exact HRel.add e
  · split at h
    · obtain ⟨ob, e, _⟩ := box_loc h; exact HRel.add e
    · cases h
  · split at h
    · obtain ⟨_, rfl⟩ := same_eq h; exact HRel.refl _
    · cases h
  · split at h
    · obtain ⟨ob, e, _⟩ := buildSlice_loc h; exact HRel.add e
    · cases h
  · split at h
    · obtain ⟨_, rfl⟩ := same_eq h; exact HRel.refl _
    · cases h
  · split at h
    · split at h
      · rename_i e; cases h; exact store_heap e
      · cases h
    · cases h
  · split at h
    · cases h; exact HRel.refl _
    · cases h; exact HRel.refl _
    · cases h
  · split at h
    · obtain ⟨_, rfl⟩ := same_eq h; exact HRel.refl _
    · cases h
  · split at h
    · obtain ⟨_, rfl⟩ := same_eq h; exact HRel.refl _
    · cases h
  · split at h
    · obtain ⟨_, rfl⟩ := same_eq h; exact HRel.refl _
    · cases h
  · split at h
    · obtain ⟨_, rfl⟩ := same_eq h; exact HRel.refl _
    · cases h
  · split at h
    · obtain ⟨_, rfl⟩ := same_eq h; exact HRel.refl _
    · cases h
  · split at h
    · obtain ⟨_, rfl⟩ := same_eq h; exact HRel.refl _
    · cases h
  · split at h
    · obtain ⟨_, rfl⟩ := same_eq h; exact HRel.refl _
    · cases h
  · split at h
    · obtain ⟨_, rfl⟩ := same_eq h; exact HRel.refl _
    · cases h
  · split at h
    · obtain ⟨_, rfl⟩ := same_eq h; exact HRel.refl _
    · cases h
  · split at h
    · obtain ⟨ob, e, _⟩ := makeSlice_loc h; exact HRel.add e
    · cases h
  · unfold callA at h
    split at h
    · cases h
    · split at h
      · split at h
        · exact (hcall _ _ _ _ _ h).weaken (fun _ q => q.elim)
        · cases h
      · split at h
        · split at h
          · obtain ⟨_, rfl⟩ := same_eq h; exact HRel.refl _
          · cases h
        · cases h
      · split at h
        · exact appendH_heap h
        · cases h
      · split at h
        · obtain ⟨_, rfl⟩ := same_eq h; exact HRel.refl _
        · cases h
      · split at h
        · obtain ⟨_, rfl⟩ := same_eq h; exact HRel.refl _
        · cases h
      · cases h
  · split at h
    · cases h; exact HRel.refl _
    · cases h
  · obtain ⟨ob, e, _⟩ := makeMap_loc h; exact HRel.add e
  · split at h
    · obtain ⟨_, rfl⟩ := same_eq h; exact HRel.refl _
    · cases h
  · split at h
    · split at h
      · rename_i e; cases h; exact mapUpdate_heap e
      · cases h
    · cases h
  · split at h
    · obtain ⟨_, rfl⟩ := same_eq h; exact HRel.refl _
    · cases h
  · split at h
    · obtain ⟨_, rfl⟩ := same_eq h; exact HRel.refl _
    · cases h
  · split at h
    · cases h; exact HRel.refl _
    · cases h
  · cases h

omit [Env] in
/-- an operation that looks at no memory -/
theorem loc0 {call : CallA} {o : Oper} (hc : clsOf o = 0) (h : evOp C call H id T o = some (v, H')) : H' = H ∧ ∀ H2 id2, evOp C call H2 id2 T o = some (v, H2) := by
  unfold clsOf at hc
  unfold evOp at h ⊢
  cases ho : o.op <;> simp only [ho] at h hc ⊢ <;> try (cases hc; done)
  case move x => obtain ⟨a, b⟩ := same_loc h; exact ⟨a, fun H2 _ => b H2⟩
  case assign x => obtain ⟨a, b⟩ := same_loc h; exact ⟨a, fun H2 _ => b H2⟩
  case pick c x y =>
    split at h
    · rename_i t e1
      split at h
      · obtain ⟨a, b⟩ := same_loc h; exact ⟨a, fun H2 _ => b H2⟩
      · obtain ⟨a, b⟩ := same_loc h; exact ⟨a, fun H2 _ => b H2⟩
    · cases h
  case build t ps =>
    split at h
    · rename_i u e1
      obtain ⟨a, b⟩ := same_loc h; exact ⟨a, fun H2 _ => b H2⟩
    · cases h
  case nilCheck x =>
    split at h
    · rename_i e1; cases h; exact ⟨rfl, fun H2 _ => rfl⟩
    · rename_i e1; cases h; exact ⟨rfl, fun H2 _ => rfl⟩
    · cases h
  case binOp op t x y ty =>
    split at h
    · rename_i u1 u2 e1 e2
      obtain ⟨a, b⟩ := same_loc h; exact ⟨a, fun H2 _ => b H2⟩
    · cases h
  case unOp op t x =>
    split at h
    · rename_i u e1
      obtain ⟨a, b⟩ := same_loc h; exact ⟨a, fun H2 _ => b H2⟩
    · cases h
  case makeInterface t x =>
    split at h
    · rename_i u e1
      obtain ⟨a, b⟩ := same_loc h; exact ⟨a, fun H2 _ => b H2⟩
    · cases h
  case typeAssert x xt t ok =>
    split at h
    · rename_i u e1
      obtain ⟨a, b⟩ := same_loc h; exact ⟨a, fun H2 _ => b H2⟩
    · cases h
  case makeFunc f first captured =>
    split at h
    · rename_i u1 u2 e1 e2
      cases h; exact ⟨rfl, fun H2 _ => rfl⟩
    · cases h
  case field t x f =>
    split at h
    · rename_i u e1
      obtain ⟨a, b⟩ := same_loc h; exact ⟨a, fun H2 _ => b H2⟩
    · cases h
  case fieldAddr t x f =>
    split at h
    · rename_i u e1
      obtain ⟨a, b⟩ := same_loc h; exact ⟨a, fun H2 _ => b H2⟩
    · cases h
  case indexAddr t x i =>
    split at h
    · rename_i u1 u2 e1 e2
      obtain ⟨a, b⟩ := same_loc h; exact ⟨a, fun H2 _ => b H2⟩
    · cases h
  case index t x i =>
    split at h
    · rename_i u1 u2 e1 e2
      obtain ⟨a, b⟩ := same_loc h; exact ⟨a, fun H2 _ => b H2⟩
    · cases h
  case extract x i =>
    split at h
    · rename_i vs e1
      obtain ⟨a, b⟩ := same_loc h; exact ⟨a, fun H2 _ => b H2⟩
    · cases h
  case call c =>
    obtain ⟨callee, args, tys⟩ := c
    cases callee with
    | value f => cases hc
    | invoke r m => cases hc
    | builtin bi =>
      cases bi <;> simp only at hc <;> try (cases hc; done)
      all_goals
        unfold callA at h ⊢
        split at h
        · cases h
        · rename_i vs e1
          simp only at h
          split at h
          · obtain ⟨a, b⟩ := same_loc h
            exact ⟨a, fun H2 _ => b H2⟩
          · cases h

omit [Env] in
/-- an operation that makes a block -/
theorem loc1 {call : CallA} {o : Oper} (hc : clsOf o = 1) (h : evOp C call H id T o = some (v, H')) : ∃ ob, H.add id ob = some H' ∧ ∀ H2 H2', H2.add id ob = some H2' → evOp C call H2 id T o = some (v, H2') := by
  unfold clsOf at hc
  unfold evOp at h ⊢
  cases ho : o.op <;> simp only [ho] at h hc ⊢ <;> try (cases hc; done)
  case alloc t => exact alloc_loc h
  case box t x =>
    split at h
    · rename_i u e1
      obtain ⟨ob, a, b⟩ := box_loc h; exact ⟨ob, a, fun H2 H2' e => b H2 H2' e⟩
    · cases h
  case buildSlice t n ps =>
    split at h
    · rename_i u e1
      obtain ⟨ob, a, b⟩ := buildSlice_loc h; exact ⟨ob, a, fun H2 H2' e => b H2 H2' e⟩
    · cases h
  case makeSlice t l c =>
    split at h
    · rename_i u1 u2 e1 e2
      obtain ⟨ob, a, b⟩ := makeSlice_loc h; exact ⟨ob, a, fun H2 H2' e => b H2 H2' e⟩
    · cases h
  case makeMap t r =>
    cases r with
    | some r => cases h
    | none => exact makeMap_loc h
  case call c =>
    obtain ⟨callee, args, tys⟩ := c
    cases callee with
    | value f => cases hc
    | invoke r m => cases hc
    | builtin bi => cases bi <;> simp only at hc <;> (cases hc; done)

omit [Env] in
theorem toString_at {H2 : Heap} {b0 off n : Nat} {a b : TypeId} (hc : H2.cells b0 = H.cells b0) : toStringA C H2 a b (.sl b0 off n) = toStringA C H a b (.sl b0 off n) := by
  unfold toStringA
  cases C.ty a with
  | none => rfl
  | some i => cases C.ty b with
    | none => rfl
    | some j =>
      obtain ⟨d, _, _, _, _⟩ := i
      obtain ⟨d2, _, _, _, _⟩ := j
      cases d <;> try rfl
      cases d2 <;> try rfl
      rename_i e
      simp only
      cases C.ty e with
      | none => rfl
      | some ei =>
        obtain ⟨d3, _, _, _, _⟩ := ei
        cases d3 <;> try rfl
        rename_i k
        cases k <;> try rfl
        simp only [hc]
omit [Env] in
theorem lenMap_at {H2 : Heap} {b0 : Nat} {d : TypeDesc} (hc : H2.entries b0 = H.entries b0) : lenMapA H2 d (.map b0) = lenMapA H d (.map b0) := by
  cases d <;> try rfl
  simp only [lenMapA, hc]
omit [Env] in
/-- an operation that looks at one block -/
theorem loc2 {call : CallA} {o : Oper} (hc : clsOf o = 2) {base i : Nat} (h : evOp C call H id T o = some (v, H')) :
    H' = H ∧ ∀ H2 id2, (∀ b, blkOf T base i o = some b → H2.get b = H.get b) → evOp C call H2 id2 T o = some (v, H2) := by
  unfold clsOf at hc
  unfold evOp at h ⊢
  cases ho : o.op <;> simp only [ho] at h hc ⊢ <;> try (cases hc; done)
  case load t x =>
    split at h
    · rename_i u e1
      obtain ⟨e2, rfl⟩ := same_eq h
      refine ⟨rfl, fun H2 _ hb => ?_⟩
      cases u <;> simp only [evLoad] at e2 <;> try (cases e2; done)
      rename_i b off
      have := Heap.cells_get (hb b (by simp only [blkOf, ho, e1]))
      simp only [evLoad, this, e2, same]
    · cases h
  case slice t x lo hi mx =>
    cases mx with
    | some m => cases h
    | none =>
      simp only at h ⊢
      split at h
      · rename_i u1 u2 u3 e1 e2 e3
        obtain ⟨e4, rfl⟩ := same_eq h
        refine ⟨rfl, fun H2 _ hb => ?_⟩
        have : sliceA C H2 t u1 u2 u3 = some v := by
          have other : ∀ u, (∀ b off n, u ≠ .sl b off n) → sliceA C H' t u u2 u3 = some v → sliceA C H2 t u u2 u3 = some v := by
            intro u hu e
            cases hct : C.ty t <;> cases u <;> simp only [sliceA, hct] at e ⊢ <;> first | exact e | exact absurd rfl (hu _ _ _)
          by_cases hs : ∃ b off n, u1 = .sl b off n
          · obtain ⟨b, off, n, rfl⟩ := hs
            have := Heap.cells_get (hb b (by simp only [blkOf, ho, e1]))
            cases hct : C.ty t with
            | none => simp only [sliceA, hct] at e4; cases e4
            | some i => simp only [sliceA, hct, this] at e4 ⊢; exact e4
          · exact other u1 (fun b off n e => hs ⟨b, off, n, e⟩) e4
        simp only [this, same]
      · cases h
  case convert a b x =>
    split at h
    · rename_i u e1
      obtain ⟨e2, rfl⟩ := same_eq h
      refine ⟨rfl, fun H2 _ hb => ?_⟩
      have : convertHA C H2 a b u = some v := by
        unfold convertHA at e2 ⊢
        split at e2
        · exact e2
        · rename_i e3
          have other : ∀ u, (∀ b off n, u ≠ .sl b off n) → toStringA C H' a b u = some v → toStringA C H2 a b u = some v := by
            intro u hu e
            unfold toStringA at e ⊢
            split at e
            · split at e
              · split at e
                · split at e
                  · exact e
                  · exact absurd rfl (hu _ _ _)
                  · cases e
                · cases e
              · cases e
            · cases e
          by_cases hs : ∃ b off n, u = .sl b off n
          · obtain ⟨b0, off, n, rfl⟩ := hs
            have hc2 := Heap.cells_get (hb b0 (by simp only [blkOf, ho, e1]))
            rw [toString_at hc2]; exact e2
          · exact other u (fun b off n e => hs ⟨b, off, n, e⟩) e2
      simp only [this, same]
    · cases h
  case lookup t m k ok =>
    split at h
    · rename_i u1 u2 e1 e2
      obtain ⟨e3, rfl⟩ := same_eq h
      refine ⟨rfl, fun H2 _ hb => ?_⟩
      have : lookupA C H2 t u1 u2 ok = some v := by
        by_cases hs : ∃ b, u1 = .map b
        · obtain ⟨b0, rfl⟩ := hs
          have hc2 := Heap.entries_get (hb b0 (by simp only [blkOf, ho, e1]))
          unfold lookupA at e3 ⊢
          simp only [hc2]; exact e3
        · unfold lookupA at e3 ⊢
          cases u1 <;> first | exact e3 | exact (hs ⟨_, rfl⟩).elim
      simp only [this, same]
    · cases h
  case call c =>
    obtain ⟨callee, args, tys⟩ := c
    cases callee with
    | value f => cases hc
    | invoke r m => cases hc
    | builtin bi =>
      cases bi <;> simp only at hc <;> try (cases hc; done)
      unfold callA at h ⊢
      split at h
      · cases h
      · rename_i vs e1
        simp only at h
        split at h
        · rename_i t x rest e2
          split at h
          · rename_i i e3
            obtain ⟨e4, rfl⟩ := same_eq h
            refine ⟨rfl, fun H2 _ hb => ?_⟩
            have : lenHA H2 i.desc x = some v := by
              by_cases hs : ∃ b, x = .map b
              · obtain ⟨b0, rfl⟩ := hs
                have hc2 := Heap.entries_get (hb b0 (by simp only [blkOf, ho, e1]))
                simp only [lenHA] at e4 ⊢
                rw [lenMap_at hc2]; exact e4
              · unfold lenHA at e4 ⊢
                cases x <;> first | exact e4 | exact (hs ⟨_, rfl⟩).elim
            simp only [e2, e3, this, same]
          · cases h
        · cases h
end
end
end Go.Ev
namespace Go.Ev
noncomputable section
open Go Go.RowKit
variable [Env]

structure SR (dd : List Deferred) (ι : Map) (s : St) (a : Act) (w : World) : Prop where
  wr : WR ι s.H w
  tr : TR ι s.T a.tmps
  size : a.tmps.size = s.N
  defers : a.defers = dd

def Nope : Nat → Prop := fun _ => False

variable {dd : List Deferred}
theorem put_sound {ι : Map} {s s' : St} {a : Act} {w : World} {dst : Option Tmp} {v : AV} {v' : Value} (h : s.put dst v = some s') (hs : SR dd ι s a w) (hv : VR ι v v') :
    SR dd ι s' (a.put dst v') w ∧ s'.H = s.H ∧ s'.N = s.N := by
  cases dst with
  | none => simp only [St.put, St.cut_eq, putA, St.eta] at h; cases h; exact ⟨hs, rfl, rfl⟩
  | some d =>
    simp only [St.put, St.cut_eq, putA] at h
    cases e : Nat.blt d s.N with
    | false => rw [e] at h; cases h
    | true =>
      rw [e] at h; cases h
      simp only [Nat.blt_eq] at e
      refine ⟨⟨hs.wr, ?_, by simp [Act.put, hs.size], hs.defers⟩, rfl, rfl⟩
      intro t x ht
      simp only [Act.put]
      rw [Tr.get_set] at ht
      by_cases q : t = d
      · subst q
        simp only [if_true] at ht; cases ht
        have hd : t < a.tmps.size := by rw [hs.size]; exact e
        exact ⟨v', by simp [hd], hv⟩
      · simp only [q, if_false] at ht
        obtain ⟨u, hu, r⟩ := hs.tr t x ht
        exact ⟨u, by rw [Array.getElem?_setIfInBounds_ne (Ne.symm q)]; exact hu, r⟩

theorem wanted_sound' {ι : Map} {T : Tr AV} {a : Act} {ops : Array Oper} {o : Oper} (hT : ∀ t, t ∈ o.looksAt ops → ∀ x, T.get t = some x → ∃ v, a.tmps[t]? = some v ∧ VR ι x v) {b : Bool} (h : wantedA ops T o = some b) : Region.wanted o (yielded ops a.tmps) = b := by
  unfold wantedA at h
  unfold Region.wanted
  split at h
  · rename_i hg; cases h; simp [hg]
  · rename_i j want hg
    simp only [hg]
    split at h
    · rename_i d hd
      have hmem : d ∈ o.looksAt ops := by simp [Oper.looksAt, hg, hd]
      split at h
      · rename_i t ht
        cases h
        obtain ⟨v, hv, r⟩ := hT d hmem _ ht
        simp only [VR] at r; subst r
        unfold yielded
        rw [hd]; simp [hv]
      · rename_i ht
        cases h
        obtain ⟨v, hv, r⟩ := hT d hmem _ ht
        simp only [VR, VRs] at r; obtain ⟨_, rfl, rfl⟩ := r
        unfold yielded
        rw [hd]; simp [hv]
      · cases h
    · cases h
theorem wanted_sound {ι : Map} {T : Tr AV} {a : Act} (hT : TR ι T a.tmps) {ops : Array Oper} {o : Oper} {b : Bool} (h : wantedA ops T o = some b) : Region.wanted o (yielded ops a.tmps) = b :=
  wanted_sound' (fun t _ x hx => hT t x hx) h

/-- how code is left that leaves so -/
def XR (dd : List Deferred) (ι : Map) (x : X) (s : St) (a : Act) (w : World) (e : Exit) : Prop :=
  match x with
  | .normal => e = .normal ∧ SR dd ι s a w
  | .exit id => e = .exit id ∧ SR dd ι s a w
  | .ret => e = .ret ∧ SR dd ι s a w
  | .panic v => ∃ v', e = .panic [{ v := v', recovered := false }] ∧ VR ι v v' ∧ SR dd ι s a w

theorem XR.ne {ι : Map} {x : X} {s : St} {a : Act} {w : World} {e : Exit} (h : XR dd ι x s a w e) : e ≠ .outgrown := by
  cases x
  · obtain ⟨rfl, _⟩ := h; intro h; cases h
  · obtain ⟨rfl, _⟩ := h; intro h; cases h
  · obtain ⟨rfl, _⟩ := h; intro h; cases h
  · obtain ⟨_, rfl, _⟩ := h; intro h; cases h

section
variable {C : Ctx} {P : Program} (hC : C.Ok P)
include hC

theorem evOps_sound {call : CallA} (hcall : CallSound P call) {ops : Array Oper} {base : Nat} {Q : Exit → Act → World → Prop} : ∀ (l : List Oper) (i : Nat) {ι : Map} {x : X} {s s' : St} {a : Act} {w : World},
    evOps C call noY ops base i l s = some (x, s') → (∀ k o, l[k]? = some o → ops[i + k]? = some o) → SR dd ι s a w → (∀ j, i ≤ j → j < i + l.length → ι (base + j) = none) → base + i + l.length ≤ s.H.next →
    (∀ ι' a' w' e, Step (fun b => base + i ≤ b) ι s.H w ι' s'.H w' → XR dd ι' x s' a' w' e → s'.N = s.N → Q e a' w') → wpOps P ops Q (List.range' i l.length) a w
  | [], i, ι, x, s, s', a, w, h, _, hs, _, _, hQ => by
    simp only [evOps] at h; cases h
    exact hQ ι a w .normal (Step.refl hs.wr) ⟨rfl, hs⟩ rfl
  | o :: l, i, ι, x, s, s', a, w, h, hops, hs, hid, hle, hQ => by
    simp only [List.length_cons] at hid hle
    have hoi : ops[i]? = some o := hops 0 o rfl
    have hops' : ∀ k o', l[k]? = some o' → ops[i + 1 + k]? = some o' := fun k o' hk => by
      have := hops (k + 1) o' (by simpa using hk); rw [show i + 1 + k = i + (k + 1) by omega]; exact this
    simp only [List.length_cons, List.range'_succ, wpOps, hoi]
    simp only [evOps, St.cut_eq, putA_eq, St.eta] at h
    split at h
    · cases h
    · -- not wanted
      rename_i hwt
      split at h
      · rename_i s1 e1
        obtain ⟨k1, k2, k3⟩ := put_sound (v' := undef) e1 hs (by simp only [VR, undefA, undef]; exact ⟨[], VRs_nil, rfl⟩)
        rw [wanted_sound hs.tr hwt]
        simp only [Bool.false_eq_true, if_false]
        refine evOps_sound hcall l (i + 1) h hops' k1 (fun j h1 h2 => hid j (by omega) (by omega)) (by rw [k2]; omega) fun ι' a' w' e q1 q2 q3 => ?_
        rw [k2] at q1
        exact hQ ι' a' w' e (q1.weaken (fun b hb => by omega)) q2 (q3.trans k3)
      · cases h
    · -- wanted
      rename_i hwt
      rw [wanted_sound hs.tr hwt]
      simp only [if_true]
      split at h
      · simp only [noY] at h; cases h
      split at h
      · -- it panics
        rename_i y H1 e1
        cases h
        refine .inl (evOp_sound hC hcall hs.wr hs.tr (hid i (by omega) (by omega)) (by omega) e1 (fun ι1 v' w1 hst hv => (by simp only [VR] at hv)) fun z hz _ ι1 v' w1 hst hv => ?_)
        cases hz
        exact hQ ι1 a w1 _ (hst.weaken (fun b hb => by omega)) ⟨v', rfl, hv, hst.wr, hs.tr.ext hst.ext, hs.size, hs.defers⟩ rfl
      · rename_i v H1 hno e1
        split at h
        · rename_i s1 e2
          refine .inl (evOp_sound hC hcall hs.wr hs.tr (hid i (by omega) (by omega)) (by omega) e1 (fun ι1 v' w1 hst hv => ?_) fun z hz => (hno z hz).elim)
          have hs1 : SR dd ι1 { s with H := H1 } a w1 := ⟨hst.wr, hs.tr.ext hst.ext, hs.size, hs.defers⟩
          obtain ⟨k1, k2, k3⟩ := put_sound e2 hs1 hv
          have hid' : ∀ j, i + 1 ≤ j → j < i + 1 + l.length → ι1 (base + j) = none := fun j h1 h2 => by
            cases e : ι1 (base + j) with
            | none => rfl
            | some q =>
              rcases hst.dom (base + j) (hid j (by omega) (by omega)) (by rw [e]; simp) with q | q
              · omega
              · omega
          have hnx := hst.next
          simp only at k2 k3
          refine evOps_sound hcall l (i + 1) h hops' k1 hid' (by rw [k2]; omega) fun ι' a' w' e q1 q2 q3 => ?_
          rw [k2] at q1
          exact hQ ι' a' w' e (hst.trans (fun b hb => by omega) (fun b hb => by omega) q1) q2 (q3.trans k3)
        · cases h
      · cases h

theorem region_ops {call : CallA} (hcall : CallSound P call) {ops : Array Oper} {Q : Exit → Act → World → Prop} {ι : Map} {x : X} {s s' : St} {a : Act} {w : World}
    (h : evOps C call noY ops s.H.next 0 ops.toList { s with H := { s.H with next := s.H.next + ops.size } } = some (x, s')) (hs : SR dd ι s a w)
    (hQ : ∀ ι' a' w' e, Step Nope ι s.H w ι' s'.H w' → XR dd ι' x s' a' w' e → s'.N = s.N → Q e a' w') : wpOps P ops Q (List.range ops.size) a w := by
  rw [List.range_eq_range', show ops.size = ops.toList.length by simp]
  have hs1 : SR dd ι { s with H := { s.H with next := s.H.next + ops.size } } a w := ⟨⟨hs.wr.obj, hs.wr.apart, fun b hb => hs.wr.new b (by have : s.H.next + ops.size ≤ b := hb; omega), hs.wr.vis, hs.wr.glob⟩, hs.tr, hs.size, hs.defers⟩
  refine evOps_sound hC hcall ops.toList 0 h (fun k o hk => by rw [Nat.zero_add]; simpa using hk) hs1 (fun j _ _ => hs.wr.new _ (by omega)) (by simp) fun ι' a' w' e q1 q2 q3 => hQ ι' a' w' e ?_ q2 q3
  exact { ext := q1.ext, wr := q1.wr, next := Nat.le_trans (Nat.le_add_right _ _) q1.next, dom := fun b hb hn => by
            rcases q1.dom b hb hn with e | e
            · exact .inr (by omega)
            · exact .inr (by simp only at e; omega),
          keep := q1.keep, junk := q1.junk, os := q1.os, tape := q1.tape, output := q1.output, size := q1.size, stay := q1.stay, frame := q1.frame, fresh := q1.fresh }

end
end
end Go.Ev
namespace Go.Ev
noncomputable section
open Go Go.RowKit
variable [Env]

/-! ### the order of a region's operations -/
inductive BefP (ops : Array Oper) : Nat → Nat → Prop where
  | edge {j : Nat} {o : Oper} {e : Edge} : ops[j]? = some o → e ∈ o.after → Region.binds .any e = true → BefP ops j e.on
  | trans {j k i : Nat} : BefP ops j k → BefP ops k i → BefP ops j i

omit [Env] in
theorem mem_binding {o : Oper} {i : Nat} : i ∈ binding o ↔ ∃ e ∈ o.after, Region.binds .any e = true ∧ e.on = i := by
  unfold binding
  simp only [List.mem_map, List.mem_filter, Array.mem_toList_iff]
  constructor
  · rintro ⟨e, ⟨h1, h2⟩, h3⟩; exact ⟨e, h1, h2, h3⟩
  · rintro ⟨e, h1, h2, h3⟩; exact ⟨e, ⟨h1, h2⟩, h3⟩

omit [Env] in
theorem fold_bits (acc : List Nat) : ∀ (bs : List Nat) (m i : Nat), (bs.foldl (fun m j => m ||| (1 <<< j) ||| acc.getD j 0) m).testBit i = true → m.testBit i = true ∨ ∃ b ∈ bs, i = b ∨ (acc.getD b 0).testBit i = true
  | [], m, i, h => .inl h
  | b :: bs, m, i, h => by
    simp only [List.foldl_cons] at h
    rcases fold_bits acc bs _ i h with h | ⟨c, hc, h⟩
    · simp only [Nat.testBit_or, Bool.or_eq_true] at h
      rcases h with (h | h) | h
      · exact .inl h
      · refine .inr ⟨b, by simp, .inl ?_⟩
        rw [Nat.one_shiftLeft, Nat.testBit_two_pow] at h
        simpa using (of_decide_eq_true h).symm
      · exact .inr ⟨b, by simp, .inr h⟩
    · exact .inr ⟨c, by simp [hc], h⟩

omit [Env] in
theorem masksFrom_sound (ops : Array Oper) : ∀ (l : List Oper) (acc : List Nat), (∀ k o, l[k]? = some o → ops[acc.length + k]? = some o) →
    (∀ j i, (acc.getD j 0).testBit i = true → BefP ops j i) → ∀ j i, ((masksFrom l acc).getD j 0).testBit i = true → BefP ops j i
  | [], acc, _, h, j, i, hb => h j i hb
  | o :: l, acc, hl, h, j, i, hb => by
    simp only [masksFrom] at hb
    refine masksFrom_sound ops l _ (fun k o' hk => ?_) ?_ j i hb
    · have := hl (k + 1) o' (by simpa using hk)
      rw [List.length_append, List.length_singleton, show acc.length + 1 + k = acc.length + (k + 1) by omega]; exact this
    · intro j' i' hb'
      rcases Nat.lt_trichotomy j' acc.length with q | q | q
      · rw [List.getD_eq_getElem?_getD, List.getElem?_append_left q, ← List.getD_eq_getElem?_getD] at hb'
        exact h j' i' hb'
      · subst q
        rw [List.getD_eq_getElem?_getD, List.getElem?_append_right (Nat.le_refl _)] at hb'
        simp only [Nat.sub_self, List.getElem?_cons_zero, Option.getD_some] at hb'
        have ho : ops[acc.length]? = some o := hl 0 o rfl
        rcases fold_bits acc _ _ _ hb' with hb' | ⟨b, hm, hb'⟩
        · simp at hb'
        · obtain ⟨e, he, hbd, rfl⟩ := mem_binding.1 hm
          rcases hb' with rfl | hb'
          · exact .edge ho he hbd
          · exact .trans (.edge ho he hbd) (h _ _ hb')
      · rw [List.getD_eq_getElem?_getD, List.getElem?_eq_none (by simp; omega)] at hb'
        simp at hb'
omit [Env] in
theorem bef_sound {ops : Array Oper} {j i : Nat} (h : bef (masks ops) j i = true) : BefP ops j i :=
  masksFrom_sound ops ops.toList [] (fun k o hk => by simpa using hk) (fun j i h => by simp at h) j i h

/-- what is asked of the order and of the operations -/
structure Static (ops : Array Oper) (ord : List Nat) (lo : Option Nat) : Prop where
  len : ord.length = ops.size
  lt : ∀ (p i : Nat), ord[p]? = some i → i < ops.size
  pos : ∀ (p i : Nat), ord[p]? = some i → posOf ord i = p
  ex : ∀ i, i < ops.size → ord[posOf ord i]? = some i
  edge : ∀ (j : Nat) (y : Oper), ops[j]? = some y → ∀ e ∈ y.after, Region.binds .any e = true → e.on < ops.size ∧ posOf ord e.on < posOf ord j
  tmp : ∀ (i j : Nat) (x y : Oper), i ≠ j → ops[i]? = some x → ops[j]? = some y → ∀ t, x.dst = some t → (t ∈ y.looksAt ops ∨ y.dst = some t) → BefP ops i j ∨ BefP ops j i
  eff : ∀ (i j : Nat) (x y : Oper), i ≠ j → ops[i]? = some x → ops[j]? = some y → clsOf x = 3 → clsOf y = 3 → BefP ops i j ∨ BefP ops j i ∨ ∃ p, lo = some p ∧ ((posOf ord i = p ∧ posOf ord j = p + 1) ∨ (posOf ord i = p + 1 ∧ posOf ord j = p))
  loose : ∀ p, lo = some p → p + 1 < ops.size ∧ ∀ (q i : Nat), ord[q]? = some i → (q = p ∨ q = p + 1 → ∃ o t a v, ops[i]? = some o ∧ o.op = .store t a v ∧ o.guard = none ∧ o.dst = none) ∧ (∀ o, ops[i]? = some o → clsOf o = 3 → q ≤ p + 1)
  new : ∀ (i j : Nat) (x y : Oper), i ≠ j → ops[i]? = some x → ops[j]? = some y → clsOf x = 1 → clsOf y = 3 → BefP ops i j ∨ BefP ops j i ∨ posOf ord i < posOf ord j

omit [Env] in
theorem ordered_sound {ops : Array Oper} {i j : Nat} (h : ordered (masks ops) i j = true) : BefP ops i j ∨ BefP ops j i := by
  unfold ordered at h
  simp only [Bool.or_eq_true] at h
  exact h.imp bef_sound bef_sound

omit [Env] in
theorem store_at {ops : Array Oper} {i : Nat} (h : storeAt ops i = true) : ∃ o t a v, ops[i]? = some o ∧ o.op = .store t a v ∧ o.guard = none ∧ o.dst = none := by
  unfold storeAt at h
  split at h
  · rename_i o ho
    simp only [Bool.and_eq_true, Option.isNone_iff_eq_none] at h
    obtain ⟨⟨h1, h2⟩, h3⟩ := h
    split at h1
    · rename_i t a v e; exact ⟨o, t, a, v, ho, e, h2, h3⟩
    · cases h1
  · cases h
omit [Env] in
theorem loose_pair {ord : List Nat} {lo : Option Nat} {i j : Nat} (h : loosePair ord lo i j = true) : ∃ p, lo = some p ∧ ((posOf ord i = p ∧ posOf ord j = p + 1) ∨ (posOf ord i = p + 1 ∧ posOf ord j = p)) := by
  unfold loosePair at h
  split at h
  · rename_i p
    simp only [Bool.or_eq_true, Bool.and_eq_true, Tr.nbeq, decide_eq_true_eq] at h
    exact ⟨p, rfl, h⟩
  · cases h
omit [Env] in
theorem loose_sound {ops : Array Oper} {ord : List Nat} {lo : Option Nat} (h : looseOk ops ord lo = true) : ∀ p, lo = some p → p + 1 < ops.size ∧ ∀ (q i : Nat), ord[q]? = some i → (q = p ∨ q = p + 1 → ∃ o t a v, ops[i]? = some o ∧ o.op = .store t a v ∧ o.guard = none ∧ o.dst = none) ∧ (∀ o, ops[i]? = some o → clsOf o = 3 → q ≤ p + 1) := by
  rintro p rfl
  unfold looseOk at h
  simp only [Bool.and_eq_true, Nat.blt_eq, List.all_eq_true] at h
  refine ⟨h.1, fun q i hq => ?_⟩
  have := h.2 (i, q) (by rw [List.mem_zipIdx_iff_getElem?]; exact hq)
  simp only at this
  by_cases e : q = p ∨ q = p + 1
  · have hc : (Nat.beq q p || Nat.beq q (p + 1)) = true := by simpa [Tr.nbeq] using e
    rw [hc] at this
    exact ⟨fun _ => store_at this, fun o ho _ => by omega⟩
  · have hc : (Nat.beq q p || Nat.beq q (p + 1)) = false := by simp only [Bool.or_eq_false_iff, Tr.nbeq, decide_eq_false_iff_not]; omega
    rw [hc] at this
    refine ⟨fun h => (e h).elim, fun o ho h3 => ?_⟩
    have he : effAt ops i = true := by unfold effAt; rw [ho]; simp [h3]
    rw [he] at this
    have := Nat.le_of_ble_eq_true this
    omega
omit [Env] in
theorem static_sound {ops : Array Oper} {ord : List Nat} {lo : Option Nat} (h : staticOk ops (masks ops) ord lo = true) : Static ops ord lo := by
  unfold staticOk at h
  simp only [Bool.and_eq_true, Tr.nbeq, decide_eq_true_eq, List.all_eq_true, List.mem_range, Nat.blt_eq] at h
  obtain ⟨⟨⟨⟨⟨h0, h1⟩, h2⟩, h3⟩, h4⟩, h5⟩ := h
  have hpos : ∀ (p i : Nat), ord[p]? = some i → posOf ord i = p := fun p i hp => by
    have := h4 (i, p) (by rw [List.mem_zipIdx_iff_getElem?]; exact hp)
    exact this
  have hpair : ∀ (i j : Nat) (x y : Oper), i ≠ j → ops[i]? = some x → ops[j]? = some y → pairOk ops (masks ops) ord lo i j x y = true := fun i j x y hne hx hy => by
    have hj := (Array.getElem?_eq_some_iff.1 hy).1
    have hi := (Array.getElem?_eq_some_iff.1 hx).1
    have := h5 j hj
    rw [hy] at this
    simp only [Bool.and_eq_true, List.all_eq_true, List.mem_range] at this
    have := this.2 i hi
    rw [hx] at this
    simp only [Bool.or_eq_true, decide_eq_true_eq] at this
    exact this.resolve_left hne
  refine ⟨h1, fun p i hp => h3 i (List.mem_of_getElem? hp), hpos, fun i hi => ?_, fun j y hy e he hb => ?_, ?_, ?_, loose_sound h0, ?_⟩
  · have hm : i ∈ ord := by simpa using h2 i hi
    obtain ⟨p, hp⟩ := List.getElem?_of_mem hm
    rw [hpos p i hp]; exact hp
  · have hj := (Array.getElem?_eq_some_iff.1 hy).1
    have := h5 j hj
    rw [hy] at this
    simp only [Bool.and_eq_true, List.all_eq_true] at this
    have := this.1 e.on (mem_binding.2 ⟨e, he, hb, rfl⟩)
    simpa [Nat.blt_eq] using this
  · intro i j x y hne hx hy t ht hl
    have := hpair i j x y hne hx hy
    simp only [pairOk, Bool.and_eq_true] at this
    have := this.1.1
    rw [ht] at this
    have hc : ((y.looksAt ops).contains t || y.dst == some t) = true := by
      rcases hl with hl | hl
      · simp [hl]
      · simp [hl]
    simp only [hc, cond_true] at this
    exact ordered_sound this
  · intro i j x y hne hx hy hcx hcy
    have := hpair i j x y hne hx hy
    simp only [pairOk, Bool.and_eq_true] at this
    have := this.1.2
    rw [hcx, hcy] at this
    simp only [Tr.nbeq, decide_true, Bool.and_self, cond_true, Bool.or_eq_true] at this
    rcases this with h | h
    · exact (ordered_sound h).imp id .inl
    · exact .inr (.inr (loose_pair h))
  · intro i j x y hne hx hy hcx hcy
    have := hpair i j x y hne hx hy
    simp only [pairOk, Bool.and_eq_true] at this
    have := this.2
    rw [hcx, hcy] at this
    simp only [Tr.nbeq, decide_true, Bool.and_self, cond_true, Bool.or_eq_true, Nat.blt_eq] at this
    rcases this with h | h
    · exact (ordered_sound h).imp id .inl
    · exact .inr (.inr h)

/-- is operation j listed -/
def Li (ls : Array Bool) (j : Nat) : Prop := ls.getD j false = true
def Closed (ops : Array Oper) (ls : Array Bool) : Prop := ∀ j o, ops[j]? = some o → Li ls j → ∀ e ∈ o.after, Region.binds .any e = true → Li ls e.on
omit [Env] in
theorem Closed.bef {ops : Array Oper} {ls : Array Bool} (h : Closed ops ls) {j i : Nat} (hb : BefP ops j i) : Li ls j → Li ls i := by
  induction hb with
  | edge ho he hbd => exact fun hj => h _ _ ho hj _ he hbd
  | trans _ _ ih1 ih2 => exact fun hj => ih2 (ih1 hj)
omit [Env] in
theorem Closed.ready {ops : Array Oper} {ls : Array Bool} (h : Closed ops ls) {j i : Nat} (hr : ∀ o, ops[j]? = some o → ∀ e ∈ o.after, Region.binds .any e = true → Li ls e.on) (hb : BefP ops j i) : Li ls i := by
  induction hb with
  | edge ho he hbd => exact hr _ ho _ he hbd
  | trans h1 h2 ih1 _ => exact h.bef h2 (ih1 hr)
omit [Env] in
theorem Static.befpos {ops : Array Oper} {ord : List Nat} {lo : Option Nat} (h : Static ops ord lo) {j i : Nat} (hb : BefP ops j i) : posOf ord i < posOf ord j := by
  induction hb with
  | edge ho he hbd => exact (h.edge _ _ ho _ he hbd).2
  | trans _ _ ih1 ih2 => exact Nat.lt_trans ih2 ih1

/-! ### heaps under one world -/
theorem WR.heap {ι : Map} {H H' : Heap} {w : World} (h : WR ι H w) (hg : ∀ b, ι b ≠ none → H'.get b = H.get b) (hn : H.next ≤ H'.next) : WR ι H' w :=
  ⟨fun b l o hb ho => h.obj b l o hb (by rw [← hg b (by rw [hb]; simp)]; exact ho),
   fun b1 b2 l1 l2 o1 o2 hne e1 e2 g1 g2 => h.apart b1 b2 l1 l2 o1 o2 hne e1 e2 (by rw [← hg b1 (by rw [e1]; simp)]; exact g1) (by rw [← hg b2 (by rw [e2]; simp)]; exact g2),
   fun b hb => h.new b (Nat.le_trans hn hb), fun b l hb => by rw [hg b (by rw [hb]; simp)]; exact h.vis b l hb, h.glob⟩
theorem Step.heap {ids : Nat → Prop} {ι : Map} {H H' : Heap} {w : World} (h : WR ι H w) (hg : ∀ b, ι b ≠ none → H'.get b = H.get b) (hn : H.next ≤ H'.next) (hk : ∀ b, H.get b ≠ none → H'.get b ≠ none) : Step ids ι H w ι H' w :=
  ⟨Ext.refl _, h.heap hg hn, hn, fun _ h k => (k h).elim, hk, fun b l hb _ => h.vis b l hb, rfl, rfl, rfl, Nat.le_refl _, fun b l o o' hb g g' => by rw [hg b (by rw [hb]; simp), g] at g'; cases g'; exact ⟨fun h => h, fun h => h⟩, fun _ _ _ => rfl, fun _ _ h k => by rw [h] at k; cases k⟩
theorem Step.src {ids : Nat → Prop} {ι ι' : Map} {H K H' : Heap} {w w' : World} (h : Step ids ι H w ι' H' w') (hg : ∀ b, ι b ≠ none → K.get b = H.get b) (hn : K.next = H.next) (hk : ∀ b, K.get b ≠ none → H'.get b ≠ none) : Step ids ι K w ι' H' w' :=
  ⟨h.ext, h.wr, by rw [hn]; exact h.next, fun b hb hn' => by rw [hn]; exact h.dom b hb hn', hk, fun b l hb hn' => by rw [hg b (by rw [hb]; simp)]; exact h.junk b l hb hn', h.os, h.tape, h.output, h.size,
   fun b l o o' hb g g' => h.stay b l o o' hb (by rw [← hg b (by rw [hb]; simp)]; exact g) g',
   fun c hc hf => h.frame c hc fun b l o hb hg' => hf b l o hb (by rw [hg b (by rw [hb]; simp)]; exact hg'),
   fun b l hb hl => (h.fresh b l hb hl).imp (fun x => x) fun ⟨b0, l0, o0, e0, g0, q⟩ => ⟨b0, l0, o0, e0, by rw [hg b0 (by rw [e0]; simp)]; exact g0, q⟩⟩

/-! ### one operation in the chosen order -/
structure One (C : Ctx) (call : CallA) (ops : Array Oper) (base : Nat) (pn : Option (Nat × AV)) (i : Nat) (s s' : St) (f : Info) (o : Oper) (v : AV) (H' : Heap) : Prop where
  op : ops[i]? = some o
  how : ((wantedA ops s.T o = some false ∨ ∃ i0 x, pn = some (i0, x) ∧ BefP ops i i0) ∧ v = undefA ∧ H' = s.H ∧ f = ⟨none, [], none⟩) ∨
    (wantedA ops s.T o = some true ∧ evOp C call s.H (base + i) s.T o = some (v, H') ∧ f = ⟨blkOf s.T base i o, cond (Nat.beq (clsOf o) 3) H'.log [], stOf s.T o⟩)
  get : ∀ b, s'.H.get b = H'.get b
  next : s'.H.next = H'.next
  log : s.H.log = [] → s'.H.log = []
  tmp : ∀ t, s'.T.get t = if o.dst = some t then some v else s.T.get t
  fits : ∀ t, o.dst = some t → t < s.N
  N : s'.N = s.N
  pan : ∀ x, v = .pan x → pn = some (i, x)

omit [Env] in
theorem put_facts {s s' : St} {dst : Option Tmp} {v : AV} (h : s.put dst v = some s') : s'.H = s.H ∧ s'.N = s.N ∧ (∀ t, s'.T.get t = if dst = some t then some v else s.T.get t) ∧ ∀ t, dst = some t → t < s.N := by
  cases dst with
  | none => simp only [St.put, St.cut_eq, putA, St.eta] at h; cases h; exact ⟨rfl, rfl, fun t => by simp, fun t h => by cases h⟩
  | some d =>
    simp only [St.put, St.cut_eq, putA] at h
    obtain ⟨e, h⟩ := bound_of_cond h
    cases h
    simp only [Nat.blt_eq] at e
    refine ⟨rfl, rfl, fun t => ?_, fun t ht => by cases ht; exact e⟩
    simp only [Tr.get_set]
    by_cases q : t = d
    · subst q; simp
    · rw [if_neg q, if_neg (by simp; exact fun e => q e.symm)]

omit [Env] in
theorem panics_some {v x : AV} (h : v.panics = some x) : v = .pan x := by
  cases v <;> simp only [AV.panics] at h <;> first | (cases h; done) | (cases h; rfl)
omit [Env] in
theorem one_of {C : Ctx} {call : CallA} {ops : Array Oper} {base i : Nat} {s s' : St} {f : Info} {r : Option AV} (h : evOneD C call ops base i s = some (s', f, r)) {pn : Option (Nat × AV)} (hp : ∀ x, r = some x → pn = some (i, x)) :
    ∃ o v H', One C call ops base pn i s s' f o v H' ∧ v.panics = r := by
  unfold evOneD at h
  split at h
  · cases h
  · rename_i o ho
    split at h
    · cases h
    · rename_i hw
      split at h
      · rename_i s1 e1
        cases h
        obtain ⟨k1, k2, k3, k4⟩ := put_facts e1
        exact ⟨o, undefA, s.H, ⟨ho, .inl ⟨.inl hw, rfl, rfl, rfl⟩, fun b => by rw [k1], by rw [k1], fun hl => by rw [k1]; exact hl, k3, k4, k2, fun x hx => by cases hx⟩, rfl⟩
      · cases h
    · rename_i hw
      split at h
      · rename_i v H1 e1
        split at h
        · rename_i s1 e2
          cases h
          obtain ⟨k1, k2, k3, k4⟩ := put_facts e2
          exact ⟨o, v, H1, ⟨ho, .inr ⟨hw, e1, rfl⟩, fun b => by rw [k1]; rfl, by rw [k1], fun _ => by rw [k1], k3, k4, k2, fun x hx => hp x (by rw [hx]; rfl)⟩, rfl⟩
        · cases h
      · cases h

omit [Env] in
theorem dead_trace {C : Ctx} {call : CallA} {ops : Array Oper} {base : Nat} {i0 : Nat} {x : AV} : ∀ (l : List Nat) (s s' : St) (fs : List (Nat × Info)), evDead ops l s = some (s', fs) → (∀ j ∈ l, BefP ops j i0) →
    ∃ S : Nat → St, S 0 = s ∧ S l.length = s' ∧ (∀ (p j : Nat), l[p]? = some j → (j, (⟨none, [], none⟩ : Info)) ∈ fs ∧ ∃ o v H', One C call ops base (some (i0, x)) j (S p) (S (p + 1)) ⟨none, [], none⟩ o v H') ∧ ∀ q, q ≤ l.length → (S q).H = s.H
  | [], s, s', fs, h, _ => by
    simp only [evDead] at h; cases h
    exact ⟨fun _ => s, rfl, rfl, fun p j hp => by simp at hp, fun _ _ => rfl⟩
  | j :: l, s, s', fs, h, hb => by
    simp only [evDead] at h
    split at h
    · rename_i o ho
      split at h
      · rename_i s1 e1
        split at h
        · rename_i s2 fs2 e2
          cases h
          obtain ⟨k1, k2, k3, k4⟩ := put_facts e1
          obtain ⟨S, h0, h1, h2, h3⟩ := dead_trace (C := C) (call := call) (base := base) (x := x) l s1 _ fs2 e2 (fun j hj => hb j (by simp [hj]))
          refine ⟨fun p => match p with | 0 => s | p + 1 => S p, rfl, h1, fun p i hp => ?_, fun q hq => ?_⟩
          · cases p with
            | zero =>
              simp at hp; subst hp
              refine ⟨by simp, o, undefA, s.H, ⟨ho, .inl ⟨.inr ⟨i0, x, rfl, hb _ (by simp)⟩, rfl, rfl, rfl⟩, fun b => ?_, ?_, fun hl => ?_, fun t => ?_, k4, ?_, fun x hx => by cases hx⟩⟩
              · simp only [h0]; rw [k1]
              · simp only [h0]; rw [k1]
              · simp only [h0]; rw [k1]; exact hl
              · simp only [h0]; exact k3 t
              · simp only [h0]; exact k2
            | succ p =>
              simp at hp
              obtain ⟨q1, q2⟩ := h2 p i hp
              exact ⟨by simp; exact .inr q1, q2⟩
          · cases q with
            | zero => rfl
            | succ q => simp only [List.length_cons] at hq; rw [h3 q (by omega), k1]
        · cases h
      · cases h
    · cases h

omit [Env] in
theorem trace_of {C : Ctx} {call : CallA} {ops : Array Oper} {base : Nat} : ∀ (l : List Nat) (s s' : St) (fs : List (Nat × Info)) (r : Option (Nat × AV)), evOpsD C call ops base (masks ops) l s = some (s', fs, r) →
    ∃ (S : Nat → St) (F : Nat → Info), S 0 = s ∧ S l.length = s' ∧ (∀ (p i : Nat), l[p]? = some i → (i, F p) ∈ fs ∧ ∃ o v H', One C call ops base r i (S p) (S (p + 1)) (F p) o v H') ∧
      ∀ i x, r = some (i, x) → ∃ p o H', l[p]? = some i ∧ One C call ops base r i (S p) (S (p + 1)) (F p) o (.pan x) H' ∧ (∀ q, p < q → q ≤ l.length → (S q).H = (S (p + 1)).H) ∧ effAt ops i = true ∧ ∀ q j, p < q → l[q]? = some j → BefP ops j i
  | [], s, s', fs, r, h => by
    simp only [evOpsD] at h; cases h
    exact ⟨fun _ => s, fun _ => ⟨none, [], none⟩, rfl, rfl, fun p i hp => by simp at hp, fun i x h => by cases h⟩
  | i :: l, s, s', fs, r, h => by
    simp only [evOpsD] at h
    split at h
    · rename_i s1 f y e1
      obtain ⟨hall, h⟩ := bound_of_cond h
      rw [Bool.and_eq_true, List.all_eq_true] at hall
      obtain ⟨heff, hall⟩ := hall
      split at h
      · rename_i s2 fs2 e2
        cases h
        have hbef : ∀ j ∈ l, BefP ops j i := fun j hj => bef_sound (hall j hj)
        obtain ⟨o, v, H', one, hv⟩ := one_of e1 (pn := some (i, y)) (fun x hx => by cases hx; rfl)
        have hvy := panics_some hv
        subst hvy
        obtain ⟨S, h0, h1, h2, h3⟩ := dead_trace (C := C) (call := call) (base := base) (x := y) l s1 _ fs2 e2 hbef
        refine ⟨fun p => match p with | 0 => s | p + 1 => S p, fun p => match p with | 0 => f | _ + 1 => ⟨none, [], none⟩, rfl, h1, fun p j hp => ?_, fun j x hx => ?_⟩
        · cases p with
          | zero => simp at hp; subst hp; exact ⟨by simp, o, .pan y, H', by simp only [h0]; exact one⟩
          | succ p =>
            simp at hp
            obtain ⟨q1, q2⟩ := h2 p j hp
            exact ⟨by simp; exact .inr q1, q2⟩
        · cases hx
          refine ⟨0, o, H', rfl, by simp only [h0]; exact one, fun q h1 h2 => ?_, heff, fun q j h1 h2 => ?_⟩
          · cases q with
            | zero => omega
            | succ q => simp only [List.length_cons] at h2; simp only [h3 q (by omega), h3 0 (by omega)]
          · cases q with
            | zero => omega
            | succ q => simp at h2; exact hbef j (List.mem_of_getElem? h2)
      · cases h
    · rename_i s1 f e1
      split at h
      · rename_i s2 fs2 r2 e2
        cases h
        obtain ⟨S, F, h0, h1, h2, h3⟩ := trace_of l s1 _ fs2 r e2
        obtain ⟨o, v, H', one, hv⟩ := one_of e1 (pn := r) (fun x hx => by cases hx)
        refine ⟨fun p => match p with | 0 => s | p + 1 => S p, fun p => match p with | 0 => f | p + 1 => F p, rfl, h1, fun p j hp => ?_, fun j x hx => ?_⟩
        · cases p with
          | zero => simp at hp; subst hp; exact ⟨by simp, o, v, H', by simp only [h0]; exact one⟩
          | succ p =>
            simp at hp
            obtain ⟨q1, q2⟩ := h2 p j hp
            exact ⟨by simp; exact .inr q1, q2⟩
        · obtain ⟨p, o2, H2, p1, p2, p3, p5, p4⟩ := h3 j x hx
          refine ⟨p + 1, o2, H2, by simpa using p1, p2, fun q h1 h2 => ?_, p5, fun q i2 h1 h2 => ?_⟩
          · cases q with
            | zero => omega
            | succ q => simp only [List.length_cons] at h2; exact p3 q (by omega) (by omega)
          · cases q with
            | zero => omega
            | succ q => simp at h2; exact p4 q i2 (by omega) h2
      · cases h
    · cases h
end
end Go.Ev
namespace Go.Ev
noncomputable section
open Go Go.RowKit

theorem splice_at (cs : List AV) (o : Nat) (xs : List AV) (h : o + xs.length ≤ cs.length) (i : Nat) : (splice cs o xs)[i]? = if o ≤ i ∧ i < o + xs.length then xs[i - o]? else cs[i]? := by
  unfold splice
  rw [List.append_assoc]
  by_cases h1 : i < o
  · rw [List.getElem?_append_left (by simp; omega), List.getElem?_take, if_pos h1, if_neg (by omega)]
  · rw [List.getElem?_append_right (by simp; omega)]
    have e : (List.take o cs).length = o := by simp; omega
    rw [e]
    by_cases h2 : i < o + xs.length
    · rw [List.getElem?_append_left (by omega), if_pos (by omega)]
    · rw [List.getElem?_append_right (by omega), List.getElem?_drop, if_neg (by omega)]
      congr 1; omega
theorem splice_len (cs : List AV) (o : Nat) (xs : List AV) (h : o + xs.length ≤ cs.length) : (splice cs o xs).length = cs.length := by simp [splice]; omega
theorem splice_swap (cs : List AV) (o o' : Nat) (xs ys : List AV) (hx : o + xs.length ≤ cs.length) (hy : o' + ys.length ≤ cs.length) (h : o + xs.length ≤ o' ∨ o' + ys.length ≤ o) :
    splice (splice cs o xs) o' ys = splice (splice cs o' ys) o xs := by
  apply List.ext_getElem?
  intro i
  rw [splice_at _ _ _ (by rw [splice_len _ _ _ hx]; exact hy), splice_at _ _ _ hx, splice_at _ _ _ (by rw [splice_len _ _ _ hy]; exact hx), splice_at _ _ _ hy]
  by_cases h1 : o ≤ i ∧ i < o + xs.length
  · rw [if_neg (by omega)]
    simp only [if_pos h1]
  · simp only [if_neg h1]

/-- what a store asks and does -/
theorem store_parts {C : Ctx} {H H1 : Heap} {t : TypeId} {u : AV} {b o : Nat} (h : evStore C H t u (.ptr b o) = some H1) :
    ∃ i ob, C.ty t = some i ∧ H.get b = some ob ∧ ob.kind.isMap = false ∧ ob.kind.lets o = true ∧ u.cells.length = i.size ∧ o + u.cells.length ≤ ob.cs.length ∧ flatAll u.cells = true ∧ H1 = H.write b { ob with cs := splice ob.cs o u.cells } := by
  simp only [evStore] at h
  split at h
  · rename_i i ob e1 e2
    cases hc : (ob.kind.lets o && Nat.beq u.cells.length i.size && Nat.ble (o + i.size) ob.cs.length && flatAll u.cells) with
    | false => rw [hc] at h; cases h
    | true =>
      rw [hc] at h; cases h
      simp only [Bool.and_eq_true, Tr.nbeq, decide_eq_true_eq, Nat.ble_eq] at hc
      obtain ⟨⟨⟨c1, c2⟩, c3⟩, c4⟩ := hc
      exact ⟨i, ob, e1, (Heap.cells_eq e2).1, (Heap.cells_eq e2).2, c1, c2, by omega, c4, rfl⟩
  · cases h
theorem store_of {C : Ctx} {H : Heap} {t : TypeId} {u : AV} {b o : Nat} {i : TI} {ob : Obj} (e1 : C.ty t = some i) (e2 : H.get b = some ob) (hm : ob.kind.isMap = false) (c1 : ob.kind.lets o = true) (c2 : u.cells.length = i.size)
    (c3 : o + u.cells.length ≤ ob.cs.length) (c4 : flatAll u.cells = true) : evStore C H t u (.ptr b o) = some (H.write b { ob with cs := splice ob.cs o u.cells }) := by
  have hc : H.cells b = some ob := by unfold Heap.cells; rw [e2]; simp [hm]
  simp only [evStore, e1, hc]
  have : (ob.kind.lets o && Nat.beq u.cells.length i.size && Nat.ble (o + i.size) ob.cs.length && flatAll u.cells) = true := by
    simp only [Bool.and_eq_true, Tr.nbeq, decide_eq_true_eq, Nat.ble_eq]
    exact ⟨⟨⟨c1, c2⟩, by omega⟩, c4⟩
  rw [this]; rfl
/-- two stores that are apart, in either order -/
theorem store_swap {C : Ctx} {H H1 K H2 : Heap} {tx ty : TypeId} {ux uy : AV} {bx ox yb oy : Nat} (h1 : evStore C H tx ux (.ptr bx ox) = some H1) (hK : ∀ b, K.get b = H1.get b) (hn : K.next = H1.next)
    (h2 : evStore C K ty uy (.ptr yb oy) = some H2) (far : farA (some (bx, ox, ux.cells.length)) (some (yb, oy, uy.cells.length)) = true) :
    ∃ M M', evStore C H ty uy (.ptr yb oy) = some M ∧ evStore C M tx ux (.ptr bx ox) = some M' ∧ (∀ b, M'.get b = H2.get b) ∧ M'.next = H2.next ∧ M.next = H.next ∧ (∀ b, b ≠ yb → M.get b = H.get b) ∧ (∀ b, H.get b ≠ none → M.get b ≠ none) := by
  obtain ⟨i, ob, p1, p2, p3, p4, p5, p6, p7, rfl⟩ := store_parts h1
  obtain ⟨j, oc, q1, q2, q3, q4, q5, q6, q7, rfl⟩ := store_parts h2
  simp only [farA, Bool.or_eq_true, Bool.not_eq_true', Tr.nbeq, decide_eq_false_iff_not, Nat.ble_eq] at far
  rw [hK, Heap.get_write] at q2
  by_cases e : yb = bx
  · subst e
    rw [if_pos rfl] at q2; cases q2
    have far' : ox + ux.cells.length ≤ oy ∨ oy + uy.cells.length ≤ ox := by
      rcases far with (f | f) | f
      · exact (f rfl).elim
      · exact .inl f
      · exact .inr f
    have q6' : oy + uy.cells.length ≤ ob.cs.length := by simpa [splice_len _ _ _ p6] using q6
    refine ⟨_, _, store_of q1 p2 p3 q4 q5 q6' q7, store_of (ob := { ob with cs := splice ob.cs oy uy.cells }) p1 (by rw [Heap.get_write, if_pos rfl]) p3 p4 p5 (by simp only; rw [splice_len _ _ _ q6']; exact p6) p7, fun b => ?_, hn.symm, rfl, fun b hb => by rw [Heap.get_write, if_neg hb], fun b hb => by rw [Heap.get_write]; split <;> simp_all⟩
    rw [Heap.get_write, Heap.get_write, Heap.get_write, hK, Heap.get_write]
    by_cases e : b = yb
    · simp only [if_pos e]; rw [splice_swap _ _ _ _ _ p6 q6' far']
    · simp only [if_neg e]
  · rw [if_neg e] at q2
    refine ⟨_, _, store_of q1 q2 q3 q4 q5 q6 q7, store_of p1 (by rw [Heap.get_write, if_neg (Ne.symm e)]; exact p2) p3 p4 p5 p6 p7, fun b => ?_, hn.symm, rfl, fun b hb => by rw [Heap.get_write, if_neg hb], fun b hb => by rw [Heap.get_write]; split <;> simp_all⟩
    rw [Heap.get_write, Heap.get_write, Heap.get_write, hK, Heap.get_write]
    by_cases e1 : b = bx
    · subst e1; rw [if_pos rfl, if_neg (Ne.symm e), if_pos rfl]
    · rw [if_neg e1]
      by_cases e2 : b = yb
      · rw [if_pos e2, if_pos e2]
      · rw [if_neg e2, if_neg e2, if_neg e1]
end
end Go.Ev
namespace Go.Ev
noncomputable section
open Go Go.RowKit
variable [Env]

def clsAt (ops : Array Oper) (i : Nat) : Nat := match ops[i]? with | some o => clsOf o | none => 0
def dstAt (ops : Array Oper) (i : Nat) : Option Tmp := match ops[i]? with | some o => o.dst | none => none

/-- all that is known of one run in the chosen order -/
structure Chain (C : Ctx) (call : CallA) (ops : Array Oper) (base : Nat) (pn : Option (Nat × AV)) (ord : List Nat) (lo : Option Nat) (S : Nat → St) (F : Nat → Info) : Prop where
  static : Static ops ord lo
  one : ∀ (p i : Nat), ord[p]? = some i → ∃ o v H', One C call ops base pn i (S p) (S (p + 1)) (F p) o v H'
  dyn : ∀ (p i q j : Nat) (b : Nat), ord[p]? = some i → ord[q]? = some j → (F p).blk = some b → b ∈ (F q).wr → i = j ∨ BefP ops i j ∨ BefP ops j i
  far : ∀ (p i j : Nat), pn = none → lo = some p → ord[p]? = some i → ord[p + 1]? = some j → farA (F p).st (F (p + 1)).st = true
  panic : ∀ i x, pn = some (i, x) → ∃ p o H', ord[p]? = some i ∧ One C call ops base pn i (S p) (S (p + 1)) (F p) o (.pan x) H' ∧ (∀ q, p < q → q ≤ ops.size → (S q).H = (S (p + 1)).H) ∧ effAt ops i = true ∧ ∀ q j, p < q → ord[q]? = some j → BefP ops j i
  log0 : (S 0).H.log = []
  next0 : base + ops.size ≤ (S 0).H.next

section
variable {C : Ctx} {call : CallA} {ops : Array Oper} {base : Nat} {pn : Option (Nat × AV)} {ord : List Nat} {lo : Option Nat} {S : Nat → St} {F : Nat → Info} (ch : Chain C call ops base pn ord lo S F) (hheap : CallHeap call)
include ch

omit [Env] in
theorem Chain.at {i : Nat} (hi : i < ops.size) : ord[posOf ord i]? = some i ∧ posOf ord i < ops.size := by
  have := ch.static.ex i hi
  exact ⟨this, by have := (List.getElem?_eq_some_iff.1 this).1; rw [ch.static.len] at this; exact this⟩
omit [Env] in
theorem Chain.has {p : Nat} (hp : p < ops.size) : ∃ i, ord[p]? = some i ∧ i < ops.size := by
  have h : p < ord.length := by rw [ch.static.len]; exact hp
  exact ⟨ord[p], by simp [h], ch.static.lt p _ (by simp [h])⟩
omit [Env] in
theorem Chain.log {p : Nat} (hp : p ≤ ops.size) : (S p).H.log = [] := by
  induction p with
  | zero => exact ch.log0
  | succ p ih =>
    obtain ⟨i, hi, _⟩ := ch.has (show p < ops.size by omega)
    obtain ⟨o, v, H', h⟩ := ch.one p i hi
    exact h.log (ih (by omega))
include hheap
omit [Env] in
/-- what one operation does to the heap -/
theorem Chain.heap {p i : Nat} (hp : ord[p]? = some i) : (S p).H.next ≤ (S (p + 1)).H.next ∧ (∀ b, (S p).H.get b ≠ none → (S (p + 1)).H.get b ≠ none) ∧
    (∀ b, (S p).H.get b ≠ none → b ∉ (F p).wr → (S (p + 1)).H.get b = (S p).H.get b) ∧
    (clsAt ops i ≠ 3 → (S (p + 1)).H.next = (S p).H.next ∧ ∀ b, b ≠ base + i → (S (p + 1)).H.get b = (S p).H.get b) := by
  obtain ⟨o, v, H', h⟩ := ch.one p i hp
  have hpl : p < ops.size := by have := (List.getElem?_eq_some_iff.1 hp).1; rw [ch.static.len] at this; exact this
  have hlog := ch.log (show p ≤ ops.size by omega)
  have hcl : clsAt ops i = clsOf o := by simp [clsAt, h.op]
  rcases h.how with ⟨_, _, rfl, hf⟩ | ⟨_, hev, hf⟩
  · exact ⟨by rw [h.next]; exact Nat.le_refl _, fun b hb => by rw [h.get]; exact hb, fun b hb _ => h.get b, fun _ => ⟨h.next, fun b _ => h.get b⟩⟩
  · have hr := evOp_heap hheap hev
    have hno3 : clsOf o ≠ 3 → H'.next = (S p).H.next ∧ (∀ b, b ≠ base + i → H'.get b = (S p).H.get b) ∧ ∀ b, (S p).H.get b ≠ none → H'.get b = (S p).H.get b := by
      intro hne
      have hc : clsOf o = 0 ∨ clsOf o = 1 ∨ clsOf o = 2 := by
        have : clsOf o ≤ 3 := by unfold clsOf; split <;> omega
        omega
      rcases hc with hc | hc | hc
      · obtain ⟨rfl, _⟩ := loc0 hc hev; exact ⟨rfl, fun _ _ => rfl, fun _ _ => rfl⟩
      · obtain ⟨ob, ha, _⟩ := loc1 hc hev
        obtain ⟨h0, rfl⟩ := Heap.add_eq ha
        exact ⟨rfl, fun b hb => by rw [Heap.get_put, if_neg hb], fun b hb => by rw [Heap.get_put, if_neg (fun e => hb (by rw [e]; exact h0))]⟩
      · obtain ⟨rfl, _⟩ := loc2 (base := base) (i := i) hc hev; exact ⟨rfl, fun _ _ => rfl, fun _ _ => rfl⟩
    refine ⟨by rw [h.next]; exact hr.next, fun b hb => by rw [h.get]; exact hr.keep b hb, fun b hb hn => ?_, fun hne => ?_⟩
    · rw [h.get]
      by_cases hc : clsOf o = 3
      · obtain ⟨l, e1, e2⟩ := hr.log
        rw [hlog, List.append_nil] at e1
        refine e2 b hb ?_
        rw [hf, hc] at hn
        simpa [e1] using hn
      · exact (hno3 hc).2.2 b hb
    · rw [hcl] at hne
      exact ⟨by rw [h.next]; exact (hno3 hne).1, fun b hb => by rw [h.get]; exact (hno3 hne).2.1 b hb⟩
omit [Env] in
theorem Chain.nextle {p : Nat} (hp : p ≤ ops.size) : base + ops.size ≤ (S p).H.next := by
  induction p with
  | zero => exact ch.next0
  | succ p ih =>
    obtain ⟨i, hi, _⟩ := ch.has (show p < ops.size by omega)
    exact Nat.le_trans (ih (by omega)) (ch.heap hheap hi).1
omit [Env] in
/-- between two places no operation writes a block -/
theorem Chain.same {p q b : Nat} (hpq : p ≤ q) (hq : q ≤ ops.size) (hb : (S p).H.get b ≠ none) (h : ∀ r j, p ≤ r → r < q → ord[r]? = some j → b ∉ (F r).wr) : (S q).H.get b = (S p).H.get b := by
  induction q with
  | zero => have : p = 0 := by omega
            subst this; rfl
  | succ q ih =>
    by_cases e : p = q + 1
    · subst e; rfl
    · have ih := ih (by omega) (by omega) (fun r j h1 h2 => h r j h1 (by omega))
      obtain ⟨i, hi, _⟩ := ch.has (show q < ops.size by omega)
      rw [(ch.heap hheap hi).2.2.1 b (by rw [ih]; exact hb) (h q i (by omega) (by omega) hi), ih]
omit [Env] in
/-- between two places there are none but plain operations -/
theorem Chain.plain {p q : Nat} (hpq : p ≤ q) (hq : q ≤ ops.size) (h : ∀ r j, p ≤ r → r < q → ord[r]? = some j → clsAt ops j ≠ 3) :
    (S q).H.next = (S p).H.next ∧ (∀ b, (S p).H.get b ≠ none → (S q).H.get b ≠ none) ∧ ∀ b, (∀ r j, p ≤ r → r < q → ord[r]? = some j → b ≠ base + j) → (S q).H.get b = (S p).H.get b := by
  induction q with
  | zero => have : p = 0 := by omega
            subst this; exact ⟨rfl, fun _ h => h, fun _ _ => rfl⟩
  | succ q ih =>
    by_cases e : p = q + 1
    · subst e; exact ⟨rfl, fun _ h => h, fun _ _ => rfl⟩
    · obtain ⟨k1, k2, k3⟩ := ih (by omega) (by omega) (fun r j h1 h2 => h r j h1 (by omega))
      obtain ⟨i, hi, _⟩ := ch.has (show q < ops.size by omega)
      obtain ⟨m1, m2, m3, m4⟩ := ch.heap hheap hi
      obtain ⟨n1, n2⟩ := m4 (h q i (by omega) (by omega) hi)
      exact ⟨by rw [n1, k1], fun b hb => m2 b (k2 b hb), fun b hb => by rw [n2 b (hb q i (by omega) (by omega) hi), k3 b (fun r j h1 h2 => hb r j h1 (by omega))]⟩
omit hheap
omit [Env] in
/-- a slot that no operation between two places writes -/
theorem Chain.slot {p q t : Nat} (hpq : p ≤ q) (hq : q ≤ ops.size) (h : ∀ r j, p ≤ r → r < q → ord[r]? = some j → dstAt ops j ≠ some t) : (S q).T.get t = (S p).T.get t := by
  induction q with
  | zero => have : p = 0 := by omega
            subst this; rfl
  | succ q ih =>
    by_cases e : p = q + 1
    · subst e; rfl
    · obtain ⟨i, hi, _⟩ := ch.has (show q < ops.size by omega)
      obtain ⟨o, v, H', ho⟩ := ch.one q i hi
      have := h q i (by omega) (by omega) hi
      simp only [dstAt, ho.op] at this
      rw [ho.tmp, if_neg this, ih (by omega) (by omega) (fun r j h1 h2 => h r j h1 (by omega))]
omit [Env] in
theorem Chain.N {p : Nat} (hp : p ≤ ops.size) : (S p).N = (S 0).N := by
  induction p with
  | zero => rfl
  | succ p ih =>
    obtain ⟨i, hi, _⟩ := ch.has (show p < ops.size by omega)
    obtain ⟨o, v, H', h⟩ := ch.one p i hi
    rw [h.N, ih (by omega)]
end

/-- the second of two loose stores has been done, the first has not -/
structure Mid (C : Ctx) (call : CallA) (ops : Array Oper) (base : Nat) (S : Nat → St) (F : Nat → Info) (p x y : Nat) (K : Heap) : Prop where
  evy : ∃ oy, ops[y]? = some oy ∧ clsOf oy = 3 ∧ oy.dst = none ∧ oy.guard = none ∧ evOp C call (S p).H (base + y) (S (p + 1)).T oy = some (undefA, K)
  evx : ∃ ox M, ops[x]? = some ox ∧ clsOf ox = 3 ∧ ox.dst = none ∧ ox.guard = none ∧ evOp C call K (base + x) (S p).T ox = some (undefA, M) ∧ HEq2 M (S (p + 2)).H
  next : K.next = (S p).H.next
  get : ∀ b, b ∉ (F (p + 1)).wr → K.get b = (S p).H.get b
  get2 : ∀ b, b ∉ (F p).wr → K.get b = (S (p + 2)).H.get b
  keep : ∀ b, (S p).H.get b ≠ none → K.get b ≠ none

omit [Env] in
theorem store_ev {C : Ctx} {call : CallA} {H H' : Heap} {id : Nat} {T : Tr AV} {o : Oper} {t : TypeId} {a x : Operand} (ho : o.op = .store t a x) {b off n : Nat} (hst : stOf T o = some (b, off, n)) {v : AV} (h : evOp C call H id T o = some (v, H')) :
    ∃ u, ev T a = some (.ptr b off) ∧ ev T x = some u ∧ n = u.cells.length ∧ evStore C H t u (.ptr b off) = some H' := by
  simp only [stOf, ho] at hst
  split at hst
  · rename_i b' off' u e1 e2
    cases hst
    simp only [evOp, ho, e1, e2] at h
    split at h
    · rename_i H1 e3; cases h; exact ⟨u, e1, e2, rfl, e3⟩
    · cases h
  · cases hst
omit [Env] in
theorem Chain.mid {C : Ctx} {call : CallA} {ops : Array Oper} {base : Nat} {pn : Option (Nat × AV)} {ord : List Nat} {lo : Option Nat} {S : Nat → St} {F : Nat → Info} (ch : Chain C call ops base pn ord lo S F) (hpn : pn = none) {p : Nat} (hlo : lo = some p) :
    ∃ x y K, ord[p]? = some x ∧ ord[p + 1]? = some y ∧ Mid C call ops base S F p x y K := by
  obtain ⟨hp, hl⟩ := ch.static.loose p hlo
  obtain ⟨x, hx, _⟩ := ch.has (show p < ops.size by omega)
  obtain ⟨y, hy, _⟩ := ch.has hp
  obtain ⟨ox, tx, ax, vx, x1, x2, x3, x4⟩ := (hl p x hx).1 (.inl rfl)
  obtain ⟨oy, ty, ay, vy, y1, y2, y3, y4⟩ := (hl (p + 1) y hy).1 (.inr rfl)
  obtain ⟨o, v, H1, one⟩ := ch.one p x hx
  obtain ⟨o2, v2, H2, two⟩ := ch.one (p + 1) y hy
  have eo : o = ox := by have := one.op; rw [x1] at this; cases this; rfl
  have eo2 : o2 = oy := by have := two.op; rw [y1] at this; cases this; rfl
  subst eo; subst eo2
  have far := ch.far p x y hpn hlo hx hy
  have wx : wantedA ops (S p).T o = some true := by unfold wantedA; rw [x3]
  have wy : wantedA ops (S (p + 1)).T o2 = some true := by unfold wantedA; rw [y3]
  rcases one.how with ⟨h | ⟨_, _, h, _⟩, _⟩ | ⟨_, ex, fx⟩
  · rw [wx] at h; cases h
  · rw [hpn] at h; cases h
  rcases two.how with ⟨h | ⟨_, _, h, _⟩, _⟩ | ⟨_, ey, fy⟩
  · rw [wy] at h; cases h
  · rw [hpn] at h; cases h
  have c3 : clsOf o = 3 := by unfold clsOf; rw [x2]
  have c4 : clsOf o2 = 3 := by unfold clsOf; rw [y2]
  have log1 := ch.log (show p + 1 ≤ ops.size by omega)
  simp only [fx, fy] at far
  cases sx : stOf (S p).T o with
  | none => rw [sx] at far; cases far
  | some px => cases sy : stOf (S (p + 1)).T o2 with
    | none => rw [sx, sy] at far; cases far
    | some py =>
      obtain ⟨bx, offx, nx⟩ := px
      obtain ⟨yb, offy, ny⟩ := py
      rw [sx, sy] at far
      obtain ⟨ux, a1, a2, rfl, a3⟩ := store_ev x2 sx ex
      obtain ⟨uy, b1, b2, rfl, b3⟩ := store_ev y2 sy ey
      obtain ⟨M, M', m1, m2, m3, m4, m5, m6, m7⟩ := store_swap a3 one.get one.next b3 far
      have hwr : ∀ b, b ∉ (F (p + 1)).wr → b ≠ yb := by
        intro b hb e
        subst e
        obtain ⟨j, oc, _, _, _, _, _, _, _, rfl⟩ := store_parts b3
        apply hb
        rw [fy, c4]
        simp [Heap.write, log1]
      refine ⟨x, y, M, hx, hy, ⟨⟨o2, y1, c4, y4, y3, by simp only [evOp, y2, b1, b2, m1]⟩, ⟨o, M', x1, c3, x4, x3, by simp only [evOp, x2, a1, a2, m2], ⟨fun b => by rw [two.get, m3], by rw [two.next, m4]⟩⟩, m5, fun b hb => m6 b (hwr b hb), fun b hb => by
        have hne : b ≠ bx := by
          intro e
          subst e
          obtain ⟨j, oc, _, _, _, _, _, _, _, rfl⟩ := store_parts a3
          apply hb
          rw [fx, c3]
          simp [Heap.write, ch.log (show p ≤ ops.size by omega)]
        rw [two.get, ← m3]
        obtain ⟨j, oc, _, _, _, _, _, _, _, rfl⟩ := store_parts m2
        rw [Heap.get_write, if_neg hne], m7⟩⟩

/-- where a run in some order stands -/
structure Inv (dd : List Deferred) (C : Ctx) (call : CallA) (ops : Array Oper) (base : Nat) (pn : Option (Nat × AV)) (ord : List Nat) (lo : Option Nat) (S : Nat → St) (F : Nat → Info) (ι0 : Map) (H0 : Heap) (w0 : World) (ls : Array Bool) (a : Act) (w : World) (ι : Map) (q : Nat) (fl : Bool) (K : Heap) : Prop where
  sz : ls.size = ops.size
  cl : Closed ops ls
  q1 : q ≤ ops.size
  q2 : q = ops.size ∨ ∃ j, ord[q]? = some j ∧ clsAt ops j = 3
  q3 : ∀ (p i : Nat), ord[p]? = some i → clsAt ops i = 3 → (Li ls i ↔ (p < q ∨ (fl = true ∧ p = q + 1)))
  kk : (fl = false ∧ K = (S q).H) ∨ (fl = true ∧ lo = some q ∧ ∃ x y, ord[q]? = some x ∧ ord[q + 1]? = some y ∧ Mid C call ops base S F q x y K)
  tm : ∀ (t k : Nat) (x : AV), k ≤ ops.size → (∀ (p i : Nat), ord[p]? = some i → dstAt ops i = some t → (Li ls i ↔ p < k)) → (S k).T.get t = some x → ∃ v, a.tmps[t]? = some v ∧ VR ι x v
  st : Step (fun b => base ≤ b) ι0 H0 w0 ι K w
  un : ∀ i, i < ops.size → ¬ Li ls i → ι (base + i) = none
  asz : a.tmps.size = (S 0).N
  df : a.defers = dd
  np : ∀ i x, pn = some (i, x) → ¬ Li ls i

omit [Env] in
/-- the next place of an operation that writes -/
theorem next_eff (ops : Array Oper) (ord : List Nat) (hlen : ord.length = ops.size) : ∀ (d p : Nat), p + d = ops.size → ∃ q, p ≤ q ∧ q ≤ ops.size ∧ (q = ops.size ∨ ∃ j, ord[q]? = some j ∧ clsAt ops j = 3) ∧ ∀ (r j : Nat), p ≤ r → r < q → ord[r]? = some j → clsAt ops j ≠ 3
  | 0, p, h => ⟨p, Nat.le_refl _, by omega, .inl (by omega), fun r j h1 h2 => by omega⟩
  | d + 1, p, h => by
    have hp : p < ord.length := by omega
    by_cases e : clsAt ops ord[p] = 3
    · exact ⟨p, Nat.le_refl _, by omega, .inr ⟨_, by simp [hp], e⟩, fun r j h1 h2 => by omega⟩
    · obtain ⟨q, h1, h2, h3, h4⟩ := next_eff ops ord hlen d (p + 1) (by omega)
      refine ⟨q, by omega, h2, h3, fun r j r1 r2 hr => ?_⟩
      by_cases e2 : r = p
      · subst e2; simp [hp] at hr; subst hr; exact e
      · exact h4 r j (by omega) r2 hr

omit [Env] in
theorem Li_set {ls : Array Bool} {i j : Nat} (hi : i < ls.size) : Li (ls.setIfInBounds i true) j ↔ (j = i ∨ Li ls j) := by
  unfold Li
  by_cases e : j = i
  · subst e; simp [hi]
  · simp only [e, false_or]
    rw [Array.getD_eq_getD_getElem?, Array.getD_eq_getD_getElem?, Array.getElem?_setIfInBounds_ne (Ne.symm e)]

section
variable {dd : List Deferred} {C : Ctx} {P : Program} (hC : C.Ok P) {call : CallA} (hcall : CallSound P call) (hheap : CallHeap call) {ops : Array Oper} {base : Nat} {pn : Option (Nat × AV)} {ord : List Nat} {lo : Option Nat} {S : Nat → St} {F : Nat → Info}
  (ch : Chain C call ops base pn ord lo S F) {ι0 : Map} {H0 : Heap} {w0 : World} {Q : Exit → Act → World → Prop}

/-- the invariant behind one more operation -/
theorem Inv.next (ch : Chain C call ops base pn ord lo S F) (hheap : CallHeap call) {ls : Array Bool} {a : Act} {w : World} {ι : Map} {q : Nat} {fl : Bool} {K : Heap} (inv : Inv dd C call ops base pn ord lo S F ι0 H0 w0 ls a w ι q fl K) : base + ops.size ≤ K.next := by
  have := ch.nextle hheap inv.q1
  rcases inv.kk with ⟨_, rfl⟩ | ⟨_, _, x, y, _, _, m⟩
  · exact this
  · rw [m.next]; exact this
theorem Inv.step (ch : Chain C call ops base pn ord lo S F) (hheap : CallHeap call) {ls : Array Bool} {a : Act} {w : World} {ι : Map} {q i : Nat} {fl : Bool} {K : Heap} (inv : Inv dd C call ops base pn ord lo S F ι0 H0 w0 ls a w ι q fl K) (hi : i < ops.size) (hun : ¬ Li ls i)
    (hr : ∀ o, ops[i]? = some o → ∀ e ∈ o.after, Region.binds .any e = true → Li ls e.on) {o : Oper} {v : AV} {H' : Heap} (one : One C call ops base pn i (S (posOf ord i)) (S (posOf ord i + 1)) (F (posOf ord i)) o v H')
    {ι' : Map} {w' : World} {v' : Value} {q' : Nat} {fl' : Bool} {K' : Heap} (hs : Step (· = base + i) ι K w ι' K' w') (hv : VR ι' v v')
    (hnp : ∀ x, pn ≠ some (i, x)) (hq1 : q' ≤ ops.size) (hq2 : q' = ops.size ∨ ∃ j, ord[q']? = some j ∧ clsAt ops j = 3)
    (hq3 : ∀ (p j : Nat), ord[p]? = some j → clsAt ops j = 3 → ((j = i ∨ Li ls j) ↔ (p < q' ∨ (fl' = true ∧ p = q' + 1))))
    (hkk : (fl' = false ∧ K' = (S q').H) ∨ (fl' = true ∧ lo = some q' ∧ ∃ x y, ord[q']? = some x ∧ ord[q' + 1]? = some y ∧ Mid C call ops base S F q' x y K')) :
    Inv dd C call ops base pn ord lo S F ι0 H0 w0 (ls.setIfInBounds i true) (a.put o.dst v') w' ι' q' fl' K' := by
  have hsz : i < ls.size := by rw [inv.sz]; exact hi
  obtain ⟨hpi, hpl⟩ := ch.at hi
  have hdst : dstAt ops i = o.dst := by simp [dstAt, one.op]
  have hbase := inv.next ch hheap
  refine ⟨by simp [inv.sz], ?_, hq1, hq2, ?_, hkk, ?_, ?_, ?_, ?_, ?_, ?_⟩
  · intro j oj hoj hj e he hb
    rw [Li_set hsz] at hj ⊢
    rcases hj with rfl | hj
    · exact .inr (hr oj hoj e he hb)
    · exact .inr (inv.cl j oj hoj hj e he hb)
  · intro p j hp hc
    rw [Li_set hsz]; exact hq3 p j hp hc
  · intro t k x hk hlist hx
    by_cases ht : o.dst = some t
    · -- the slot that has just been written
      have hpk : posOf ord i < k := (hlist _ i hpi (by rw [hdst]; exact ht)).1 ((Li_set hsz).2 (.inl rfl))
      have hnone : ∀ r j, posOf ord i + 1 ≤ r → r < k → ord[r]? = some j → dstAt ops j ≠ some t := by
        intro r j h1 h2 hrj hd
        have hl := (hlist r j hrj hd).2 h2
        have hpj := ch.static.pos r j hrj
        rw [Li_set hsz] at hl
        rcases hl with rfl | hl
        · omega
        · have hj := ch.static.lt r j hrj
          have hoj : ∃ y, ops[j]? = some y := ⟨ops[j], by simp [hj]⟩
          obtain ⟨y, hy⟩ := hoj
          have hd' : y.dst = some t := by simpa [dstAt, hy] using hd
          have hne : i ≠ j := fun e => by subst e; omega
          rcases ch.static.tmp i j o y hne one.op hy t ht (.inr hd') with hb | hb
          · have := ch.static.befpos hb; omega
          · exact hun (inv.cl.bef hb hl)
      rw [ch.slot (show posOf ord i + 1 ≤ k by omega) hk hnone, one.tmp, if_pos ht] at hx
      cases hx
      have hfit := one.fits t ht
      rw [ch.N (show posOf ord i ≤ ops.size by omega)] at hfit
      refine ⟨v', ?_, hv⟩
      rw [ht]
      simp only [Act.put]
      have : t < a.tmps.size := by rw [inv.asz]; exact hfit
      simp [this]
    · obtain ⟨u, hu, r⟩ := inv.tm t k x hk (fun p j hp hd => by
        have hne : j ≠ i := fun e => by subst e; rw [hdst] at hd; exact ht hd
        rw [← hlist p j hp hd, Li_set hsz]; simp [hne]) hx
      refine ⟨u, ?_, r.ext hs.ext⟩
      cases hd : o.dst with
      | none => exact hu
      | some d =>
        have : d ≠ t := fun e => ht (by rw [hd, e])
        simp only [Act.put]
        rw [Array.getElem?_setIfInBounds_ne this]; exact hu
  · exact inv.st.trans (fun _ h => h) (fun b hb => by omega) hs
  · intro j hj hnl
    rw [Li_set hsz] at hnl
    have hne : j ≠ i := fun e => hnl (.inl e)
    cases e : ι' (base + j) with
    | none => rfl
    | some l =>
      rcases hs.dom (base + j) (inv.un j hj (fun h => hnl (.inr h))) (by rw [e]; simp) with h | h
      · omega
      · omega
  · cases hd : o.dst with
    | none => exact inv.asz
    | some d => simp [Act.put, inv.asz]
  · cases o.dst with
    | none => exact inv.df
    | some d => exact inv.df
  · intro j x hj hl
    rw [Li_set hsz] at hl
    rcases hl with rfl | hl
    · exact hnp x hj
    · exact inv.np j x hj hl
end
end
end Go.Ev
namespace Go.Ev
noncomputable section
open Go Go.RowKit
variable [Env]

section
variable {dd : List Deferred} {C : Ctx} {P : Program} (hC : C.Ok P) {call : CallA} (hcall : CallSound P call) (hheap : CallHeap call) {ops : Array Oper} {base : Nat} {pn : Option (Nat × AV)} {ord : List Nat} {lo : Option Nat} {S : Nat → St} {F : Nat → Info}
  (ch : Chain C call ops base pn ord lo S F) {ι0 : Map} {H0 : Heap} {w0 : World} {Q : Exit → Act → World → Prop}

omit [Env] in
theorem Chain.wrnil (ch : Chain C call ops base pn ord lo S F) {p i : Nat} (hp : ord[p]? = some i) (hc : clsAt ops i ≠ 3) : (F p).wr = [] := by
  obtain ⟨o, v, H', h⟩ := ch.one p i hp
  rcases h.how with ⟨_, _, _, hf⟩ | ⟨_, _, hf⟩
  · rw [hf]
  · rw [hf]
    have : clsOf o ≠ 3 := by simpa [clsAt, h.op] using hc
    simp [Tr.nbeq, this]

omit [Env] in
theorem blk_one {T : Tr AV} {base i : Nat} {o : Oper} (hc : clsOf o = 1) : blkOf T base i o = some (base + i) := by
  unfold blkOf
  have h1 : Nat.beq (clsOf o) 1 = true := by simp [hc]
  unfold clsOf at hc
  split
  · rename_i ho; simp [ho] at hc
  · rename_i ho; simp [ho] at hc
  · rename_i ho; simp [ho] at hc
  · rename_i ho; simp [ho] at hc
  · rename_i ho; simp [ho] at hc
  · rw [h1]; rfl
omit [Env] in
theorem evs_head {T : Tr AV} {xs : List Operand} {v : AV} {vs : List AV} (h : evs T xs = some (v :: vs)) : ∃ x, x ∈ xs ∧ ev T x = some v := by
  cases xs with
  | nil => simp only [evs] at h; cases h
  | cons x xs =>
    simp only [evs] at h
    split at h
    · rename_i u us e1 e2; cases h; exact ⟨x, by simp, e1⟩
    · cases h
omit [Env] in
theorem blk_two {T : Tr AV} {base i b : Nat} {o : Oper} (hc : clsOf o = 2) (hb : blkOf T base i o = some b) : ∃ x, x ∈ o.op.operands ∧ ((∃ off, ev T x = some (.ptr b off)) ∨ (∃ off n, ev T x = some (.sl b off n)) ∨ ev T x = some (.map b)) := by
  unfold blkOf at hb
  have h1 : Nat.beq (clsOf o) 1 = false := by simp [Tr.nbeq, hc]
  split at hb
  · rename_i t x ho
    split at hb
    · rename_i b' off e; cases hb; exact ⟨x, by simp [ho, Op.operands], .inl ⟨off, e⟩⟩
    · cases hb
  · rename_i t x l h m ho
    split at hb
    · rename_i b' off n e; cases hb; exact ⟨x, by simp [ho, Op.operands], .inr (.inl ⟨off, n, e⟩)⟩
    · cases hb
  · rename_i t d x ho
    split at hb
    · rename_i b' off n e; cases hb; exact ⟨x, by simp [ho, Op.operands], .inr (.inl ⟨off, n, e⟩)⟩
    · cases hb
  · rename_i t m k ok ho
    split at hb
    · rename_i b' e; cases hb; exact ⟨m, by simp [ho, Op.operands], .inr (.inr e)⟩
    · cases hb
  · rename_i args tys ho
    split at hb
    · rename_i b' rest e
      cases hb
      obtain ⟨x, hx, hxe⟩ := evs_head e
      exact ⟨x, by simp only [ho, Op.operands, Call.operands]; exact Array.mem_append.2 (.inr (by simpa using hx)), .inr (.inr hxe)⟩
    · cases hb
  · rw [h1] at hb; cases hb
omit [Env] in
theorem blk_there {T : Tr AV} {base i b id : Nat} {o : Oper} {H H' : Heap} {v : AV} (hc : clsOf o = 2) (hb : blkOf T base i o = some b) (h : evOp C call H id T o = some (v, H')) : H.get b ≠ none := by
  have h1 : Nat.beq (clsOf o) 1 = false := by simp [Tr.nbeq, hc]
  unfold blkOf at hb
  unfold evOp at h
  split at hb
  · rename_i t x ho
    simp only [ho] at h
    split at hb
    · rename_i b' off e
      cases hb
      simp only [e] at h
      obtain ⟨h, _⟩ := same_eq h
      intro hn0
      have hn : H.cells b = none := by unfold Heap.cells; rw [hn0]
      simp only [evLoad, hn] at h
      split at h
      · rename_i e1 e2; cases e2
      · cases h
    · cases hb
  · rename_i t x lo hi m ho
    split at hb
    · rename_i b' off n e
      cases hb
      cases m with
      | some m => simp [ho] at h
      | none =>
        simp only [ho, e] at h
        split at h
        · rename_i u1 u2 u3 e1 e2 e3
          cases e1
          obtain ⟨h, _⟩ := same_eq h
          intro hn0
          have hn : H.cells b = none := by unfold Heap.cells; rw [hn0]
          unfold sliceA at h
          cases hct : C.ty t with
          | none => rw [hct] at h; simp at h
          | some i0 =>
            simp only [hct, hn] at h
            split at h
            · split at h
              · split at h
                · rename_i e4; cases e4
                · cases h
              · cases h
            · cases h
        · cases h
    · cases hb
  · rename_i t d x ho
    simp only [ho] at h
    split at hb
    · rename_i b' off n e
      cases hb
      simp only [e] at h
      obtain ⟨h, _⟩ := same_eq h
      intro hn0
      have hn : H.cells b = none := by unfold Heap.cells; rw [hn0]
      unfold convertHA at h
      split at h
      · rename_i e2
        cases h
        unfold convertA at e2
        split at e2
        · split at e2 <;> first | (rename_i e3; cases e3) | cases e2
        · cases e2
      · unfold toStringA at h
        split at h
        · split at h
          · split at h
            · split at h
              · rename_i e3; cases e3
              · rename_i e3
                cases e3
                rw [hn] at h; cases h
              · cases h
            · cases h
          · cases h
        · cases h
    · cases hb
  · rename_i t m k ok ho
    simp only [ho] at h
    split at hb
    · rename_i b' e
      cases hb
      simp only [e] at h
      split at h
      · rename_i u1 u2 e1 e2
        cases e1
        obtain ⟨h, _⟩ := same_eq h
        intro hn0
        have hn : H.entries b = none := by unfold Heap.entries; rw [hn0]
        unfold lookupA at h
        split at h
        · split at h
          · split at h
            · obtain ⟨_, h⟩ := bound_of_cond h
              simp only [hn] at h; cases h
            · cases h
          · cases h
        · cases h
      · cases h
    · cases hb
  · rename_i args tys ho
    simp only [ho] at h
    split at hb
    · rename_i b' rest e
      cases hb
      unfold callA at h
      simp only [e] at h
      split at h
      · rename_i t x r2 e1 e2
        cases e2
        split at h
        · rename_i i e3
          obtain ⟨h, _⟩ := same_eq h
          intro hn0
          have hn : H.entries b = none := by unfold Heap.entries; rw [hn0]
          simp only [lenHA] at h
          unfold lenMapA at h
          split at h
          · rename_i e5; cases e5; rw [hn] at h; cases h
          · cases h
        · cases h
      · cases h
    · cases hb
  · rw [h1] at hb; cases hb

omit [Env] in
theorem Chain.pan_op (ch : Chain C call ops base pn ord lo S F) {i : Nat} {x : AV} (hp : pn = some (i, x)) {o : Oper} {v : AV} {H' : Heap} (one : One C call ops base pn i (S (posOf ord i)) (S (posOf ord i + 1)) (F (posOf ord i)) o v H') : v = .pan x := by
  obtain ⟨p, o2, H2, hpi, two, _, _⟩ := ch.panic i x hp
  have hpos := ch.static.pos p i hpi
  subst hpos
  have ho : o = o2 := by have := one.op; rw [two.op] at this; cases this; rfl
  subst ho
  rcases two.how with ⟨_, h, _⟩ | ⟨hw, he, _⟩
  · cases h
  · rcases one.how with ⟨h | ⟨i0, x0, h, hb⟩, _⟩ | ⟨_, he2, _⟩
    · rw [hw] at h; cases h
    · rw [hp] at h; cases h
      have := ch.static.befpos hb; omega
    · rw [he] at he2; cases he2; rfl

include hC hcall hheap ch
theorem Inv.run {ls : Array Bool} {a : Act} {w : World} {ι : Map} {q i : Nat} {fl : Bool} {Kh : Heap} (inv : Inv dd C call ops base pn ord lo S F ι0 H0 w0 ls a w ι q fl Kh) (hi : i < ops.size) (hun : ¬ Li ls i)
    (hr : ∀ o, ops[i]? = some o → ∀ e ∈ o.after, Region.binds .any e = true → Li ls e.on) {K : Act → World → Prop}
    (hK : ∀ a' w' ι' q' fl' K', Inv dd C call ops base pn ord lo S F ι0 H0 w0 (ls.setIfInBounds i true) a' w' ι' q' fl' K' → K a' w')
    (hP : ∀ x, pn = some (i, x) → ∀ ι' a' w' x', Step (fun b => base ≤ b) ι0 H0 w0 ι' (S ops.size).H w' → VR ι' x x' → a'.defers = dd → a'.tmps.size = (S 0).N → (∀ t y, (∀ j, dstAt ops j ≠ some t) → (S 0).T.get t = some y → ∃ u, a'.tmps[t]? = some u ∧ VR ι' y u) → Q (.panic [{ v := x', recovered := false }]) a' w') : wpOp P ops Q i K a w := by
  obtain ⟨hpi, hpl⟩ := ch.at hi
  obtain ⟨o, v, H', one⟩ := ch.one _ i hpi
  have hcl : clsAt ops i = clsOf o := by simp [clsAt, one.op]
  have hwr := inv.st.wr
  have hbase := inv.next ch hheap
  have hid := inv.un i hi hun
  have hnpv : ∀ {ι1 : Map} {v1 : Value}, VR ι1 v v1 → ∀ x, pn ≠ some (i, x) := fun hv x hx => by
    rw [ch.pan_op hx one] at hv; simp only [VR] at hv
  -- what the operation looks at is what the chosen order has there
  have hT : ∀ t, t ∈ o.looksAt ops → ∀ x, (S (posOf ord i)).T.get t = some x → ∃ u, a.tmps[t]? = some u ∧ VR ι x u := by
    intro t ht x hx
    refine inv.tm t _ x (by omega) (fun r j hrj hd => ?_) hx
    by_cases hne : j = i
    · subst hne
      have := ch.static.pos r j hrj
      constructor
      · intro h; exact (hun h).elim
      · intro h; omega
    · have hj := ch.static.lt r j hrj
      have hpj := ch.static.pos r j hrj
      obtain ⟨y, hy⟩ : ∃ y, ops[j]? = some y := ⟨ops[j], by simp [hj]⟩
      have hd' : y.dst = some t := by simpa [dstAt, hy] using hd
      rcases ch.static.tmp j i y o hne hy one.op t hd' (.inl ht) with hb | hb
      · have := ch.static.befpos hb
        constructor
        · intro h; exact (hun (inv.cl.bef hb h)).elim
        · intro h; omega
      · have := ch.static.befpos hb
        exact ⟨fun _ => by omega, fun _ => inv.cl.ready hr hb⟩
  have hev : ∀ x, x ∈ o.op.operands → ∀ u, ev (S (posOf ord i)).T x = some u → VR ι u (a.eval x) := by
    intro x hx u hu
    cases x with
    | tmp t =>
      obtain ⟨z, hz, r⟩ := hT t (List.mem_append_left _ (List.mem_filterMap.2 ⟨.tmp t, by simpa using hx, rfl⟩)) u hu
      simpa [Act.eval, hz] using r
    | const c => exact ofValue_sound hu ι
    | global g => cases hu
    | func f => cases hu; simp only [VR, Act.eval]; exact ⟨[], [], VRs_nil, VRs_nil, rfl⟩
  -- an operation that writes stands at q, or is the second of two loose ones
  have hE : clsAt ops i = 3 → posOf ord i = q ∨ (fl = false ∧ lo = some q ∧ posOf ord i = q + 1) := by
    intro h3
    have h1 : ¬ (posOf ord i < q ∨ (fl = true ∧ posOf ord i = q + 1)) := fun h => hun ((inv.q3 _ i hpi h3).2 h)
    rcases inv.q2 with h | ⟨j, hj, hj3⟩
    · omega
    · by_cases hne : i = j
      · subst hne; exact .inl (ch.static.pos q i hj)
      · have hjl := ch.static.lt q j hj
        have hpj := ch.static.pos q j hj
        obtain ⟨y, hy⟩ : ∃ y, ops[j]? = some y := ⟨ops[j], by simp [hjl]⟩
        have hy3 : clsOf y = 3 := by simpa [clsAt, hy] using hj3
        rcases ch.static.eff i j o y hne one.op hy (by rw [← hcl]; exact h3) hy3 with hb | hb | ⟨p, hlo, hb | hb⟩
        · have := (inv.q3 q j hj hj3).1 (inv.cl.ready hr hb)
          rcases this with h | ⟨_, h⟩ <;> omega
        · have := ch.static.befpos hb; omega
        · omega
        · have hpq : p = q := by omega
          subst hpq
          refine .inr ⟨?_, hlo, by omega⟩
          cases hf : fl with
          | false => rfl
          | true => exact (h1 (.inr ⟨hf, by omega⟩)).elim
  have advance : ∀ (ids : Nat → Prop) (r q' : Nat) (ι1 : Map) (w1 : World), WR ι1 (S r).H w1 → r ≤ q' → q' ≤ ops.size → (∀ (x j : Nat), r ≤ x → x < q' → ord[x]? = some j → clsAt ops j ≠ 3) → Step ids ι1 (S r).H w1 ι1 (S q').H w1 := by
    intro ids r q' ι1 w1 h1 h2 h3 h4
    obtain ⟨k1, k2, _⟩ := ch.plain hheap h2 h3 h4
    refine Step.heap h1 (fun b hb => ?_) (by rw [k1]; exact Nat.le_refl _) k2
    cases e : ι1 b with
    | none => exact (hb e).elim
    | some l =>
      exact ch.same hheap h2 h3 (h1.vis b l e) (fun x j x1 x2 hx => by rw [ch.wrnil hx (h4 x j x1 x2 hx)]; simp)
  -- an operation that is not listed and looks at a block, or makes it, is ordered with whatever writes it
  have writers : ∀ b r j, (F (posOf ord i)).blk = some b → ord[r]? = some j → b ∈ (F r).wr →
      ((r < q ∨ (fl = true ∧ r = q + 1)) ∧ r < posOf ord i) ∨ (¬ (r < q ∨ (fl = true ∧ r = q + 1)) ∧ posOf ord i < r) := by
    intro b r j hb hrj hmem
    have hj3 : clsAt ops j = 3 := by
      by_cases h : clsAt ops j = 3
      · exact h
      · rw [ch.wrnil hrj h] at hmem; simp at hmem
    have hpj := ch.static.pos r j hrj
    rcases ch.dyn _ i r j b hpi hrj hb hmem with h | h | h
    · subst h
      have hne : (F (posOf ord i)).blk = none := by
        have h3 : clsOf o = 3 := by rw [← hcl]; exact hj3
        rcases one.how with ⟨_, _, _, hf⟩ | ⟨_, _, hf⟩
        · rw [hf]
        · rw [hf]
          simp only
          unfold blkOf
          unfold clsOf at h3
          split
          · rename_i ho; simp [ho] at h3
          · rename_i ho; simp [ho] at h3
          · rename_i ho; simp [ho] at h3
          · rename_i ho; simp [ho] at h3
          · rename_i ho; simp [ho] at h3
          · have : Nat.beq (clsOf o) 1 = false := by rw [← hcl, hj3]; rfl
            rw [this]; rfl
      rw [hne] at hb; cases hb
    · have := ch.static.befpos h
      exact .inl ⟨(inv.q3 r j hrj hj3).1 (inv.cl.ready hr h), by omega⟩
    · have := ch.static.befpos h
      exact .inr ⟨fun hc => hun (inv.cl.bef h ((inv.q3 r j hrj hj3).2 hc)), by omega⟩
  have kget : ∀ b, (fl = false ∨ b ∉ (F (q + 1)).wr) → Kh.get b = (S q).H.get b := by
    intro b hb
    rcases inv.kk with ⟨_, rfl⟩ | ⟨hf, _, x, y, _, _, m⟩
    · rfl
    · rcases hb with h | h
      · rw [hf] at h; cases h
      · exact m.get b h
  have knext : Kh.next = (S q).H.next := by
    rcases inv.kk with ⟨_, rfl⟩ | ⟨hf, _, x, y, _, _, m⟩
    · rfl
    · exact m.next
  have kkeep : ∀ b, (S q).H.get b ≠ none → Kh.get b ≠ none := by
    rcases inv.kk with ⟨_, rfl⟩ | ⟨hf, _, x, y, _, _, m⟩
    · exact fun _ h => h
    · exact m.keep
  have plainNext : clsAt ops i ≠ 3 → ∀ (p j : Nat), ord[p]? = some j → clsAt ops j = 3 → ((j = i ∨ Li ls j) ↔ (p < q ∨ (fl = true ∧ p = q + 1))) := fun hne p j hp hc => by
    rw [← inv.q3 p j hp hc]
    exact ⟨fun h => h.elim (fun e => by subst e; exact (hne hc).elim) id, .inr⟩
  have effNext : ∀ q', clsAt ops i = 3 → posOf ord i = q → fl = false → q + 1 ≤ q' → (∀ (r j : Nat), q + 1 ≤ r → r < q' → ord[r]? = some j → clsAt ops j ≠ 3) →
      ∀ (p j : Nat), ord[p]? = some j → clsAt ops j = 3 → ((j = i ∨ Li ls j) ↔ (p < q' ∨ (false = true ∧ p = q' + 1))) := fun q' h3 hpq hf hle hno p j hp hc => by
    have hpj := ch.static.pos p j hp
    rw [inv.q3 p j hp hc, hf]
    constructor
    · rintro (rfl | h | ⟨h, _⟩)
      · exact .inl (by omega)
      · exact .inl (by omega)
      · cases h
    · rintro (h | ⟨h, _⟩)
      · by_cases e : p < q
        · exact .inr (.inl e)
        · by_cases e2 : p = q
          · left
            have h1 : ord[p]? = some i := by rw [e2, ← hpq]; exact hpi
            rw [hp] at h1; cases h1; rfl
          · exact (hno p j (by omega) h hp hc).elim
      · cases h
  unfold wpOp
  simp only [one.op]
  have loose : ∀ p, lo = some p → (posOf ord i = p ∨ posOf ord i = p + 1) → wantedA ops (S (posOf ord i)).T o = some true := by
    intro p hlo hp
    obtain ⟨o2, t, x, u, h1, h2, h3, h4⟩ := ((ch.static.loose p hlo).2 _ i hpi).1 hp
    have : o2 = o := by have := one.op; rw [h1] at this; cases this; rfl
    subst this
    unfold wantedA; rw [h3]
  rcases one.how with ⟨hw | ⟨i0, x0, hpn, hbd⟩, hv, hH, hf⟩ | ⟨hw, hevo, hf⟩
  rotate_left
  · -- behind a panic
    exact (inv.np i0 x0 hpn (inv.cl.ready hr hbd)).elim
  rotate_left
  · -- not wanted
    rw [wanted_sound' hT hw]
    simp only [Bool.false_eq_true, if_false]
    have hvu : ∀ ι1 : Map, VR ι1 v undef := fun ι1 => by rw [hv]; simp only [VR, undefA, undef]; exact ⟨[], VRs_nil, rfl⟩
    by_cases h3 : clsAt ops i = 3
    · rcases inv.kk with ⟨hfl, hKh⟩ | ⟨_, hlo, _⟩
      · rcases hE h3 with hpq | ⟨_, hlo, hpq⟩
        · obtain ⟨q', n1, n2, n3, n4⟩ := next_eff ops ord ch.static.len (ops.size - (q + 1)) (q + 1) (by omega)
          have hwr' : WR ι (S q).H w := by rw [← hKh]; exact hwr
          have hs1 : Step (· = base + i) ι (S q).H w ι (S (q + 1)).H w := by
            rw [hpq] at one
            refine Step.heap hwr' (fun b _ => by rw [one.get, hH, hpq]) (by rw [one.next, hH, hpq]; exact Nat.le_refl _) (fun b hb => by rw [one.get, hH, hpq]; exact hb)
          have hs2 := advance (· = base + i) (q + 1) q' ι w hs1.wr n1 n2 n4
          have hs3 := hs1.trans (ids := (· = base + i)) (fun _ h => h) (fun _ h => h) hs2
          rw [← hKh] at hs3
          exact hK _ _ _ _ false _ (inv.step ch hheap hi hun hr one hs3 (hvu ι) (hnpv (hvu ι)) n2 n3 (effNext q' h3 hpq hfl n1 n4) (.inl ⟨rfl, rfl⟩))
        · rw [loose q hlo (.inr hpq)] at hw; cases hw
      · rcases hE h3 with hpq | ⟨_, hlo, hpq⟩
        · rw [loose q hlo (.inl hpq)] at hw; cases hw
        · rw [loose q hlo (.inr hpq)] at hw; cases hw
    · exact hK _ _ _ _ _ _ (inv.step ch hheap hi hun hr one (Step.refl hwr) (hvu ι) (hnpv (hvu ι)) inv.q1 inv.q2 (plainNext h3) inv.kk)
  · rw [wanted_sound' hT hw]
    simp only [if_true]
    refine .inl ?_
    have hc : clsOf o = 0 ∨ clsOf o = 1 ∨ clsOf o = 2 ∨ clsOf o = 3 := by
      have : clsOf o ≤ 3 := by unfold clsOf; split <;> omega
      omega
    rcases hc with hc | hc | hc | hc
    · obtain ⟨_, h2⟩ := loc0 hc hevo
      refine evOp_sound' hC hcall hwr hev hid (by omega) (h2 Kh (base + i)) (fun ι' v' w' hs hv => ?_) (fun _ _ h3 => by omega)
      have hne : clsAt ops i ≠ 3 := by rw [hcl, hc]; simp
      exact hK _ _ _ _ _ _ (inv.step ch hheap hi hun hr one hs hv (hnpv hv) inv.q1 inv.q2 (plainNext hne) inv.kk)
    · obtain ⟨ob, ha, hloc⟩ := loc1 hc hevo
      obtain ⟨hnone, rfl⟩ := Heap.add_eq ha
      have hne : clsAt ops i ≠ 3 := by rw [hcl, hc]; simp
      have hblk : (F (posOf ord i)).blk = some (base + i) := by rw [hf]; exact blk_one hc
      have hpq : posOf ord i < q := by
        rcases inv.q2 with h | ⟨j, hj, hj3⟩
        · omega
        · have hjl := ch.static.lt q j hj
          have hpj := ch.static.pos q j hj
          obtain ⟨y, hy⟩ : ∃ y, ops[j]? = some y := ⟨ops[j], by simp [hjl]⟩
          have hy3 : clsOf y = 3 := by simpa [clsAt, hy] using hj3
          have hnij : i ≠ j := fun e => by subst e; exact hne hj3
          rcases ch.static.new i j o y hnij one.op hy hc hy3 with hb | hb | hb
          · have := (inv.q3 q j hj hj3).1 (inv.cl.ready hr hb)
            rcases this with h | ⟨_, h⟩ <;> omega
          · have := ch.static.befpos hb; omega
          · omega
      have hqget : (S q).H.get (base + i) = some ob := by
        have h1 : (S (posOf ord i + 1)).H.get (base + i) = some ob := by rw [one.get, Heap.get_put, if_pos rfl]
        rw [ch.same hheap (show posOf ord i + 1 ≤ q by omega) inv.q1 (by rw [h1]; simp) (fun r j r1 r2 hrj hm => by rcases writers _ r j hblk hrj hm with ⟨_, h⟩ | ⟨h, _⟩ <;> omega), h1]
      have hkget : Kh.get (base + i) = some ob := by
        rw [kget, hqget]
        by_cases hfl : fl = false
        · exact .inl hfl
        · refine .inr fun hm => ?_
          rcases inv.kk with ⟨h, _⟩ | ⟨hflt, _, x, y, _, hy, _⟩
          · exact hfl h
          · rcases writers _ (q + 1) y hblk hy hm with ⟨_, h⟩ | ⟨h, _⟩
            · omega
            · exact h (.inr ⟨hflt, rfl⟩)
      have hbn := inv.next ch hheap
      let Hx : Heap := { Kh with tr := Kh.tr.setO (base + i) none }
      have hxget : ∀ b, Hx.get b = if b = base + i then none else Kh.get b := fun b => Tr.get_setO _ _ _ _
      have hxdom : ∀ b, ι b ≠ none → Hx.get b = Kh.get b := fun b hb => by
        rw [hxget, if_neg (fun e => hb (by rw [e]; exact hid))]
      have hxadd : Hx.add (base + i) ob = some (Hx.put (base + i) ob) := by
        unfold Heap.add; rw [hxget, if_pos rfl]
      have hxeq : HEq2 (Hx.put (base + i) ob) Kh := by
        refine ⟨fun b => ?_, rfl⟩
        rw [Heap.get_put]
        by_cases e : b = base + i
        · rw [if_pos e, e, hkget]
        · rw [if_neg e, hxget, if_neg e]
      refine evOp_sound' hC hcall (hwr.heap hxdom (Nat.le_refl _)) hev hid (show base + i < Hx.next by show base + i < Kh.next; omega) (hloc Hx _ hxadd) (fun ι' v' w' hs hv => ?_) (fun _ _ h3 => by omega)
      have hs' := (hs.cast (HEq2.refl _) hxeq).src (K := Kh) (fun b hb => (hxdom b hb).symm) rfl (fun b hb => hb)
      exact hK _ _ _ _ _ _ (inv.step ch hheap hi hun hr one hs' hv (hnpv hv) inv.q1 inv.q2 (plainNext hne) inv.kk)
    · obtain ⟨_, h2⟩ := loc2 (base := base) (i := i) hc hevo
      have hne : clsAt ops i ≠ 3 := by rw [hcl, hc]; simp
      have hsame : ∀ b, blkOf (S (posOf ord i)).T base i o = some b → Kh.get b = (S (posOf ord i)).H.get b := by
        intro b hb
        have hblk : (F (posOf ord i)).blk = some b := by rw [hf]; exact hb
        have hdom : ∃ l, ι b = some l := by
          obtain ⟨x, hx, hxv⟩ := blk_two hc hb
          rcases hxv with ⟨off, e⟩ | ⟨off, n, e⟩ | e
          · have := hev x hx _ e; simp only [VR] at this; obtain ⟨l, hl, _⟩ := this; exact ⟨l, hl⟩
          · have := hev x hx _ e; simp only [VR] at this; obtain ⟨l, _, hl, _⟩ := this; exact ⟨l, hl⟩
          · have := hev x hx _ e; simp only [VR] at this; obtain ⟨l, hl, _⟩ := this; exact ⟨l, hl⟩
        obtain ⟨l, hl⟩ := hdom
        have hvis := hwr.vis b l hl
        have far : (fl = false ∨ b ∉ (F (q + 1)).wr) → Kh.get b = (S (posOf ord i)).H.get b := by
          intro hcase
          have hk := kget b hcase
          have no : ∀ r j, ord[r]? = some j → ((r < q ∧ posOf ord i ≤ r) ∨ (q ≤ r ∧ r < posOf ord i)) → b ∉ (F r).wr := by
            intro r j hrj hb2 hm
            rcases writers b r j hblk hrj hm with ⟨h | ⟨h1, h2⟩, h3⟩ | ⟨h, h3⟩
            · omega
            · rcases hcase with h4 | h4
              · rw [h1] at h4; cases h4
              · rw [h2] at hm; exact h4 hm
            · rcases hb2 with ⟨h4, _⟩ | ⟨_, h4⟩
              · exact h (.inl h4)
              · omega
          rw [hk]
          by_cases hpq : posOf ord i ≤ q
          · exact ch.same hheap hpq inv.q1 (blk_there hc hb hevo) (fun r j r1 r2 hrj => no r j hrj (.inl ⟨r2, r1⟩))
          · exact (ch.same hheap (show q ≤ posOf ord i by omega) (by omega) (by rw [← hk]; exact hvis) (fun r j r1 r2 hrj => no r j hrj (.inr ⟨r1, r2⟩))).symm
        by_cases hcase : fl = false ∨ b ∉ (F (q + 1)).wr
        · exact far hcase
        · have hmem : b ∈ (F (q + 1)).wr := Classical.byContradiction fun h => hcase (.inr h)
          have hfl : ¬ fl = false := fun h => hcase (.inl h)
          rcases inv.kk with ⟨h, _⟩ | ⟨hflt, _, x, y, hx, hy, m⟩
          · exact (hfl h).elim
          · have hgt : q + 1 < posOf ord i := by
              rcases writers b (q + 1) y hblk hy hmem with ⟨_, h⟩ | ⟨h, _⟩
              · exact h
              · exact (h (.inr ⟨hflt, rfl⟩)).elim
            have hnx : b ∉ (F q).wr := fun hm => by
              rcases writers b q x hblk hx hm with ⟨h | ⟨_, h⟩, _⟩ | ⟨_, h⟩ <;> omega
            rw [m.get2 b hnx]
            refine (ch.same hheap (show q + 2 ≤ posOf ord i by omega) (by omega) (by rw [← m.get2 b hnx]; exact hvis) (fun r j r1 r2 hrj hm => ?_)).symm
            rcases writers b r j hblk hrj hm with ⟨h | ⟨_, h⟩, _⟩ | ⟨_, h⟩ <;> omega
      refine evOp_sound' hC hcall hwr hev hid (by omega) (h2 Kh (base + i) hsame) (fun ι' v' w' hs hv => ?_) (fun _ _ h3 => by omega)
      exact hK _ _ _ _ _ _ (inv.step ch hheap hi hun hr one hs hv (hnpv hv) inv.q1 inv.q2 (plainNext hne) inv.kk)
    · have h3 : clsAt ops i = 3 := by rw [hcl, hc]
      rcases inv.kk with ⟨hfl, hKh⟩ | ⟨hfl, hlo, x, y, hx, hy, m⟩
      · rcases hE h3 with hpq | ⟨_, hlo, hpq⟩
        · obtain ⟨q', n1, n2, n3, n4⟩ := next_eff ops ord ch.static.len (ops.size - (q + 1)) (q + 1) (by omega)
          rw [hpq, ← hKh] at hevo
          rw [hpq] at hev
          have one' := one
          rw [hpq] at one'
          refine evOp_sound' hC hcall hwr hev hid (by omega) hevo (fun ι' v' w' hs hv => ?_) fun x hx _ ι' x' w' hs hv => ?_
          rotate_left
          · have hpx := one.pan x hx
            obtain ⟨p, o2, H2, p1, _, p3, _, _⟩ := ch.panic i x hpx
            have hpp := ch.static.pos p i p1
            have e1 := p3 ops.size (by omega) (Nat.le_refl _)
            have hs1 := hs.cast (HEq2.refl _) (⟨one'.get, one'.next⟩ : HEq2 H' (S (q + 1)).H)
            have e2 : p = q := by omega
            rw [e2] at e1
            rw [← e1] at hs1
            refine hP x hpx ι' a w' x' (inv.st.trans (fun _ h => h) (fun b hb => by omega) hs1) hv inv.df inv.asz fun t y hno hy => ?_
            obtain ⟨u, hu, r⟩ := inv.tm t 0 y (Nat.zero_le _) (fun p j _ hd => (hno j hd).elim) hy
            exact ⟨u, hu, r.ext hs.ext⟩
          have hs1 := hs.cast (HEq2.refl _) (⟨one'.get, one'.next⟩ : HEq2 H' (S (q + 1)).H)
          have hs2 := advance (· = base + i) (q + 1) q' ι' w' hs1.wr n1 n2 n4
          exact hK _ _ _ _ false _ (inv.step ch hheap hi hun hr one (hs1.trans (fun _ h => h) (fun _ h => h) hs2) hv (hnpv hv) n2 n3 (effNext q' h3 hpq hfl n1 n4) (.inl ⟨rfl, rfl⟩))
        · have hpn : pn = none := by
            cases hpn : pn with
            | none => rfl
            | some px =>
              exfalso
              obtain ⟨i0, x0⟩ := px
              obtain ⟨p, o2, H2, p1, p2, _, p5, p4⟩ := ch.panic i0 x0 hpn
              have hle := ((ch.static.loose q hlo).2 p i0 p1).2 o2 p2.op (by
                unfold effAt at p5
                rw [p2.op] at p5
                simpa [Tr.nbeq] using p5)
              by_cases hpe : p = q + 1
              · have h1 : ord[p]? = some i := by rw [hpe, ← hpq]; exact hpi
                rw [p1] at h1; cases h1
                have hv := ch.pan_op hpn one
                obtain ⟨o3, t, x2, u2, z1, z2, _, _⟩ := ((ch.static.loose q hlo).2 _ _ (by rw [← hpe]; exact p1)).1 (.inr rfl)
                have : o3 = o := by have := one.op; rw [z1] at this; cases this; rfl
                subst this
                rw [hv] at hevo
                simp only [evOp, z2] at hevo
                split at hevo
                · split at hevo
                  · cases hevo
                  · cases hevo
                · cases hevo
              · exact inv.np i0 x0 hpn (inv.cl.ready hr (p4 (q + 1) i (by omega) (by rw [← hpq]; exact hpi)))
          obtain ⟨x, y, K2, hx, hy, m⟩ := ch.mid hpn hlo
          have hiy : i = y := by
            have h1 : ord[q + 1]? = some i := by rw [← hpq]; exact hpi
            rw [hy] at h1; cases h1; rfl
          subst hiy
          obtain ⟨oy, y1, y2, y3, y4, y5⟩ := m.evy
          have : oy = o := by have := one.op; rw [y1] at this; cases this; rfl
          subst this
          rw [hpq] at hev
          rw [← hKh] at y5
          refine evOp_sound' hC hcall hwr hev hid (by omega) y5 (fun ι' v' w' hs hv => ?_) (fun x hx => by cases hx)
          have hv2 : VR ι' v v' := by
            obtain ⟨o2, t, x2, u2, z1, z2, _, _⟩ := ((ch.static.loose q hlo).2 _ i hy).1 (.inr rfl)
            rw [y1] at z1; cases z1
            simp only [evOp, z2] at hevo
            split at hevo
            · split at hevo
              · cases hevo; exact hv
              · cases hevo
            · cases hevo
          refine hK _ _ _ _ true K2 (inv.step ch hheap hi hun hr one hs hv2 (hnpv hv2) inv.q1 inv.q2 ?_ (.inr ⟨rfl, hlo, x, i, hx, hy, m⟩))
          intro p j hp hcj
          have hpj := ch.static.pos p j hp
          rw [inv.q3 p j hp hcj, hfl]
          constructor
          · rintro (rfl | h | ⟨h, _⟩)
            · exact .inr ⟨rfl, by omega⟩
            · exact .inl h
            · cases h
          · rintro (h | ⟨_, h⟩)
            · exact .inr (.inl h)
            · left
              rw [h, hy] at hp; cases hp; rfl
      · rcases hE h3 with hpq | ⟨h, _⟩
        · have hix : i = x := by
            have h1 : ord[q]? = some i := by rw [← hpq]; exact hpi
            rw [hx] at h1; cases h1; rfl
          subst hix
          obtain ⟨ox, M, x1, x2, x3, x4, x5, x6⟩ := m.evx
          have : ox = o := by have := one.op; rw [x1] at this; cases this; rfl
          subst this
          obtain ⟨o2, t, a2, u2, z1, z2, _, _⟩ := ((ch.static.loose q hlo).2 _ i hx).1 (.inl rfl)
          rw [x1] at z1; cases z1
          have hvu : v = undefA := by
            simp only [evOp, z2] at hevo
            split at hevo
            · split at hevo
              · cases hevo; rfl
              · cases hevo
            · cases hevo
          have hlt := (ch.static.loose q hlo).1
          obtain ⟨q', n1, n2, n3, n4⟩ := next_eff ops ord ch.static.len (ops.size - (q + 2)) (q + 2) (by omega)
          rw [hpq] at hev
          refine evOp_sound' hC hcall hwr hev hid (by omega) x5 (fun ι' v' w' hs hv => ?_) (fun x hx => by cases hx)
          have hs1 := hs.cast (HEq2.refl _) x6
          have hs2 := advance (· = base + i) (q + 2) q' ι' w' hs1.wr n1 n2 n4
          refine hK _ _ _ _ false _ (inv.step ch hheap hi hun hr one (hs1.trans (fun _ h => h) (fun _ h => h) hs2) (by rw [hvu]; exact hv) (hnpv (by rw [hvu]; exact hv)) n2 n3 ?_ (.inl ⟨rfl, rfl⟩))
          intro p j hp hcj
          have hpj := ch.static.pos p j hp
          rw [inv.q3 p j hp hcj]
          constructor
          · rintro (rfl | h | ⟨_, h⟩) <;> exact .inl (by omega)
          · rintro (h | ⟨h, _⟩)
            · by_cases e1 : p < q
              · exact .inr (.inl e1)
              · by_cases e2 : p = q
                · left; rw [e2, hx] at hp; cases hp; rfl
                · by_cases e3 : p = q + 1
                  · exact .inr (.inr ⟨hfl, e3⟩)
                  · exact (n4 p j (by omega) h hp hcj).elim
            · cases h
        · rw [hfl] at h; cases h
end
end
end Go.Ev
