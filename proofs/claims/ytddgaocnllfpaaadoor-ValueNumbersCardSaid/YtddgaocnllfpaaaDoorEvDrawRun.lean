import Derived.Test.YtddgaocnllfpaaaDoorEvDrawn
namespace Go.Ev
open Go Go.RowKit
variable [Env]

section
variable {C : Ctx} {P : Program} (hC : C.Ok P) {call : CallA} (hcall : CallSound P call) (hheap : CallHeap call) {ops : Array Oper} {base : Nat} {ord : List Nat} {S : Nat → St} {F : Nat → Info}
  (ch : Chain C call ops base ord S F) {ι0 : Map} {H0 : Heap} {w0 : World} {Q : Exit → Act → World → Prop}

omit [Env] in
theorem Chain.wrnil (ch : Chain C call ops base ord S F) {p i : Nat} (hp : ord[p]? = some i) (hc : clsAt ops i ≠ 3) : (F p).wr = [] := by
  obtain ⟨o, v, H', h⟩ := ch.one p i hp
  rcases h.how with ⟨_, _, _, hf⟩ | ⟨_, _, hf⟩
  · rw [hf]
  · rw [hf]
    have : clsOf o ≠ 3 := by simpa [clsAt, h.op] using hc
    simp [Tr.nbeq, this]

omit [Env] in
theorem blk_one {T : Tr AV} {base i : Nat} {o : Oper} (hc : clsOf o = 1) : blkOf T base i o = some (base + i) := by
  unfold blkOf
  have h1 : Nat.beq (clsOf o) 1 = true := by simp [Tr.nbeq, hc]
  unfold clsOf at hc
  split
  · rename_i ho; simp [ho] at hc
  · rename_i ho; simp [ho] at hc
  · rw [h1]; rfl
omit [Env] in
theorem blk_two {T : Tr AV} {base i b : Nat} {o : Oper} (hc : clsOf o = 2) (hb : blkOf T base i o = some b) : ∃ x, x ∈ o.op.operands ∧ ((∃ off, ev T x = some (.ptr b off)) ∨ (∃ off n, ev T x = some (.sl b off n))) := by
  unfold blkOf at hb
  have h1 : Nat.beq (clsOf o) 1 = false := by simp [Tr.nbeq, hc]
  split at hb
  · rename_i t x ho
    split at hb
    · rename_i b' off e; cases hb; exact ⟨x, by simp [ho, Op.operands], .inl ⟨off, e⟩⟩
    · cases hb
  · rename_i t x l h m ho
    split at hb
    · rename_i b' off n e; cases hb; exact ⟨x, by simp [ho, Op.operands], .inr ⟨off, n, e⟩⟩
    · cases hb
  · rw [h1] at hb; cases hb
omit [Env] in
theorem blk_there {T : Tr AV} {base i b id : Nat} {o : Oper} {H H' : Heap} {v : AV} (hc : clsOf o = 2) (hb : blkOf T base i o = some b) (h : evOp C call H id T o = some (v, H')) : H.get b ≠ none := by
  have h1 : Nat.beq (clsOf o) 1 = false := by simp [Tr.nbeq, hc]
  unfold blkOf at hb
  unfold evOp at h
  split at hb
  · rename_i t x ho
    simp only [ho] at h
    split at hb
    · rename_i b' off e
      cases hb
      simp only [e] at h
      obtain ⟨h, _⟩ := same_eq h
      intro hn
      simp only [evLoad, hn] at h
      split at h
      · rename_i e1 e2; cases e2
      · cases h
    · cases hb
  · rename_i t x lo hi m ho
    split at hb
    · rename_i b' off n e
      cases hb
      cases m with
      | some m => simp [ho] at h
      | none =>
        simp only [ho, e] at h
        split at h
        · rename_i u1 u2 u3 e1 e2 e3
          cases e1
          obtain ⟨h, _⟩ := same_eq h
          intro hn
          unfold sliceA at h
          cases hct : C.ty t with
          | none => rw [hct] at h; simp at h
          | some i0 =>
            simp only [hct, hn] at h
            split at h
            · split at h
              · split at h
                · rename_i e4; cases e4
                · cases h
              · cases h
            · cases h
        · cases h
    · cases hb
  · rw [h1] at hb; cases hb

include hC hcall hheap ch
theorem Inv.run {ls : Array Bool} {a : Act} {w : World} {ι : Map} {q i : Nat} (inv : Inv ops base ord S ι0 H0 w0 ls a w ι q) (hi : i < ops.size) (hun : ¬ Li ls i)
    (hr : ∀ o, ops[i]? = some o → ∀ e ∈ o.after, Region.binds .any e = true → Li ls e.on) {K : Act → World → Prop}
    (hK : ∀ a' w' ι' q', Inv ops base ord S ι0 H0 w0 (ls.setIfInBounds i true) a' w' ι' q' → K a' w') : wpOp P ops Q i K a w := by
  obtain ⟨hpi, hpl⟩ := ch.at hi
  obtain ⟨o, v, H', one⟩ := ch.one _ i hpi
  have hcl : clsAt ops i = clsOf o := by simp [clsAt, one.op]
  have hwr := inv.st.wr
  have hbase := ch.nextle hheap inv.q1
  have hid := inv.un i hi hun
  -- what the operation looks at is what the chosen order has there
  have hT : ∀ t, t ∈ o.looksAt ops → ∀ x, (S (posOf ord i)).T.get t = some x → ∃ u, a.tmps[t]? = some u ∧ VR ι x u := by
    intro t ht x hx
    refine inv.tm t _ x (by omega) (fun r j hrj hd => ?_) hx
    by_cases hne : j = i
    · subst hne
      have := ch.static.pos r j hrj
      constructor
      · intro h; exact (hun h).elim
      · intro h; omega
    · have hj := ch.static.lt r j hrj
      have hpj := ch.static.pos r j hrj
      obtain ⟨y, hy⟩ : ∃ y, ops[j]? = some y := ⟨ops[j], by simp [hj]⟩
      have hd' : y.dst = some t := by simpa [dstAt, hy] using hd
      rcases ch.static.tmp j i y o hne hy one.op t hd' (.inl ht) with hb | hb
      · have := ch.static.befpos hb
        constructor
        · intro h; exact (hun (inv.cl.bef hb h)).elim
        · intro h; omega
      · have := ch.static.befpos hb
        exact ⟨fun _ => by omega, fun _ => inv.cl.ready hr hb⟩
  have hev : ∀ x, x ∈ o.op.operands → ∀ u, ev (S (posOf ord i)).T x = some u → VR ι u (a.eval x) := by
    intro x hx u hu
    cases x with
    | tmp t =>
      obtain ⟨z, hz, r⟩ := hT t (List.mem_append_left _ (List.mem_filterMap.2 ⟨.tmp t, by simpa using hx, rfl⟩)) u hu
      simpa [Act.eval, hz] using r
    | const c => exact ofValue_sound hu ι
    | global g => cases hu
    | func f => cases hu; simp only [VR, Act.eval]; exact ⟨[], [], VRs_nil, VRs_nil, rfl⟩
  -- an operation that writes stands at q
  have hE : clsAt ops i = 3 → posOf ord i = q := by
    intro h3
    have h1 : ¬ posOf ord i < q := fun h => hun ((inv.q3 _ i hpi h3).2 h)
    rcases inv.q2 with h | ⟨j, hj, hj3⟩
    · omega
    · by_cases hne : i = j
      · subst hne; exact ch.static.pos q i hj
      · have hjl := ch.static.lt q j hj
        have hpj := ch.static.pos q j hj
        obtain ⟨y, hy⟩ : ∃ y, ops[j]? = some y := ⟨ops[j], by simp [hjl]⟩
        have hy3 : clsOf y = 3 := by simpa [clsAt, hy] using hj3
        rcases ch.static.eff i j o y hne one.op hy (by rw [← hcl]; exact h3) hy3 with hb | hb
        · have := (inv.q3 q j hj hj3).1 (inv.cl.ready hr hb); omega
        · have := ch.static.befpos hb; omega
  have advance : ∀ (ids : Nat → Prop) (r q' : Nat) (ι1 : Map) (w1 : World), WR ι1 (S r).H w1 → r ≤ q' → q' ≤ ops.size → (∀ (x j : Nat), r ≤ x → x < q' → ord[x]? = some j → clsAt ops j ≠ 3) → Step ids ι1 (S r).H w1 ι1 (S q').H w1 := by
    intro ids r q' ι1 w1 h1 h2 h3 h4
    obtain ⟨k1, k2, _⟩ := ch.plain hheap h2 h3 h4
    refine Step.heap h1 (fun b hb => ?_) (by rw [k1]; exact Nat.le_refl _) k2
    cases e : ι1 b with
    | none => exact (hb e).elim
    | some l =>
      exact ch.same hheap h2 h3 (h1.vis b l e) (fun x j x1 x2 hx => by rw [ch.wrnil hx (h4 x j x1 x2 hx)]; simp)
  -- no block that the operation has looked at, or made, is written in between
  have quiet : ∀ b r j, (F (posOf ord i)).blk = some b → ord[r]? = some j → ((r < q ∧ posOf ord i < r) ∨ (r < q ∧ posOf ord i ≤ r) ∨ (q ≤ r ∧ r < posOf ord i)) → b ∉ (F r).wr := by
    intro b r j hb hrj hcase hmem
    have hj3 : clsAt ops j = 3 := by
      by_cases h : clsAt ops j = 3
      · exact h
      · rw [ch.wrnil hrj h] at hmem; simp at hmem
    have hpj := ch.static.pos r j hrj
    rcases ch.dyn _ i r j b hpi hrj hb hmem with h | h | h
    · subst h
      obtain ⟨o2, v2, H2, one2⟩ := ch.one _ i hpi
      have hne : (F (posOf ord i)).blk = none := by
        have h3 : clsOf o = 3 := by rw [← hcl]; exact hj3
        have ho : one2 = one2 := rfl
        rcases one.how with ⟨_, _, _, hf⟩ | ⟨_, _, hf⟩
        · rw [hf]
        · rw [hf]
          unfold blkOf
          unfold clsOf at h3
          split
          · rename_i ho; simp [ho] at h3
          · rename_i ho; simp [ho] at h3
          · have : Nat.beq (clsOf o) 1 = false := by rw [← hcl, hj3]; rfl
            rw [this]; rfl
      rw [hne] at hb; cases hb
    · have := ch.static.befpos h
      have hl := inv.cl.ready hr h
      have := (inv.q3 r j hrj hj3).1 hl
      omega
    · have := ch.static.befpos h
      rcases hcase with hc | hc | hc
      · exact hun (inv.cl.bef h ((inv.q3 r j hrj hj3).2 hc.1))
      · exact hun (inv.cl.bef h ((inv.q3 r j hrj hj3).2 hc.1))
      · omega
  unfold wpOp
  simp only [one.op]
  rcases one.how with ⟨hw, hv, hH, hf⟩ | ⟨hw, hevo, hf⟩
  · -- not wanted
    rw [wanted_sound' hT hw]
    simp only [Bool.false_eq_true, if_false]
    have hvu : ∀ ι1 : Map, VR ι1 v undef := fun ι1 => by rw [hv]; simp only [VR, undefA, undef]; exact ⟨[], VRs_nil, rfl⟩
    by_cases h3 : clsAt ops i = 3
    · have hpq := hE h3
      obtain ⟨q', n1, n2, n3, n4⟩ := next_eff ops ord ch.static.len (ops.size - (q + 1)) (q + 1) (by omega)
      have hs1 : Step (· = base + i) ι (S q).H w ι (S (q + 1)).H w := by
        rw [hpq] at one
        refine Step.heap hwr (fun b _ => by rw [one.get, hH, hpq]) (by rw [one.next, hH, hpq]; exact Nat.le_refl _) (fun b hb => by rw [one.get, hH, hpq]; exact hb)
      have hs2 := advance (· = base + i) (q + 1) q' ι w hs1.wr n1 n2 n4
      exact hK _ _ _ _ (inv.step ch hheap hi hun hr one (hs1.trans (fun _ h => h) (fun _ h => h) hs2) (hvu ι) (.inr ⟨h3, hpq, by omega, n2, n3, n4⟩))
    · exact hK _ _ _ _ (inv.step ch hheap hi hun hr one (Step.refl hwr) (hvu ι) (.inl ⟨h3, rfl⟩))
  · rw [wanted_sound' hT hw]
    simp only [if_true]
    refine .inl ?_
    have hc : clsOf o = 0 ∨ clsOf o = 1 ∨ clsOf o = 2 ∨ clsOf o = 3 := by
      have : clsOf o ≤ 3 := by unfold clsOf; split <;> omega
      omega
    rcases hc with hc | hc | hc | hc
    · obtain ⟨_, h2⟩ := loc0 hc hevo
      refine evOp_sound' hC hcall hwr hev hid (by omega) (h2 (S q).H (base + i)) fun ι' v' w' hs hv => ?_
      exact hK _ _ _ _ (inv.step ch hheap hi hun hr one hs hv (.inl ⟨by rw [hcl, hc]; simp, rfl⟩))
    · obtain ⟨ob, ha, hloc⟩ := loc1 hc hevo
      obtain ⟨hnone, rfl⟩ := Heap.add_eq ha
      have hblk : (F (posOf ord i)).blk = some (base + i) := by rw [hf]; exact blk_one hc
      have hpq : posOf ord i < q := by
        rcases inv.q2 with h | ⟨j, hj, hj3⟩
        · omega
        · have hjl := ch.static.lt q j hj
          have hpj := ch.static.pos q j hj
          obtain ⟨y, hy⟩ : ∃ y, ops[j]? = some y := ⟨ops[j], by simp [hjl]⟩
          have hy3 : clsOf y = 3 := by simpa [clsAt, hy] using hj3
          have hne : i ≠ j := fun e => by subst e; rw [hcl, hc] at hj3; cases hj3
          rcases ch.static.new i j o y hne one.op hy hc hy3 with hb | hb | hb
          · have := (inv.q3 q j hj hj3).1 (inv.cl.ready hr hb); omega
          · have := ch.static.befpos hb; omega
          · omega
      have hqget : (S q).H.get (base + i) = some ob := by
        have h1 : (S (posOf ord i + 1)).H.get (base + i) = some ob := by rw [one.get, Heap.get_put, if_pos rfl]
        rw [ch.same hheap (show posOf ord i + 1 ≤ q by omega) inv.q1 (by rw [h1]; simp) (fun r j r1 r2 hrj => quiet _ r j hblk hrj (.inl ⟨r2, by omega⟩)), h1]
      let Hx : Heap := { (S q).H with tr := (S q).H.tr.setO (base + i) none }
      have hxget : ∀ b, Hx.get b = if b = base + i then none else (S q).H.get b := fun b => Tr.get_setO _ _ _ _
      have hxdom : ∀ b, ι b ≠ none → Hx.get b = (S q).H.get b := fun b hb => by
        rw [hxget, if_neg (fun e => hb (by rw [e]; exact hid))]
      have hxadd : Hx.add (base + i) ob = some (Hx.put (base + i) ob) := by
        unfold Heap.add; rw [hxget, if_pos rfl]
      have hxeq : HEq2 (Hx.put (base + i) ob) (S q).H := by
        refine ⟨fun b => ?_, rfl⟩
        rw [Heap.get_put]
        by_cases e : b = base + i
        · rw [if_pos e, e, hqget]
        · rw [if_neg e, hxget, if_neg e]
      refine evOp_sound' hC hcall (hwr.heap hxdom (Nat.le_refl _)) hev hid (show base + i < Hx.next by show base + i < (S q).H.next; omega) (hloc Hx _ hxadd) fun ι' v' w' hs hv => ?_
      have hs' := (hs.cast (HEq2.refl _) hxeq).src (K := (S q).H) (fun b hb => (hxdom b hb).symm) rfl (fun b hb => hb)
      exact hK _ _ _ _ (inv.step ch hheap hi hun hr one hs' hv (.inl ⟨by rw [hcl, hc]; simp, rfl⟩))
    · obtain ⟨_, h2⟩ := loc2 (base := base) (i := i) hc hevo
      have hsame : ∀ b, blkOf (S (posOf ord i)).T base i o = some b → (S q).H.get b = (S (posOf ord i)).H.get b := by
        intro b hb
        have hblk : (F (posOf ord i)).blk = some b := by rw [hf]; exact hb
        have hdom : ∃ l, ι b = some l := by
          obtain ⟨x, hx, hxv⟩ := blk_two hc hb
          rcases hxv with ⟨off, e⟩ | ⟨off, n, e⟩
          · have := hev x hx _ e; simp only [VR] at this; obtain ⟨l, hl, _⟩ := this; exact ⟨l, hl⟩
          · have := hev x hx _ e; simp only [VR] at this; obtain ⟨l, _, hl, _⟩ := this; exact ⟨l, hl⟩
        obtain ⟨l, hl⟩ := hdom
        by_cases hpq : posOf ord i ≤ q
        · exact ch.same hheap hpq inv.q1 (blk_there hc hb hevo) (fun r j r1 r2 hrj => quiet b r j hblk hrj (.inr (.inl ⟨r2, r1⟩)))
        · exact (ch.same hheap (show q ≤ posOf ord i by omega) (by omega) (hwr.vis b l hl) (fun r j r1 r2 hrj => quiet b r j hblk hrj (.inr (.inr ⟨r1, r2⟩)))).symm
      refine evOp_sound' hC hcall hwr hev hid (by omega) (h2 (S q).H (base + i) hsame) fun ι' v' w' hs hv => ?_
      exact hK _ _ _ _ (inv.step ch hheap hi hun hr one hs hv (.inl ⟨by rw [hcl, hc]; simp, rfl⟩))
    · have h3 : clsAt ops i = 3 := by rw [hcl, hc]
      have hpq := hE h3
      obtain ⟨q', n1, n2, n3, n4⟩ := next_eff ops ord ch.static.len (ops.size - (q + 1)) (q + 1) (by omega)
      rw [hpq] at hevo hev
      refine evOp_sound' hC hcall hwr hev hid (by omega) hevo fun ι' v' w' hs hv => ?_
      have one' := one
      rw [hpq] at one'
      have hs1 := hs.cast (HEq2.refl _) (⟨one'.get, one'.next⟩ : HEq2 H' (S (q + 1)).H)
      have hs2 := advance (· = base + i) (q + 1) q' ι' w' hs1.wr n1 n2 n4
      exact hK _ _ _ _ (inv.step ch hheap hi hun hr one (hs1.trans (fun _ h => h) (fun _ h => h) hs2) hv (.inr ⟨h3, hpq, by omega, n2, n3, n4⟩))
end
end Go.Ev
