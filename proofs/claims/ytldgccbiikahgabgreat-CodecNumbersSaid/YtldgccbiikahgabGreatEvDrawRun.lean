import Derived.Test.YtldgccbiikahgabGreatEvDrawn
namespace Go.Ev
open Go Go.RowKit
variable [Env]

section
variable {C : Ctx} {P : Program} (hC : C.Ok P) {call : CallA} (hcall : CallSound P call) (hheap : CallHeap call) {ops : Array Oper} {base : Nat} {ord : List Nat} {lo : Option Nat} {S : Nat → St} {F : Nat → Info}
  (ch : Chain C call ops base ord lo S F) {ι0 : Map} {H0 : Heap} {w0 : World} {Q : Exit → Act → World → Prop}

omit [Env] in
theorem Chain.wrnil (ch : Chain C call ops base ord lo S F) {p i : Nat} (hp : ord[p]? = some i) (hc : clsAt ops i ≠ 3) : (F p).wr = [] := by
  obtain ⟨o, v, H', h⟩ := ch.one p i hp
  rcases h.how with ⟨_, _, _, hf⟩ | ⟨_, _, hf⟩
  · rw [hf]
  · rw [hf]
    have : clsOf o ≠ 3 := by simpa [clsAt, h.op] using hc
    simp [Tr.nbeq, this]

omit [Env] in
theorem blk_one {T : Tr AV} {base i : Nat} {o : Oper} (hc : clsOf o = 1) : blkOf T base i o = some (base + i) := by
  unfold blkOf
  have h1 : Nat.beq (clsOf o) 1 = true := by simp [Tr.nbeq, hc]
  unfold clsOf at hc
  split
  · rename_i ho; simp [ho] at hc
  · rename_i ho; simp [ho] at hc
  · rename_i ho; simp [ho] at hc
  · rename_i ho; simp [ho] at hc
  · rename_i ho; simp [ho] at hc
  · rw [h1]; rfl
omit [Env] in
theorem evs_head {T : Tr AV} {xs : List Operand} {v : AV} {vs : List AV} (h : evs T xs = some (v :: vs)) : ∃ x, x ∈ xs ∧ ev T x = some v := by
  cases xs with
  | nil => simp only [evs] at h; cases h
  | cons x xs =>
    simp only [evs] at h
    split at h
    · rename_i u us e1 e2; cases h; exact ⟨x, by simp, e1⟩
    · cases h
omit [Env] in
theorem blk_two {T : Tr AV} {base i b : Nat} {o : Oper} (hc : clsOf o = 2) (hb : blkOf T base i o = some b) : ∃ x, x ∈ o.op.operands ∧ ((∃ off, ev T x = some (.ptr b off)) ∨ (∃ off n, ev T x = some (.sl b off n)) ∨ ev T x = some (.map b)) := by
  unfold blkOf at hb
  have h1 : Nat.beq (clsOf o) 1 = false := by simp [Tr.nbeq, hc]
  split at hb
  · rename_i t x ho
    split at hb
    · rename_i b' off e; cases hb; exact ⟨x, by simp [ho, Op.operands], .inl ⟨off, e⟩⟩
    · cases hb
  · rename_i t x l h m ho
    split at hb
    · rename_i b' off n e; cases hb; exact ⟨x, by simp [ho, Op.operands], .inr (.inl ⟨off, n, e⟩)⟩
    · cases hb
  · rename_i t d x ho
    split at hb
    · rename_i b' off n e; cases hb; exact ⟨x, by simp [ho, Op.operands], .inr (.inl ⟨off, n, e⟩)⟩
    · cases hb
  · rename_i t m k ok ho
    split at hb
    · rename_i b' e; cases hb; exact ⟨m, by simp [ho, Op.operands], .inr (.inr e)⟩
    · cases hb
  · rename_i args tys ho
    split at hb
    · rename_i b' rest e
      cases hb
      obtain ⟨x, hx, hxe⟩ := evs_head e
      exact ⟨x, by simp only [ho, Op.operands, Call.operands]; exact Array.mem_append.2 (.inr (by simpa using hx)), .inr (.inr hxe)⟩
    · cases hb
  · rw [h1] at hb; cases hb
omit [Env] in
theorem blk_there {T : Tr AV} {base i b id : Nat} {o : Oper} {H H' : Heap} {v : AV} (hc : clsOf o = 2) (hb : blkOf T base i o = some b) (h : evOp C call H id T o = some (v, H')) : H.get b ≠ none := by
  have h1 : Nat.beq (clsOf o) 1 = false := by simp [Tr.nbeq, hc]
  unfold blkOf at hb
  unfold evOp at h
  split at hb
  · rename_i t x ho
    simp only [ho] at h
    split at hb
    · rename_i b' off e
      cases hb
      simp only [e] at h
      obtain ⟨h, _⟩ := same_eq h
      intro hn0
      have hn : H.cells b = none := by unfold Heap.cells; rw [hn0]
      simp only [evLoad, hn] at h
      split at h
      · rename_i e1 e2; cases e2
      · cases h
    · cases hb
  · rename_i t x lo hi m ho
    split at hb
    · rename_i b' off n e
      cases hb
      cases m with
      | some m => simp [ho] at h
      | none =>
        simp only [ho, e] at h
        split at h
        · rename_i u1 u2 u3 e1 e2 e3
          cases e1
          obtain ⟨h, _⟩ := same_eq h
          intro hn0
          have hn : H.cells b = none := by unfold Heap.cells; rw [hn0]
          unfold sliceA at h
          cases hct : C.ty t with
          | none => rw [hct] at h; simp at h
          | some i0 =>
            simp only [hct, hn] at h
            split at h
            · split at h
              · split at h
                · rename_i e4; cases e4
                · cases h
              · cases h
            · cases h
        · cases h
    · cases hb
  · rename_i t d x ho
    simp only [ho] at h
    split at hb
    · rename_i b' off n e
      cases hb
      simp only [e] at h
      obtain ⟨h, _⟩ := same_eq h
      intro hn0
      have hn : H.cells b = none := by unfold Heap.cells; rw [hn0]
      unfold convertHA at h
      split at h
      · rename_i e2
        cases h
        unfold convertA at e2
        split at e2
        · split at e2 <;> first | (rename_i e3; cases e3) | cases e2
        · cases e2
      · unfold toStringA at h
        split at h
        · split at h
          · split at h
            · split at h
              · rename_i e3; cases e3
              · rename_i e3
                cases e3
                rw [hn] at h; cases h
              · cases h
            · cases h
          · cases h
        · cases h
    · cases hb
  · rename_i t m k ok ho
    simp only [ho] at h
    split at hb
    · rename_i b' e
      cases hb
      simp only [e] at h
      split at h
      · rename_i u1 u2 e1 e2
        cases e1
        obtain ⟨h, _⟩ := same_eq h
        intro hn0
        have hn : H.entries b = none := by unfold Heap.entries; rw [hn0]
        unfold lookupA at h
        split at h
        · split at h
          · split at h
            · obtain ⟨_, h⟩ := bound_of_cond h
              simp only [hn] at h; cases h
            · cases h
          · cases h
        · cases h
      · cases h
    · cases hb
  · rename_i args tys ho
    simp only [ho] at h
    split at hb
    · rename_i b' rest e
      cases hb
      unfold callA at h
      simp only [e] at h
      split at h
      · rename_i t x r2 e1 e2
        cases e2
        split at h
        · rename_i i e3
          obtain ⟨h, _⟩ := same_eq h
          intro hn0
          have hn : H.entries b = none := by unfold Heap.entries; rw [hn0]
          simp only [lenHA] at h
          unfold lenMapA at h
          split at h
          · rename_i e5; cases e5; rw [hn] at h; cases h
          · cases h
        · cases h
      · cases h
    · cases hb
  · rw [h1] at hb; cases hb

include hC hcall hheap ch
theorem Inv.run {ls : Array Bool} {a : Act} {w : World} {ι : Map} {q i : Nat} {fl : Bool} {Kh : Heap} (inv : Inv C call ops base ord lo S F ι0 H0 w0 ls a w ι q fl Kh) (hi : i < ops.size) (hun : ¬ Li ls i)
    (hr : ∀ o, ops[i]? = some o → ∀ e ∈ o.after, Region.binds .any e = true → Li ls e.on) {K : Act → World → Prop}
    (hK : ∀ a' w' ι' q' fl' K', Inv C call ops base ord lo S F ι0 H0 w0 (ls.setIfInBounds i true) a' w' ι' q' fl' K' → K a' w') : wpOp P ops Q i K a w := by
  obtain ⟨hpi, hpl⟩ := ch.at hi
  obtain ⟨o, v, H', one⟩ := ch.one _ i hpi
  have hcl : clsAt ops i = clsOf o := by simp [clsAt, one.op]
  have hwr := inv.st.wr
  have hbase := inv.next ch hheap
  have hid := inv.un i hi hun
  -- what the operation looks at is what the chosen order has there
  have hT : ∀ t, t ∈ o.looksAt ops → ∀ x, (S (posOf ord i)).T.get t = some x → ∃ u, a.tmps[t]? = some u ∧ VR ι x u := by
    intro t ht x hx
    refine inv.tm t _ x (by omega) (fun r j hrj hd => ?_) hx
    by_cases hne : j = i
    · subst hne
      have := ch.static.pos r j hrj
      constructor
      · intro h; exact (hun h).elim
      · intro h; omega
    · have hj := ch.static.lt r j hrj
      have hpj := ch.static.pos r j hrj
      obtain ⟨y, hy⟩ : ∃ y, ops[j]? = some y := ⟨ops[j], by simp [hj]⟩
      have hd' : y.dst = some t := by simpa [dstAt, hy] using hd
      rcases ch.static.tmp j i y o hne hy one.op t hd' (.inl ht) with hb | hb
      · have := ch.static.befpos hb
        constructor
        · intro h; exact (hun (inv.cl.bef hb h)).elim
        · intro h; omega
      · have := ch.static.befpos hb
        exact ⟨fun _ => by omega, fun _ => inv.cl.ready hr hb⟩
  have hev : ∀ x, x ∈ o.op.operands → ∀ u, ev (S (posOf ord i)).T x = some u → VR ι u (a.eval x) := by
    intro x hx u hu
    cases x with
    | tmp t =>
      obtain ⟨z, hz, r⟩ := hT t (List.mem_append_left _ (List.mem_filterMap.2 ⟨.tmp t, by simpa using hx, rfl⟩)) u hu
      simpa [Act.eval, hz] using r
    | const c => exact ofValue_sound hu ι
    | global g => cases hu
    | func f => cases hu; simp only [VR, Act.eval]; exact ⟨[], [], VRs_nil, VRs_nil, rfl⟩
  -- an operation that writes stands at q, or is the second of two loose ones
  have hE : clsAt ops i = 3 → posOf ord i = q ∨ (fl = false ∧ lo = some q ∧ posOf ord i = q + 1) := by
    intro h3
    have h1 : ¬ (posOf ord i < q ∨ (fl = true ∧ posOf ord i = q + 1)) := fun h => hun ((inv.q3 _ i hpi h3).2 h)
    rcases inv.q2 with h | ⟨j, hj, hj3⟩
    · omega
    · by_cases hne : i = j
      · subst hne; exact .inl (ch.static.pos q i hj)
      · have hjl := ch.static.lt q j hj
        have hpj := ch.static.pos q j hj
        obtain ⟨y, hy⟩ : ∃ y, ops[j]? = some y := ⟨ops[j], by simp [hjl]⟩
        have hy3 : clsOf y = 3 := by simpa [clsAt, hy] using hj3
        rcases ch.static.eff i j o y hne one.op hy (by rw [← hcl]; exact h3) hy3 with hb | hb | ⟨p, hlo, hb | hb⟩
        · have := (inv.q3 q j hj hj3).1 (inv.cl.ready hr hb)
          rcases this with h | ⟨_, h⟩ <;> omega
        · have := ch.static.befpos hb; omega
        · omega
        · have hpq : p = q := by omega
          subst hpq
          refine .inr ⟨?_, hlo, by omega⟩
          cases hf : fl with
          | false => rfl
          | true => exact (h1 (.inr ⟨hf, by omega⟩)).elim
  have advance : ∀ (ids : Nat → Prop) (r q' : Nat) (ι1 : Map) (w1 : World), WR ι1 (S r).H w1 → r ≤ q' → q' ≤ ops.size → (∀ (x j : Nat), r ≤ x → x < q' → ord[x]? = some j → clsAt ops j ≠ 3) → Step ids ι1 (S r).H w1 ι1 (S q').H w1 := by
    intro ids r q' ι1 w1 h1 h2 h3 h4
    obtain ⟨k1, k2, _⟩ := ch.plain hheap h2 h3 h4
    refine Step.heap h1 (fun b hb => ?_) (by rw [k1]; exact Nat.le_refl _) k2
    cases e : ι1 b with
    | none => exact (hb e).elim
    | some l =>
      exact ch.same hheap h2 h3 (h1.vis b l e) (fun x j x1 x2 hx => by rw [ch.wrnil hx (h4 x j x1 x2 hx)]; simp)
  -- an operation that is not listed and looks at a block, or makes it, is ordered with whatever writes it
  have writers : ∀ b r j, (F (posOf ord i)).blk = some b → ord[r]? = some j → b ∈ (F r).wr →
      ((r < q ∨ (fl = true ∧ r = q + 1)) ∧ r < posOf ord i) ∨ (¬ (r < q ∨ (fl = true ∧ r = q + 1)) ∧ posOf ord i < r) := by
    intro b r j hb hrj hmem
    have hj3 : clsAt ops j = 3 := by
      by_cases h : clsAt ops j = 3
      · exact h
      · rw [ch.wrnil hrj h] at hmem; simp at hmem
    have hpj := ch.static.pos r j hrj
    rcases ch.dyn _ i r j b hpi hrj hb hmem with h | h | h
    · subst h
      have hne : (F (posOf ord i)).blk = none := by
        have h3 : clsOf o = 3 := by rw [← hcl]; exact hj3
        rcases one.how with ⟨_, _, _, hf⟩ | ⟨_, _, hf⟩
        · rw [hf]
        · rw [hf]
          simp only
          unfold blkOf
          unfold clsOf at h3
          split
          · rename_i ho; simp [ho] at h3
          · rename_i ho; simp [ho] at h3
          · rename_i ho; simp [ho] at h3
          · rename_i ho; simp [ho] at h3
          · rename_i ho; simp [ho] at h3
          · have : Nat.beq (clsOf o) 1 = false := by rw [← hcl, hj3]; rfl
            rw [this]; rfl
      rw [hne] at hb; cases hb
    · have := ch.static.befpos h
      exact .inl ⟨(inv.q3 r j hrj hj3).1 (inv.cl.ready hr h), by omega⟩
    · have := ch.static.befpos h
      exact .inr ⟨fun hc => hun (inv.cl.bef h ((inv.q3 r j hrj hj3).2 hc)), by omega⟩
  have kget : ∀ b, (fl = false ∨ b ∉ (F (q + 1)).wr) → Kh.get b = (S q).H.get b := by
    intro b hb
    rcases inv.kk with ⟨_, rfl⟩ | ⟨hf, _, x, y, _, _, m⟩
    · rfl
    · rcases hb with h | h
      · rw [hf] at h; cases h
      · exact m.get b h
  have knext : Kh.next = (S q).H.next := by
    rcases inv.kk with ⟨_, rfl⟩ | ⟨hf, _, x, y, _, _, m⟩
    · rfl
    · exact m.next
  have kkeep : ∀ b, (S q).H.get b ≠ none → Kh.get b ≠ none := by
    rcases inv.kk with ⟨_, rfl⟩ | ⟨hf, _, x, y, _, _, m⟩
    · exact fun _ h => h
    · exact m.keep
  have plainNext : clsAt ops i ≠ 3 → ∀ (p j : Nat), ord[p]? = some j → clsAt ops j = 3 → ((j = i ∨ Li ls j) ↔ (p < q ∨ (fl = true ∧ p = q + 1))) := fun hne p j hp hc => by
    rw [← inv.q3 p j hp hc]
    exact ⟨fun h => h.elim (fun e => by subst e; exact (hne hc).elim) id, .inr⟩
  have effNext : ∀ q', clsAt ops i = 3 → posOf ord i = q → fl = false → q + 1 ≤ q' → (∀ (r j : Nat), q + 1 ≤ r → r < q' → ord[r]? = some j → clsAt ops j ≠ 3) →
      ∀ (p j : Nat), ord[p]? = some j → clsAt ops j = 3 → ((j = i ∨ Li ls j) ↔ (p < q' ∨ (false = true ∧ p = q' + 1))) := fun q' h3 hpq hf hle hno p j hp hc => by
    have hpj := ch.static.pos p j hp
    rw [inv.q3 p j hp hc, hf]
    constructor
    · rintro (rfl | h | ⟨h, _⟩)
      · exact .inl (by omega)
      · exact .inl (by omega)
      · cases h
    · rintro (h | ⟨h, _⟩)
      · by_cases e : p < q
        · exact .inr (.inl e)
        · by_cases e2 : p = q
          · left
            have h1 : ord[p]? = some i := by rw [e2, ← hpq]; exact hpi
            rw [hp] at h1; cases h1; rfl
          · exact (hno p j (by omega) h hp hc).elim
      · cases h
  unfold wpOp
  simp only [one.op]
  have loose : ∀ p, lo = some p → (posOf ord i = p ∨ posOf ord i = p + 1) → wantedA ops (S (posOf ord i)).T o = some true := by
    intro p hlo hp
    obtain ⟨o2, t, x, u, h1, h2, h3, h4⟩ := ((ch.static.loose p hlo).2 _ i hpi).1 hp
    have : o2 = o := by have := one.op; rw [h1] at this; cases this; rfl
    subst this
    unfold wantedA; rw [h3]
  rcases one.how with ⟨hw, hv, hH, hf⟩ | ⟨hw, hevo, hf⟩
  · -- not wanted
    rw [wanted_sound' hT hw]
    simp only [Bool.false_eq_true, if_false]
    have hvu : ∀ ι1 : Map, VR ι1 v undef := fun ι1 => by rw [hv]; simp only [VR, undefA, undef]; exact ⟨[], VRs_nil, rfl⟩
    by_cases h3 : clsAt ops i = 3
    · rcases inv.kk with ⟨hfl, hKh⟩ | ⟨_, hlo, _⟩
      · rcases hE h3 with hpq | ⟨_, hlo, hpq⟩
        · obtain ⟨q', n1, n2, n3, n4⟩ := next_eff ops ord ch.static.len (ops.size - (q + 1)) (q + 1) (by omega)
          have hwr' : WR ι (S q).H w := by rw [← hKh]; exact hwr
          have hs1 : Step (· = base + i) ι (S q).H w ι (S (q + 1)).H w := by
            rw [hpq] at one
            refine Step.heap hwr' (fun b _ => by rw [one.get, hH, hpq]) (by rw [one.next, hH, hpq]; exact Nat.le_refl _) (fun b hb => by rw [one.get, hH, hpq]; exact hb)
          have hs2 := advance (· = base + i) (q + 1) q' ι w hs1.wr n1 n2 n4
          have hs3 := hs1.trans (ids := (· = base + i)) (fun _ h => h) (fun _ h => h) hs2
          rw [← hKh] at hs3
          exact hK _ _ _ _ false _ (inv.step ch hheap hi hun hr one hs3 (hvu ι) n2 n3 (effNext q' h3 hpq hfl n1 n4) (.inl ⟨rfl, rfl⟩))
        · rw [loose q hlo (.inr hpq)] at hw; cases hw
      · rcases hE h3 with hpq | ⟨_, hlo, hpq⟩
        · rw [loose q hlo (.inl hpq)] at hw; cases hw
        · rw [loose q hlo (.inr hpq)] at hw; cases hw
    · exact hK _ _ _ _ _ _ (inv.step ch hheap hi hun hr one (Step.refl hwr) (hvu ι) inv.q1 inv.q2 (plainNext h3) inv.kk)
  · rw [wanted_sound' hT hw]
    simp only [if_true]
    refine .inl ?_
    have hc : clsOf o = 0 ∨ clsOf o = 1 ∨ clsOf o = 2 ∨ clsOf o = 3 := by
      have : clsOf o ≤ 3 := by unfold clsOf; split <;> omega
      omega
    rcases hc with hc | hc | hc | hc
    · obtain ⟨_, h2⟩ := loc0 hc hevo
      refine evOp_sound' hC hcall hwr hev hid (by omega) (h2 Kh (base + i)) fun ι' v' w' hs hv => ?_
      have hne : clsAt ops i ≠ 3 := by rw [hcl, hc]; simp
      exact hK _ _ _ _ _ _ (inv.step ch hheap hi hun hr one hs hv inv.q1 inv.q2 (plainNext hne) inv.kk)
    · obtain ⟨ob, ha, hloc⟩ := loc1 hc hevo
      obtain ⟨hnone, rfl⟩ := Heap.add_eq ha
      have hne : clsAt ops i ≠ 3 := by rw [hcl, hc]; simp
      have hblk : (F (posOf ord i)).blk = some (base + i) := by rw [hf]; exact blk_one hc
      have hpq : posOf ord i < q := by
        rcases inv.q2 with h | ⟨j, hj, hj3⟩
        · omega
        · have hjl := ch.static.lt q j hj
          have hpj := ch.static.pos q j hj
          obtain ⟨y, hy⟩ : ∃ y, ops[j]? = some y := ⟨ops[j], by simp [hjl]⟩
          have hy3 : clsOf y = 3 := by simpa [clsAt, hy] using hj3
          have hnij : i ≠ j := fun e => by subst e; exact hne hj3
          rcases ch.static.new i j o y hnij one.op hy hc hy3 with hb | hb | hb
          · have := (inv.q3 q j hj hj3).1 (inv.cl.ready hr hb)
            rcases this with h | ⟨_, h⟩ <;> omega
          · have := ch.static.befpos hb; omega
          · omega
      have hqget : (S q).H.get (base + i) = some ob := by
        have h1 : (S (posOf ord i + 1)).H.get (base + i) = some ob := by rw [one.get, Heap.get_put, if_pos rfl]
        rw [ch.same hheap (show posOf ord i + 1 ≤ q by omega) inv.q1 (by rw [h1]; simp) (fun r j r1 r2 hrj hm => by rcases writers _ r j hblk hrj hm with ⟨_, h⟩ | ⟨h, _⟩ <;> omega), h1]
      have hkget : Kh.get (base + i) = some ob := by
        rw [kget, hqget]
        by_cases hfl : fl = false
        · exact .inl hfl
        · refine .inr fun hm => ?_
          rcases inv.kk with ⟨h, _⟩ | ⟨hflt, _, x, y, _, hy, _⟩
          · exact hfl h
          · rcases writers _ (q + 1) y hblk hy hm with ⟨_, h⟩ | ⟨h, _⟩
            · omega
            · exact h (.inr ⟨hflt, rfl⟩)
      have hbn := inv.next ch hheap
      let Hx : Heap := { Kh with tr := Kh.tr.setO (base + i) none }
      have hxget : ∀ b, Hx.get b = if b = base + i then none else Kh.get b := fun b => Tr.get_setO _ _ _ _
      have hxdom : ∀ b, ι b ≠ none → Hx.get b = Kh.get b := fun b hb => by
        rw [hxget, if_neg (fun e => hb (by rw [e]; exact hid))]
      have hxadd : Hx.add (base + i) ob = some (Hx.put (base + i) ob) := by
        unfold Heap.add; rw [hxget, if_pos rfl]
      have hxeq : HEq2 (Hx.put (base + i) ob) Kh := by
        refine ⟨fun b => ?_, rfl⟩
        rw [Heap.get_put]
        by_cases e : b = base + i
        · rw [if_pos e, e, hkget]
        · rw [if_neg e, hxget, if_neg e]
      refine evOp_sound' hC hcall (hwr.heap hxdom (Nat.le_refl _)) hev hid (show base + i < Hx.next by show base + i < Kh.next; omega) (hloc Hx _ hxadd) fun ι' v' w' hs hv => ?_
      have hs' := (hs.cast (HEq2.refl _) hxeq).src (K := Kh) (fun b hb => (hxdom b hb).symm) rfl (fun b hb => hb)
      exact hK _ _ _ _ _ _ (inv.step ch hheap hi hun hr one hs' hv inv.q1 inv.q2 (plainNext hne) inv.kk)
    · obtain ⟨_, h2⟩ := loc2 (base := base) (i := i) hc hevo
      have hne : clsAt ops i ≠ 3 := by rw [hcl, hc]; simp
      have hsame : ∀ b, blkOf (S (posOf ord i)).T base i o = some b → Kh.get b = (S (posOf ord i)).H.get b := by
        intro b hb
        have hblk : (F (posOf ord i)).blk = some b := by rw [hf]; exact hb
        have hdom : ∃ l, ι b = some l := by
          obtain ⟨x, hx, hxv⟩ := blk_two hc hb
          rcases hxv with ⟨off, e⟩ | ⟨off, n, e⟩ | e
          · have := hev x hx _ e; simp only [VR] at this; obtain ⟨l, hl, _⟩ := this; exact ⟨l, hl⟩
          · have := hev x hx _ e; simp only [VR] at this; obtain ⟨l, _, hl, _⟩ := this; exact ⟨l, hl⟩
          · have := hev x hx _ e; simp only [VR] at this; obtain ⟨l, hl, _⟩ := this; exact ⟨l, hl⟩
        obtain ⟨l, hl⟩ := hdom
        have hvis := hwr.vis b l hl
        have far : (fl = false ∨ b ∉ (F (q + 1)).wr) → Kh.get b = (S (posOf ord i)).H.get b := by
          intro hcase
          have hk := kget b hcase
          have no : ∀ r j, ord[r]? = some j → ((r < q ∧ posOf ord i ≤ r) ∨ (q ≤ r ∧ r < posOf ord i)) → b ∉ (F r).wr := by
            intro r j hrj hb2 hm
            rcases writers b r j hblk hrj hm with ⟨h | ⟨h1, h2⟩, h3⟩ | ⟨h, h3⟩
            · omega
            · rcases hcase with h4 | h4
              · rw [h1] at h4; cases h4
              · rw [h2] at hm; exact h4 hm
            · rcases hb2 with ⟨h4, _⟩ | ⟨_, h4⟩
              · exact h (.inl h4)
              · omega
          rw [hk]
          by_cases hpq : posOf ord i ≤ q
          · exact ch.same hheap hpq inv.q1 (blk_there hc hb hevo) (fun r j r1 r2 hrj => no r j hrj (.inl ⟨r2, r1⟩))
          · exact (ch.same hheap (show q ≤ posOf ord i by omega) (by omega) (by rw [← hk]; exact hvis) (fun r j r1 r2 hrj => no r j hrj (.inr ⟨r1, r2⟩))).symm
        by_cases hcase : fl = false ∨ b ∉ (F (q + 1)).wr
        · exact far hcase
        · have hmem : b ∈ (F (q + 1)).wr := Classical.byContradiction fun h => hcase (.inr h)
          have hfl : ¬ fl = false := fun h => hcase (.inl h)
          rcases inv.kk with ⟨h, _⟩ | ⟨hflt, _, x, y, hx, hy, m⟩
          · exact (hfl h).elim
          · have hgt : q + 1 < posOf ord i := by
              rcases writers b (q + 1) y hblk hy hmem with ⟨_, h⟩ | ⟨h, _⟩
              · exact h
              · exact (h (.inr ⟨hflt, rfl⟩)).elim
            have hnx : b ∉ (F q).wr := fun hm => by
              rcases writers b q x hblk hx hm with ⟨h | ⟨_, h⟩, _⟩ | ⟨_, h⟩ <;> omega
            rw [m.get2 b hnx]
            refine (ch.same hheap (show q + 2 ≤ posOf ord i by omega) (by omega) (by rw [← m.get2 b hnx]; exact hvis) (fun r j r1 r2 hrj hm => ?_)).symm
            rcases writers b r j hblk hrj hm with ⟨h | ⟨_, h⟩, _⟩ | ⟨_, h⟩ <;> omega
      refine evOp_sound' hC hcall hwr hev hid (by omega) (h2 Kh (base + i) hsame) fun ι' v' w' hs hv => ?_
      exact hK _ _ _ _ _ _ (inv.step ch hheap hi hun hr one hs hv inv.q1 inv.q2 (plainNext hne) inv.kk)
    · have h3 : clsAt ops i = 3 := by rw [hcl, hc]
      rcases inv.kk with ⟨hfl, hKh⟩ | ⟨hfl, hlo, x, y, hx, hy, m⟩
      · rcases hE h3 with hpq | ⟨_, hlo, hpq⟩
        · obtain ⟨q', n1, n2, n3, n4⟩ := next_eff ops ord ch.static.len (ops.size - (q + 1)) (q + 1) (by omega)
          rw [hpq, ← hKh] at hevo
          rw [hpq] at hev
          refine evOp_sound' hC hcall hwr hev hid (by omega) hevo fun ι' v' w' hs hv => ?_
          have one' := one
          rw [hpq] at one'
          have hs1 := hs.cast (HEq2.refl _) (⟨one'.get, one'.next⟩ : HEq2 H' (S (q + 1)).H)
          have hs2 := advance (· = base + i) (q + 1) q' ι' w' hs1.wr n1 n2 n4
          exact hK _ _ _ _ false _ (inv.step ch hheap hi hun hr one (hs1.trans (fun _ h => h) (fun _ h => h) hs2) hv n2 n3 (effNext q' h3 hpq hfl n1 n4) (.inl ⟨rfl, rfl⟩))
        · obtain ⟨x, y, K2, hx, hy, m⟩ := ch.mid hlo
          have hiy : i = y := by
            have h1 : ord[q + 1]? = some i := by rw [← hpq]; exact hpi
            rw [hy] at h1; cases h1; rfl
          subst hiy
          obtain ⟨oy, y1, y2, y3, y4, y5⟩ := m.evy
          have : oy = o := by have := one.op; rw [y1] at this; cases this; rfl
          subst this
          rw [hpq] at hev
          rw [← hKh] at y5
          refine evOp_sound' hC hcall hwr hev hid (by omega) y5 fun ι' v' w' hs hv => ?_
          have hv2 : VR ι' v v' := by
            obtain ⟨o2, t, x2, u2, z1, z2, _, _⟩ := ((ch.static.loose q hlo).2 _ i hy).1 (.inr rfl)
            rw [y1] at z1; cases z1
            simp only [evOp, z2] at hevo
            split at hevo
            · split at hevo
              · cases hevo; exact hv
              · cases hevo
            · cases hevo
          refine hK _ _ _ _ true K2 (inv.step ch hheap hi hun hr one hs hv2 inv.q1 inv.q2 ?_ (.inr ⟨rfl, hlo, x, i, hx, hy, m⟩))
          intro p j hp hcj
          have hpj := ch.static.pos p j hp
          rw [inv.q3 p j hp hcj, hfl]
          constructor
          · rintro (rfl | h | ⟨h, _⟩)
            · exact .inr ⟨rfl, by omega⟩
            · exact .inl h
            · cases h
          · rintro (h | ⟨_, h⟩)
            · exact .inr (.inl h)
            · left
              rw [h, hy] at hp; cases hp; rfl
      · rcases hE h3 with hpq | ⟨h, _⟩
        · have hix : i = x := by
            have h1 : ord[q]? = some i := by rw [← hpq]; exact hpi
            rw [hx] at h1; cases h1; rfl
          subst hix
          obtain ⟨ox, M, x1, x2, x3, x4, x5, x6⟩ := m.evx
          have : ox = o := by have := one.op; rw [x1] at this; cases this; rfl
          subst this
          obtain ⟨o2, t, a2, u2, z1, z2, _, _⟩ := ((ch.static.loose q hlo).2 _ i hx).1 (.inl rfl)
          rw [x1] at z1; cases z1
          have hvu : v = undefA := by
            simp only [evOp, z2] at hevo
            split at hevo
            · split at hevo
              · cases hevo; rfl
              · cases hevo
            · cases hevo
          have hlt := (ch.static.loose q hlo).1
          obtain ⟨q', n1, n2, n3, n4⟩ := next_eff ops ord ch.static.len (ops.size - (q + 2)) (q + 2) (by omega)
          rw [hpq] at hev
          refine evOp_sound' hC hcall hwr hev hid (by omega) x5 fun ι' v' w' hs hv => ?_
          have hs1 := hs.cast (HEq2.refl _) x6
          have hs2 := advance (· = base + i) (q + 2) q' ι' w' hs1.wr n1 n2 n4
          refine hK _ _ _ _ false _ (inv.step ch hheap hi hun hr one (hs1.trans (fun _ h => h) (fun _ h => h) hs2) (by rw [hvu]; exact hv) n2 n3 ?_ (.inl ⟨rfl, rfl⟩))
          intro p j hp hcj
          have hpj := ch.static.pos p j hp
          rw [inv.q3 p j hp hcj]
          constructor
          · rintro (rfl | h | ⟨_, h⟩) <;> exact .inl (by omega)
          · rintro (h | ⟨h, _⟩)
            · by_cases e1 : p < q
              · exact .inr (.inl e1)
              · by_cases e2 : p = q
                · left; rw [e2, hx] at hp; cases hp; rfl
                · by_cases e3 : p = q + 1
                  · exact .inr (.inr ⟨hfl, e3⟩)
                  · exact (n4 p j (by omega) h hp hcj).elim
            · cases h
        · rw [hfl] at h; cases h
end
end Go.Ev
