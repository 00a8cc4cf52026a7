import Derived.Test.YtldgccbiikahgabGreatEvCode
namespace Go.Ev
open Go Go.RowKit
variable [Env]

/-! ### the order of a region's operations -/
inductive BefP (ops : Array Oper) : Nat → Nat → Prop where
  | edge {j : Nat} {o : Oper} {e : Edge} : ops[j]? = some o → e ∈ o.after → Region.binds .any e = true → BefP ops j e.on
  | trans {j k i : Nat} : BefP ops j k → BefP ops k i → BefP ops j i

omit [Env] in
theorem mem_binding {o : Oper} {i : Nat} : i ∈ binding o ↔ ∃ e ∈ o.after, Region.binds .any e = true ∧ e.on = i := by
  unfold binding
  simp only [List.mem_map, List.mem_filter, Array.mem_toList_iff]
  constructor
  · rintro ⟨e, ⟨h1, h2⟩, h3⟩; exact ⟨e, h1, h2, h3⟩
  · rintro ⟨e, h1, h2, h3⟩; exact ⟨e, ⟨h1, h2⟩, h3⟩

omit [Env] in
theorem fold_bits (acc : List Nat) : ∀ (bs : List Nat) (m i : Nat), (bs.foldl (fun m j => m ||| (1 <<< j) ||| acc.getD j 0) m).testBit i = true → m.testBit i = true ∨ ∃ b ∈ bs, i = b ∨ (acc.getD b 0).testBit i = true
  | [], m, i, h => .inl h
  | b :: bs, m, i, h => by
    simp only [List.foldl_cons] at h
    rcases fold_bits acc bs _ i h with h | ⟨c, hc, h⟩
    · simp only [Nat.testBit_or, Bool.or_eq_true] at h
      rcases h with (h | h) | h
      · exact .inl h
      · refine .inr ⟨b, by simp, .inl ?_⟩
        rw [Nat.one_shiftLeft, Nat.testBit_two_pow] at h
        simpa using (of_decide_eq_true h).symm
      · exact .inr ⟨b, by simp, .inr h⟩
    · exact .inr ⟨c, by simp [hc], h⟩

omit [Env] in
theorem masksFrom_sound (ops : Array Oper) : ∀ (l : List Oper) (acc : List Nat), (∀ k o, l[k]? = some o → ops[acc.length + k]? = some o) →
    (∀ j i, (acc.getD j 0).testBit i = true → BefP ops j i) → ∀ j i, ((masksFrom l acc).getD j 0).testBit i = true → BefP ops j i
  | [], acc, _, h, j, i, hb => h j i hb
  | o :: l, acc, hl, h, j, i, hb => by
    simp only [masksFrom] at hb
    refine masksFrom_sound ops l _ (fun k o' hk => ?_) ?_ j i hb
    · have := hl (k + 1) o' (by simpa using hk)
      rw [List.length_append, List.length_singleton, show acc.length + 1 + k = acc.length + (k + 1) by omega]; exact this
    · intro j' i' hb'
      rcases Nat.lt_trichotomy j' acc.length with q | q | q
      · rw [List.getD_eq_getElem?_getD, List.getElem?_append_left q, ← List.getD_eq_getElem?_getD] at hb'
        exact h j' i' hb'
      · subst q
        rw [List.getD_eq_getElem?_getD, List.getElem?_append_right (Nat.le_refl _)] at hb'
        simp only [Nat.sub_self, List.getElem?_cons_zero, Option.getD_some] at hb'
        have ho : ops[acc.length]? = some o := hl 0 o rfl
        rcases fold_bits acc _ _ _ hb' with hb' | ⟨b, hm, hb'⟩
        · simp at hb'
        · obtain ⟨e, he, hbd, rfl⟩ := mem_binding.1 hm
          rcases hb' with rfl | hb'
          · exact .edge ho he hbd
          · exact .trans (.edge ho he hbd) (h _ _ hb')
      · rw [List.getD_eq_getElem?_getD, List.getElem?_eq_none (by simp; omega)] at hb'
        simp at hb'
omit [Env] in
theorem bef_sound {ops : Array Oper} {j i : Nat} (h : bef (masks ops) j i = true) : BefP ops j i :=
  masksFrom_sound ops ops.toList [] (fun k o hk => by simpa using hk) (fun j i h => by simp at h) j i h

/-- what is asked of the order and of the operations -/
structure Static (ops : Array Oper) (ord : List Nat) (lo : Option Nat) : Prop where
  len : ord.length = ops.size
  lt : ∀ (p i : Nat), ord[p]? = some i → i < ops.size
  pos : ∀ (p i : Nat), ord[p]? = some i → posOf ord i = p
  ex : ∀ i, i < ops.size → ord[posOf ord i]? = some i
  edge : ∀ (j : Nat) (y : Oper), ops[j]? = some y → ∀ e ∈ y.after, Region.binds .any e = true → e.on < ops.size ∧ posOf ord e.on < posOf ord j
  tmp : ∀ (i j : Nat) (x y : Oper), i ≠ j → ops[i]? = some x → ops[j]? = some y → ∀ t, x.dst = some t → (t ∈ y.looksAt ops ∨ y.dst = some t) → BefP ops i j ∨ BefP ops j i
  eff : ∀ (i j : Nat) (x y : Oper), i ≠ j → ops[i]? = some x → ops[j]? = some y → clsOf x = 3 → clsOf y = 3 → BefP ops i j ∨ BefP ops j i ∨ ∃ p, lo = some p ∧ ((posOf ord i = p ∧ posOf ord j = p + 1) ∨ (posOf ord i = p + 1 ∧ posOf ord j = p))
  loose : ∀ p, lo = some p → p + 1 < ops.size ∧ ∀ (q i : Nat), ord[q]? = some i → (q = p ∨ q = p + 1 → ∃ o t a v, ops[i]? = some o ∧ o.op = .store t a v ∧ o.guard = none ∧ o.dst = none) ∧ (∀ o, ops[i]? = some o → clsOf o = 3 → q ≤ p + 1)
  new : ∀ (i j : Nat) (x y : Oper), i ≠ j → ops[i]? = some x → ops[j]? = some y → clsOf x = 1 → clsOf y = 3 → BefP ops i j ∨ BefP ops j i ∨ posOf ord i < posOf ord j

omit [Env] in
theorem ordered_sound {ops : Array Oper} {i j : Nat} (h : ordered (masks ops) i j = true) : BefP ops i j ∨ BefP ops j i := by
  unfold ordered at h
  simp only [Bool.or_eq_true] at h
  exact h.imp bef_sound bef_sound

omit [Env] in
theorem store_at {ops : Array Oper} {i : Nat} (h : storeAt ops i = true) : ∃ o t a v, ops[i]? = some o ∧ o.op = .store t a v ∧ o.guard = none ∧ o.dst = none := by
  unfold storeAt at h
  split at h
  · rename_i o ho
    simp only [Bool.and_eq_true, Option.isNone_iff_eq_none] at h
    obtain ⟨⟨h1, h2⟩, h3⟩ := h
    split at h1
    · rename_i t a v e; exact ⟨o, t, a, v, ho, e, h2, h3⟩
    · cases h1
  · cases h
omit [Env] in
theorem loose_pair {ord : List Nat} {lo : Option Nat} {i j : Nat} (h : loosePair ord lo i j = true) : ∃ p, lo = some p ∧ ((posOf ord i = p ∧ posOf ord j = p + 1) ∨ (posOf ord i = p + 1 ∧ posOf ord j = p)) := by
  unfold loosePair at h
  split at h
  · rename_i p
    simp only [Bool.or_eq_true, Bool.and_eq_true, Tr.nbeq, decide_eq_true_eq] at h
    exact ⟨p, rfl, h⟩
  · cases h
omit [Env] in
theorem loose_sound {ops : Array Oper} {ord : List Nat} {lo : Option Nat} (h : looseOk ops ord lo = true) : ∀ p, lo = some p → p + 1 < ops.size ∧ ∀ (q i : Nat), ord[q]? = some i → (q = p ∨ q = p + 1 → ∃ o t a v, ops[i]? = some o ∧ o.op = .store t a v ∧ o.guard = none ∧ o.dst = none) ∧ (∀ o, ops[i]? = some o → clsOf o = 3 → q ≤ p + 1) := by
  rintro p rfl
  unfold looseOk at h
  simp only [Bool.and_eq_true, Nat.blt_eq, List.all_eq_true] at h
  refine ⟨h.1, fun q i hq => ?_⟩
  have := h.2 (i, q) (by rw [List.mem_zipIdx_iff_getElem?]; exact hq)
  simp only at this
  by_cases e : q = p ∨ q = p + 1
  · have hc : (Nat.beq q p || Nat.beq q (p + 1)) = true := by simpa [Tr.nbeq] using e
    rw [hc] at this
    exact ⟨fun _ => store_at this, fun o ho _ => by omega⟩
  · have hc : (Nat.beq q p || Nat.beq q (p + 1)) = false := by simp only [Bool.or_eq_false_iff, Tr.nbeq, decide_eq_false_iff_not]; omega
    rw [hc] at this
    refine ⟨fun h => (e h).elim, fun o ho h3 => ?_⟩
    have he : effAt ops i = true := by unfold effAt; rw [ho]; simp [Tr.nbeq, h3]
    rw [he] at this
    have := Nat.le_of_ble_eq_true this
    omega
omit [Env] in
theorem static_sound {ops : Array Oper} {ord : List Nat} {lo : Option Nat} (h : staticOk ops (masks ops) ord lo = true) : Static ops ord lo := by
  unfold staticOk at h
  simp only [Bool.and_eq_true, Tr.nbeq, decide_eq_true_eq, List.all_eq_true, List.mem_range, Nat.blt_eq] at h
  obtain ⟨⟨⟨⟨⟨h0, h1⟩, h2⟩, h3⟩, h4⟩, h5⟩ := h
  have hpos : ∀ (p i : Nat), ord[p]? = some i → posOf ord i = p := fun p i hp => by
    have := h4 (i, p) (by rw [List.mem_zipIdx_iff_getElem?]; exact hp)
    exact this
  have hpair : ∀ (i j : Nat) (x y : Oper), i ≠ j → ops[i]? = some x → ops[j]? = some y → pairOk ops (masks ops) ord lo i j x y = true := fun i j x y hne hx hy => by
    have hj := (Array.getElem?_eq_some_iff.1 hy).1
    have hi := (Array.getElem?_eq_some_iff.1 hx).1
    have := h5 j hj
    rw [hy] at this
    simp only [Bool.and_eq_true, List.all_eq_true, List.mem_range] at this
    have := this.2 i hi
    rw [hx] at this
    simp only [Bool.or_eq_true, Tr.nbeq, decide_eq_true_eq] at this
    exact this.resolve_left hne
  refine ⟨h1, fun p i hp => h3 i (List.mem_of_getElem? hp), hpos, fun i hi => ?_, fun j y hy e he hb => ?_, ?_, ?_, loose_sound h0, ?_⟩
  · have hm : i ∈ ord := by simpa using h2 i hi
    obtain ⟨p, hp⟩ := List.getElem?_of_mem hm
    rw [hpos p i hp]; exact hp
  · have hj := (Array.getElem?_eq_some_iff.1 hy).1
    have := h5 j hj
    rw [hy] at this
    simp only [Bool.and_eq_true, List.all_eq_true] at this
    have := this.1 e.on (mem_binding.2 ⟨e, he, hb, rfl⟩)
    simpa [Nat.blt_eq] using this
  · intro i j x y hne hx hy t ht hl
    have := hpair i j x y hne hx hy
    simp only [pairOk, Bool.and_eq_true] at this
    have := this.1.1
    rw [ht] at this
    have hc : ((y.looksAt ops).contains t || y.dst == some t) = true := by
      rcases hl with hl | hl
      · simp [hl]
      · simp [hl]
    simp only [hc, cond_true] at this
    exact ordered_sound this
  · intro i j x y hne hx hy hcx hcy
    have := hpair i j x y hne hx hy
    simp only [pairOk, Bool.and_eq_true] at this
    have := this.1.2
    rw [hcx, hcy] at this
    simp only [Tr.nbeq, decide_true, Bool.and_self, cond_true, Bool.or_eq_true] at this
    rcases this with h | h
    · exact (ordered_sound h).imp id .inl
    · exact .inr (.inr (loose_pair h))
  · intro i j x y hne hx hy hcx hcy
    have := hpair i j x y hne hx hy
    simp only [pairOk, Bool.and_eq_true] at this
    have := this.2
    rw [hcx, hcy] at this
    simp only [Tr.nbeq, decide_true, Bool.and_self, cond_true, Bool.or_eq_true, Nat.blt_eq] at this
    rcases this with h | h
    · exact (ordered_sound h).imp id .inl
    · exact .inr (.inr h)

/-- is operation j listed -/
def Li (ls : Array Bool) (j : Nat) : Prop := ls.getD j false = true
def Closed (ops : Array Oper) (ls : Array Bool) : Prop := ∀ j o, ops[j]? = some o → Li ls j → ∀ e ∈ o.after, Region.binds .any e = true → Li ls e.on
omit [Env] in
theorem Closed.bef {ops : Array Oper} {ls : Array Bool} (h : Closed ops ls) {j i : Nat} (hb : BefP ops j i) : Li ls j → Li ls i := by
  induction hb with
  | edge ho he hbd => exact fun hj => h _ _ ho hj _ he hbd
  | trans _ _ ih1 ih2 => exact fun hj => ih2 (ih1 hj)
omit [Env] in
theorem Closed.ready {ops : Array Oper} {ls : Array Bool} (h : Closed ops ls) {j i : Nat} (hr : ∀ o, ops[j]? = some o → ∀ e ∈ o.after, Region.binds .any e = true → Li ls e.on) (hb : BefP ops j i) : Li ls i := by
  induction hb with
  | edge ho he hbd => exact hr _ ho _ he hbd
  | trans h1 h2 ih1 _ => exact h.bef h2 (ih1 hr)
omit [Env] in
theorem Static.befpos {ops : Array Oper} {ord : List Nat} {lo : Option Nat} (h : Static ops ord lo) {j i : Nat} (hb : BefP ops j i) : posOf ord i < posOf ord j := by
  induction hb with
  | edge ho he hbd => exact (h.edge _ _ ho _ he hbd).2
  | trans _ _ ih1 ih2 => exact Nat.lt_trans ih2 ih1

/-! ### heaps under one world -/
theorem WR.heap {ι : Map} {H H' : Heap} {w : World} (h : WR ι H w) (hg : ∀ b, ι b ≠ none → H'.get b = H.get b) (hn : H.next ≤ H'.next) : WR ι H' w :=
  ⟨fun b l o hb ho => h.obj b l o hb (by rw [← hg b (by rw [hb]; simp)]; exact ho),
   fun b1 b2 l1 l2 o1 o2 hne e1 e2 g1 g2 => h.apart b1 b2 l1 l2 o1 o2 hne e1 e2 (by rw [← hg b1 (by rw [e1]; simp)]; exact g1) (by rw [← hg b2 (by rw [e2]; simp)]; exact g2),
   fun b hb => h.new b (Nat.le_trans hn hb), fun b l hb => by rw [hg b (by rw [hb]; simp)]; exact h.vis b l hb⟩
theorem Step.heap {ids : Nat → Prop} {ι : Map} {H H' : Heap} {w : World} (h : WR ι H w) (hg : ∀ b, ι b ≠ none → H'.get b = H.get b) (hn : H.next ≤ H'.next) (hk : ∀ b, H.get b ≠ none → H'.get b ≠ none) : Step ids ι H w ι H' w :=
  ⟨Ext.refl _, h.heap hg hn, hn, fun _ h k => (k h).elim, hk, fun b l hb _ => h.vis b l hb, rfl, rfl, rfl, Nat.le_refl _, fun _ _ _ => rfl, fun _ _ h k => by rw [h] at k; cases k⟩
theorem Step.src {ids : Nat → Prop} {ι ι' : Map} {H K H' : Heap} {w w' : World} (h : Step ids ι H w ι' H' w') (hg : ∀ b, ι b ≠ none → K.get b = H.get b) (hn : K.next = H.next) (hk : ∀ b, K.get b ≠ none → H'.get b ≠ none) : Step ids ι K w ι' H' w' :=
  ⟨h.ext, h.wr, by rw [hn]; exact h.next, fun b hb hn' => by rw [hn]; exact h.dom b hb hn', hk, fun b l hb hn' => by rw [hg b (by rw [hb]; simp)]; exact h.junk b l hb hn', h.os, h.tape, h.output, h.size,
   fun c hc hf => h.frame c hc fun b l hb hg' => hf b l hb (by rw [hg b (by rw [hb]; simp)]; exact hg'),
   fun b l hb hl => (h.fresh b l hb hl).imp (fun x => x) fun ⟨b0, l0, e0, g0, q⟩ => ⟨b0, l0, e0, by rw [hg b0 (by rw [e0]; simp)]; exact g0, q⟩⟩

/-! ### one operation in the chosen order -/
structure One (C : Ctx) (call : CallA) (ops : Array Oper) (base i : Nat) (s s' : St) (f : Info) (o : Oper) (v : AV) (H' : Heap) : Prop where
  op : ops[i]? = some o
  how : (wantedA ops s.T o = some false ∧ v = undefA ∧ H' = s.H ∧ f = ⟨none, [], none⟩) ∨
    (wantedA ops s.T o = some true ∧ evOp C call s.H (base + i) s.T o = some (v, H') ∧ f = ⟨blkOf s.T base i o, cond (Nat.beq (clsOf o) 3) H'.log [], stOf s.T o⟩)
  get : ∀ b, s'.H.get b = H'.get b
  next : s'.H.next = H'.next
  log : s.H.log = [] → s'.H.log = []
  tmp : ∀ t, s'.T.get t = if o.dst = some t then some v else s.T.get t
  fits : ∀ t, o.dst = some t → t < s.N
  N : s'.N = s.N

omit [Env] in
theorem put_facts {s s' : St} {dst : Option Tmp} {v : AV} (h : s.put dst v = some s') : s'.H = s.H ∧ s'.N = s.N ∧ (∀ t, s'.T.get t = if dst = some t then some v else s.T.get t) ∧ ∀ t, dst = some t → t < s.N := by
  cases dst with
  | none => simp only [St.put] at h; cases h; exact ⟨rfl, rfl, fun t => by simp, fun t h => by cases h⟩
  | some d =>
    simp only [St.put] at h
    obtain ⟨e, h⟩ := bound_of_cond h
    cases h
    simp only [Nat.blt_eq] at e
    refine ⟨rfl, rfl, fun t => ?_, fun t ht => by cases ht; exact e⟩
    simp only [Tr.get_set]
    by_cases q : t = d
    · subst q; simp
    · rw [if_neg q, if_neg (by simp; exact fun e => q e.symm)]

omit [Env] in
theorem one_of {C : Ctx} {call : CallA} {ops : Array Oper} {base i : Nat} {s s' : St} {f : Info} (h : evOneD C call ops base i s = some (s', f)) : ∃ o v H', One C call ops base i s s' f o v H' := by
  unfold evOneD at h
  split at h
  · cases h
  · rename_i o ho
    split at h
    · cases h
    · rename_i hw
      split at h
      · rename_i s1 e1
        cases h
        obtain ⟨k1, k2, k3, k4⟩ := put_facts e1
        exact ⟨o, undefA, s.H, ho, .inl ⟨hw, rfl, rfl, rfl⟩, fun b => by rw [k1], by rw [k1], fun hl => by rw [k1]; exact hl, k3, k4, k2⟩
      · cases h
    · rename_i hw
      split at h
      · rename_i v H1 e1
        split at h
        · rename_i s1 e2
          cases h
          obtain ⟨k1, k2, k3, k4⟩ := put_facts e2
          exact ⟨o, v, H1, ho, .inr ⟨hw, e1, rfl⟩, fun b => by rw [k1]; rfl, by rw [k1], fun _ => by rw [k1], k3, k4, k2⟩
        · cases h
      · cases h

omit [Env] in
theorem trace_of {C : Ctx} {call : CallA} {ops : Array Oper} {base : Nat} : ∀ (l : List Nat) (s s' : St) (fs : List (Nat × Info)), evOpsD C call ops base l s = some (s', fs) →
    ∃ (S : Nat → St) (F : Nat → Info), S 0 = s ∧ S l.length = s' ∧ ∀ (p i : Nat), l[p]? = some i → evOneD C call ops base i (S p) = some (S (p + 1), F p) ∧ (i, F p) ∈ fs
  | [], s, s', fs, h => by
    simp only [evOpsD] at h; cases h
    exact ⟨fun _ => s, fun _ => ⟨none, [], none⟩, rfl, rfl, fun p i hp => by simp at hp⟩
  | i :: l, s, s', fs, h => by
    simp only [evOpsD] at h
    split at h
    · rename_i s1 f e1
      split at h
      · rename_i s2 fs2 e2
        cases h
        obtain ⟨S, F, h0, h1, h2⟩ := trace_of l s1 _ fs2 e2
        refine ⟨fun p => match p with | 0 => s | p + 1 => S p, fun p => match p with | 0 => f | p + 1 => F p, rfl, h1, fun p j hp => ?_⟩
        cases p with
        | zero => simp at hp; subst hp; exact ⟨by simp only [h0]; exact e1, by simp⟩
        | succ p =>
          simp at hp
          obtain ⟨q1, q2⟩ := h2 p j hp
          exact ⟨q1, by simp; exact .inr q2⟩
      · cases h
    · cases h
end Go.Ev
