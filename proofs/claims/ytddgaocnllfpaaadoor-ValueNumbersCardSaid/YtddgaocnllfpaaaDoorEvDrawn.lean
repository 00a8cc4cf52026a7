import Derived.Test.YtddgaocnllfpaaaDoorEvDraw
namespace Go.Ev
open Go Go.RowKit
variable [Env]

def clsAt (ops : Array Oper) (i : Nat) : Nat := match ops[i]? with | some o => clsOf o | none => 0
def dstAt (ops : Array Oper) (i : Nat) : Option Tmp := match ops[i]? with | some o => o.dst | none => none

/-- all that is known of one run in the chosen order -/
structure Chain (C : Ctx) (call : CallA) (ops : Array Oper) (base : Nat) (ord : List Nat) (S : Nat → St) (F : Nat → Info) : Prop where
  static : Static ops ord
  one : ∀ (p i : Nat), ord[p]? = some i → ∃ o v H', One C call ops base i (S p) (S (p + 1)) (F p) o v H'
  dyn : ∀ (p i q j : Nat) (b : Nat), ord[p]? = some i → ord[q]? = some j → (F p).blk = some b → b ∈ (F q).wr → i = j ∨ BefP ops i j ∨ BefP ops j i
  log0 : (S 0).H.log = []
  next0 : base + ops.size ≤ (S 0).H.next

section
variable {C : Ctx} {call : CallA} {ops : Array Oper} {base : Nat} {ord : List Nat} {S : Nat → St} {F : Nat → Info} (ch : Chain C call ops base ord S F) (hheap : CallHeap call)
include ch

omit [Env] in
theorem Chain.at {i : Nat} (hi : i < ops.size) : ord[posOf ord i]? = some i ∧ posOf ord i < ops.size := by
  have := ch.static.ex i hi
  exact ⟨this, by have := (List.getElem?_eq_some_iff.1 this).1; rw [ch.static.len] at this; exact this⟩
omit [Env] in
theorem Chain.has {p : Nat} (hp : p < ops.size) : ∃ i, ord[p]? = some i ∧ i < ops.size := by
  have h : p < ord.length := by rw [ch.static.len]; exact hp
  exact ⟨ord[p], by simp [h], ch.static.lt p _ (by simp [h])⟩
omit [Env] in
theorem Chain.log {p : Nat} (hp : p ≤ ops.size) : (S p).H.log = [] := by
  induction p with
  | zero => exact ch.log0
  | succ p ih =>
    obtain ⟨i, hi, _⟩ := ch.has (show p < ops.size by omega)
    obtain ⟨o, v, H', h⟩ := ch.one p i hi
    exact h.log (ih (by omega))
include hheap
omit [Env] in
/-- what one operation does to the heap -/
theorem Chain.heap {p i : Nat} (hp : ord[p]? = some i) : (S p).H.next ≤ (S (p + 1)).H.next ∧ (∀ b, (S p).H.get b ≠ none → (S (p + 1)).H.get b ≠ none) ∧
    (∀ b, (S p).H.get b ≠ none → b ∉ (F p).wr → (S (p + 1)).H.get b = (S p).H.get b) ∧
    (clsAt ops i ≠ 3 → (S (p + 1)).H.next = (S p).H.next ∧ ∀ b, b ≠ base + i → (S (p + 1)).H.get b = (S p).H.get b) := by
  obtain ⟨o, v, H', h⟩ := ch.one p i hp
  have hpl : p < ops.size := by have := (List.getElem?_eq_some_iff.1 hp).1; rw [ch.static.len] at this; exact this
  have hlog := ch.log (show p ≤ ops.size by omega)
  have hcl : clsAt ops i = clsOf o := by simp [clsAt, h.op]
  rcases h.how with ⟨_, _, rfl, hf⟩ | ⟨_, hev, hf⟩
  · exact ⟨by rw [h.next]; exact Nat.le_refl _, fun b hb => by rw [h.get]; exact hb, fun b hb _ => h.get b, fun _ => ⟨h.next, fun b _ => h.get b⟩⟩
  · have hr := evOp_heap hheap hev
    have hno3 : clsOf o ≠ 3 → H'.next = (S p).H.next ∧ (∀ b, b ≠ base + i → H'.get b = (S p).H.get b) ∧ ∀ b, (S p).H.get b ≠ none → H'.get b = (S p).H.get b := by
      intro hne
      have hc : clsOf o = 0 ∨ clsOf o = 1 ∨ clsOf o = 2 := by
        have : clsOf o ≤ 3 := by unfold clsOf; split <;> omega
        omega
      rcases hc with hc | hc | hc
      · obtain ⟨rfl, _⟩ := loc0 hc hev; exact ⟨rfl, fun _ _ => rfl, fun _ _ => rfl⟩
      · obtain ⟨ob, ha, _⟩ := loc1 hc hev
        obtain ⟨h0, rfl⟩ := Heap.add_eq ha
        exact ⟨rfl, fun b hb => by rw [Heap.get_put, if_neg hb], fun b hb => by rw [Heap.get_put, if_neg (fun e => hb (by rw [e]; exact h0))]⟩
      · obtain ⟨rfl, _⟩ := loc2 (base := base) (i := i) hc hev; exact ⟨rfl, fun _ _ => rfl, fun _ _ => rfl⟩
    refine ⟨by rw [h.next]; exact hr.next, fun b hb => by rw [h.get]; exact hr.keep b hb, fun b hb hn => ?_, fun hne => ?_⟩
    · rw [h.get]
      by_cases hc : clsOf o = 3
      · obtain ⟨l, e1, e2⟩ := hr.log
        rw [hlog, List.append_nil] at e1
        refine e2 b hb ?_
        rw [hf, hc] at hn
        simpa [e1] using hn
      · exact (hno3 hc).2.2 b hb
    · rw [hcl] at hne
      exact ⟨by rw [h.next]; exact (hno3 hne).1, fun b hb => by rw [h.get]; exact (hno3 hne).2.1 b hb⟩
omit [Env] in
theorem Chain.nextle {p : Nat} (hp : p ≤ ops.size) : base + ops.size ≤ (S p).H.next := by
  induction p with
  | zero => exact ch.next0
  | succ p ih =>
    obtain ⟨i, hi, _⟩ := ch.has (show p < ops.size by omega)
    exact Nat.le_trans (ih (by omega)) (ch.heap hheap hi).1
omit [Env] in
/-- between two places no operation writes a block -/
theorem Chain.same {p q b : Nat} (hpq : p ≤ q) (hq : q ≤ ops.size) (hb : (S p).H.get b ≠ none) (h : ∀ r j, p ≤ r → r < q → ord[r]? = some j → b ∉ (F r).wr) : (S q).H.get b = (S p).H.get b := by
  induction q with
  | zero => have : p = 0 := by omega
            subst this; rfl
  | succ q ih =>
    by_cases e : p = q + 1
    · subst e; rfl
    · have ih := ih (by omega) (by omega) (fun r j h1 h2 => h r j h1 (by omega))
      obtain ⟨i, hi, _⟩ := ch.has (show q < ops.size by omega)
      rw [(ch.heap hheap hi).2.2.1 b (by rw [ih]; exact hb) (h q i (by omega) (by omega) hi), ih]
omit [Env] in
/-- between two places there are none but plain operations -/
theorem Chain.plain {p q : Nat} (hpq : p ≤ q) (hq : q ≤ ops.size) (h : ∀ r j, p ≤ r → r < q → ord[r]? = some j → clsAt ops j ≠ 3) :
    (S q).H.next = (S p).H.next ∧ (∀ b, (S p).H.get b ≠ none → (S q).H.get b ≠ none) ∧ ∀ b, (∀ r j, p ≤ r → r < q → ord[r]? = some j → b ≠ base + j) → (S q).H.get b = (S p).H.get b := by
  induction q with
  | zero => have : p = 0 := by omega
            subst this; exact ⟨rfl, fun _ h => h, fun _ _ => rfl⟩
  | succ q ih =>
    by_cases e : p = q + 1
    · subst e; exact ⟨rfl, fun _ h => h, fun _ _ => rfl⟩
    · obtain ⟨k1, k2, k3⟩ := ih (by omega) (by omega) (fun r j h1 h2 => h r j h1 (by omega))
      obtain ⟨i, hi, _⟩ := ch.has (show q < ops.size by omega)
      obtain ⟨m1, m2, m3, m4⟩ := ch.heap hheap hi
      obtain ⟨n1, n2⟩ := m4 (h q i (by omega) (by omega) hi)
      exact ⟨by rw [n1, k1], fun b hb => m2 b (k2 b hb), fun b hb => by rw [n2 b (hb q i (by omega) (by omega) hi), k3 b (fun r j h1 h2 => hb r j h1 (by omega))]⟩
omit hheap
omit [Env] in
/-- a slot that no operation between two places writes -/
theorem Chain.slot {p q t : Nat} (hpq : p ≤ q) (hq : q ≤ ops.size) (h : ∀ r j, p ≤ r → r < q → ord[r]? = some j → dstAt ops j ≠ some t) : (S q).T.get t = (S p).T.get t := by
  induction q with
  | zero => have : p = 0 := by omega
            subst this; rfl
  | succ q ih =>
    by_cases e : p = q + 1
    · subst e; rfl
    · obtain ⟨i, hi, _⟩ := ch.has (show q < ops.size by omega)
      obtain ⟨o, v, H', ho⟩ := ch.one q i hi
      have := h q i (by omega) (by omega) hi
      simp only [dstAt, ho.op] at this
      rw [ho.tmp, if_neg this, ih (by omega) (by omega) (fun r j h1 h2 => h r j h1 (by omega))]
omit [Env] in
theorem Chain.N {p : Nat} (hp : p ≤ ops.size) : (S p).N = (S 0).N := by
  induction p with
  | zero => rfl
  | succ p ih =>
    obtain ⟨i, hi, _⟩ := ch.has (show p < ops.size by omega)
    obtain ⟨o, v, H', h⟩ := ch.one p i hi
    rw [h.N, ih (by omega)]
end

/-- where a run in some order stands -/
structure Inv (ops : Array Oper) (base : Nat) (ord : List Nat) (S : Nat → St) (ι0 : Map) (H0 : Heap) (w0 : World) (ls : Array Bool) (a : Act) (w : World) (ι : Map) (q : Nat) : Prop where
  sz : ls.size = ops.size
  cl : Closed ops ls
  q1 : q ≤ ops.size
  q2 : q = ops.size ∨ ∃ j, ord[q]? = some j ∧ clsAt ops j = 3
  q3 : ∀ (p i : Nat), ord[p]? = some i → clsAt ops i = 3 → (Li ls i ↔ p < q)
  tm : ∀ (t k : Nat) (x : AV), k ≤ ops.size → (∀ (p i : Nat), ord[p]? = some i → dstAt ops i = some t → (Li ls i ↔ p < k)) → (S k).T.get t = some x → ∃ v, a.tmps[t]? = some v ∧ VR ι x v
  st : Step (fun b => base ≤ b) ι0 H0 w0 ι (S q).H w
  un : ∀ i, i < ops.size → ¬ Li ls i → ι (base + i) = none
  asz : a.tmps.size = (S 0).N
  df : a.defers = []

omit [Env] in
/-- the next place of an operation that writes -/
theorem next_eff (ops : Array Oper) (ord : List Nat) (hlen : ord.length = ops.size) : ∀ (d p : Nat), p + d = ops.size → ∃ q, p ≤ q ∧ q ≤ ops.size ∧ (q = ops.size ∨ ∃ j, ord[q]? = some j ∧ clsAt ops j = 3) ∧ ∀ (r j : Nat), p ≤ r → r < q → ord[r]? = some j → clsAt ops j ≠ 3
  | 0, p, h => ⟨p, Nat.le_refl _, by omega, .inl (by omega), fun r j h1 h2 => by omega⟩
  | d + 1, p, h => by
    have hp : p < ord.length := by omega
    by_cases e : clsAt ops ord[p] = 3
    · exact ⟨p, Nat.le_refl _, by omega, .inr ⟨_, by simp [hp], e⟩, fun r j h1 h2 => by omega⟩
    · obtain ⟨q, h1, h2, h3, h4⟩ := next_eff ops ord hlen d (p + 1) (by omega)
      refine ⟨q, by omega, h2, h3, fun r j r1 r2 hr => ?_⟩
      by_cases e2 : r = p
      · subst e2; simp [hp] at hr; subst hr; exact e
      · exact h4 r j (by omega) r2 hr

omit [Env] in
theorem Li_set {ls : Array Bool} {i j : Nat} (hi : i < ls.size) : Li (ls.setIfInBounds i true) j ↔ (j = i ∨ Li ls j) := by
  unfold Li
  by_cases e : j = i
  · subst e; simp [hi]
  · simp only [e, false_or]
    rw [Array.getD_eq_getD_getElem?, Array.getD_eq_getD_getElem?, Array.getElem?_setIfInBounds_ne (Ne.symm e)]

section
variable {C : Ctx} {P : Program} (hC : C.Ok P) {call : CallA} (hcall : CallSound P call) (hheap : CallHeap call) {ops : Array Oper} {base : Nat} {ord : List Nat} {S : Nat → St} {F : Nat → Info}
  (ch : Chain C call ops base ord S F) {ι0 : Map} {H0 : Heap} {w0 : World} {Q : Exit → Act → World → Prop}

/-- the invariant behind one more operation -/
theorem Inv.step (ch : Chain C call ops base ord S F) (hheap : CallHeap call) {ls : Array Bool} {a : Act} {w : World} {ι : Map} {q i : Nat} (inv : Inv ops base ord S ι0 H0 w0 ls a w ι q) (hi : i < ops.size) (hun : ¬ Li ls i)
    (hr : ∀ o, ops[i]? = some o → ∀ e ∈ o.after, Region.binds .any e = true → Li ls e.on) {o : Oper} {v : AV} {H' : Heap} (one : One C call ops base i (S (posOf ord i)) (S (posOf ord i + 1)) (F (posOf ord i)) o v H')
    {ι' : Map} {w' : World} {v' : Value} {q' : Nat} (hs : Step (· = base + i) ι (S q).H w ι' (S q').H w') (hv : VR ι' v v')
    (hq : (clsAt ops i ≠ 3 ∧ q' = q) ∨ (clsAt ops i = 3 ∧ posOf ord i = q ∧ q < q' ∧ q' ≤ ops.size ∧ (q' = ops.size ∨ ∃ j, ord[q']? = some j ∧ clsAt ops j = 3) ∧ ∀ (r j : Nat), q + 1 ≤ r → r < q' → ord[r]? = some j → clsAt ops j ≠ 3)) :
    Inv ops base ord S ι0 H0 w0 (ls.setIfInBounds i true) (a.put o.dst v') w' ι' q' := by
  have hsz : i < ls.size := by rw [inv.sz]; exact hi
  obtain ⟨hpi, hpl⟩ := ch.at hi
  have hdst : dstAt ops i = o.dst := by simp [dstAt, one.op]
  have hbase := ch.nextle hheap inv.q1
  refine ⟨by simp [inv.sz], ?_, ?_, ?_, ?_, ?_, ?_, ?_, ?_, ?_⟩
  · intro j oj hoj hj e he hb
    rw [Li_set hsz] at hj ⊢
    rcases hj with rfl | hj
    · exact .inr (hr oj hoj e he hb)
    · exact .inr (inv.cl j oj hoj hj e he hb)
  · rcases hq with ⟨_, rfl⟩ | ⟨_, _, _, h, _⟩
    · exact inv.q1
    · exact h
  · rcases hq with ⟨_, rfl⟩ | ⟨_, _, _, _, h, _⟩
    · exact inv.q2
    · exact h
  · intro p j hp hc
    rw [Li_set hsz, inv.q3 p j hp hc]
    rcases hq with ⟨hne, rfl⟩ | ⟨h3, hpq, hlt, _, _, hno⟩
    · constructor
      · rintro (rfl | h)
        · exact (hne hc).elim
        · exact h
      · exact .inr
    · constructor
      · rintro (rfl | h)
        · have := ch.static.pos p j hp; omega
        · omega
      · intro h
        by_cases e : p < q
        · exact .inr e
        · by_cases e2 : p = q
          · left
            have h1 : ord[p]? = some i := by rw [e2, ← hpq]; exact hpi
            rw [hp] at h1; cases h1; rfl
          · exact (hno p j (by omega) h hp hc).elim
  · intro t k x hk hlist hx
    by_cases ht : o.dst = some t
    · -- the slot that has just been written
      have hpk : posOf ord i < k := (hlist _ i hpi (by rw [hdst]; exact ht)).1 ((Li_set hsz).2 (.inl rfl))
      have hnone : ∀ r j, posOf ord i + 1 ≤ r → r < k → ord[r]? = some j → dstAt ops j ≠ some t := by
        intro r j h1 h2 hrj hd
        have hl := (hlist r j hrj hd).2 h2
        have hpj := ch.static.pos r j hrj
        rw [Li_set hsz] at hl
        rcases hl with rfl | hl
        · omega
        · have hj := ch.static.lt r j hrj
          have hoj : ∃ y, ops[j]? = some y := ⟨ops[j], by simp [hj]⟩
          obtain ⟨y, hy⟩ := hoj
          have hd' : y.dst = some t := by simpa [dstAt, hy] using hd
          have hne : i ≠ j := fun e => by subst e; omega
          rcases ch.static.tmp i j o y hne one.op hy t ht (.inr hd') with hb | hb
          · have := ch.static.befpos hb; omega
          · exact hun (inv.cl.bef hb hl)
      rw [ch.slot (show posOf ord i + 1 ≤ k by omega) hk hnone, one.tmp, if_pos ht] at hx
      cases hx
      have hfit := one.fits t ht
      rw [ch.N (show posOf ord i ≤ ops.size by omega)] at hfit
      refine ⟨v', ?_, hv⟩
      rw [ht]
      simp only [Act.put]
      have : t < a.tmps.size := by rw [inv.asz]; exact hfit
      simp [this]
    · obtain ⟨u, hu, r⟩ := inv.tm t k x hk (fun p j hp hd => by
        have hne : j ≠ i := fun e => by subst e; rw [hdst] at hd; exact ht hd
        rw [← hlist p j hp hd, Li_set hsz]; simp [hne]) hx
      refine ⟨u, ?_, r.ext hs.ext⟩
      cases hd : o.dst with
      | none => exact hu
      | some d =>
        have : d ≠ t := fun e => ht (by rw [hd, e])
        simp only [Act.put]
        rw [Array.getElem?_setIfInBounds_ne this]; exact hu
  · exact inv.st.trans (fun _ h => h) (fun b hb => by omega) hs
  · intro j hj hnl
    rw [Li_set hsz] at hnl
    have hne : j ≠ i := fun e => hnl (.inl e)
    cases e : ι' (base + j) with
    | none => rfl
    | some l =>
      rcases hs.dom (base + j) (inv.un j hj (fun h => hnl (.inr h))) (by rw [e]; simp) with h | h
      · omega
      · omega
  · cases hd : o.dst with
    | none => exact inv.asz
    | some d => simp [Act.put, inv.asz]
  · cases o.dst with
    | none => exact inv.df
    | some d => exact inv.df
end
end Go.Ev
