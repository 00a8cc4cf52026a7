import Derived.Test.YtldgccbiikahgabGreatEvSwap
namespace Go.Ev
open Go Go.RowKit
variable [Env]

def clsAt (ops : Array Oper) (i : Nat) : Nat := match ops[i]? with | some o => clsOf o | none => 0
def dstAt (ops : Array Oper) (i : Nat) : Option Tmp := match ops[i]? with | some o => o.dst | none => none

/-- all that is known of one run in the chosen order -/
structure Chain (C : Ctx) (call : CallA) (ops : Array Oper) (base : Nat) (ord : List Nat) (lo : Option Nat) (S : Nat → St) (F : Nat → Info) : Prop where
  static : Static ops ord lo
  one : ∀ (p i : Nat), ord[p]? = some i → ∃ o v H', One C call ops base i (S p) (S (p + 1)) (F p) o v H'
  dyn : ∀ (p i q j : Nat) (b : Nat), ord[p]? = some i → ord[q]? = some j → (F p).blk = some b → b ∈ (F q).wr → i = j ∨ BefP ops i j ∨ BefP ops j i
  far : ∀ (p i j : Nat), lo = some p → ord[p]? = some i → ord[p + 1]? = some j → farA (F p).st (F (p + 1)).st = true
  log0 : (S 0).H.log = []
  next0 : base + ops.size ≤ (S 0).H.next

section
variable {C : Ctx} {call : CallA} {ops : Array Oper} {base : Nat} {ord : List Nat} {lo : Option Nat} {S : Nat → St} {F : Nat → Info} (ch : Chain C call ops base ord lo S F) (hheap : CallHeap call)
include ch

omit [Env] in
theorem Chain.at {i : Nat} (hi : i < ops.size) : ord[posOf ord i]? = some i ∧ posOf ord i < ops.size := by
  have := ch.static.ex i hi
  exact ⟨this, by have := (List.getElem?_eq_some_iff.1 this).1; rw [ch.static.len] at this; exact this⟩
omit [Env] in
theorem Chain.has {p : Nat} (hp : p < ops.size) : ∃ i, ord[p]? = some i ∧ i < ops.size := by
  have h : p < ord.length := by rw [ch.static.len]; exact hp
  exact ⟨ord[p], by simp [h], ch.static.lt p _ (by simp [h])⟩
omit [Env] in
theorem Chain.log {p : Nat} (hp : p ≤ ops.size) : (S p).H.log = [] := by
  induction p with
  | zero => exact ch.log0
  | succ p ih =>
    obtain ⟨i, hi, _⟩ := ch.has (show p < ops.size by omega)
    obtain ⟨o, v, H', h⟩ := ch.one p i hi
    exact h.log (ih (by omega))
include hheap
omit [Env] in
/-- what one operation does to the heap -/
theorem Chain.heap {p i : Nat} (hp : ord[p]? = some i) : (S p).H.next ≤ (S (p + 1)).H.next ∧ (∀ b, (S p).H.get b ≠ none → (S (p + 1)).H.get b ≠ none) ∧
    (∀ b, (S p).H.get b ≠ none → b ∉ (F p).wr → (S (p + 1)).H.get b = (S p).H.get b) ∧
    (clsAt ops i ≠ 3 → (S (p + 1)).H.next = (S p).H.next ∧ ∀ b, b ≠ base + i → (S (p + 1)).H.get b = (S p).H.get b) := by
  obtain ⟨o, v, H', h⟩ := ch.one p i hp
  have hpl : p < ops.size := by have := (List.getElem?_eq_some_iff.1 hp).1; rw [ch.static.len] at this; exact this
  have hlog := ch.log (show p ≤ ops.size by omega)
  have hcl : clsAt ops i = clsOf o := by simp [clsAt, h.op]
  rcases h.how with ⟨_, _, rfl, hf⟩ | ⟨_, hev, hf⟩
  · exact ⟨by rw [h.next]; exact Nat.le_refl _, fun b hb => by rw [h.get]; exact hb, fun b hb _ => h.get b, fun _ => ⟨h.next, fun b _ => h.get b⟩⟩
  · have hr := evOp_heap hheap hev
    have hno3 : clsOf o ≠ 3 → H'.next = (S p).H.next ∧ (∀ b, b ≠ base + i → H'.get b = (S p).H.get b) ∧ ∀ b, (S p).H.get b ≠ none → H'.get b = (S p).H.get b := by
      intro hne
      have hc : clsOf o = 0 ∨ clsOf o = 1 ∨ clsOf o = 2 := by
        have : clsOf o ≤ 3 := by unfold clsOf; split <;> omega
        omega
      rcases hc with hc | hc | hc
      · obtain ⟨rfl, _⟩ := loc0 hc hev; exact ⟨rfl, fun _ _ => rfl, fun _ _ => rfl⟩
      · obtain ⟨ob, ha, _⟩ := loc1 hc hev
        obtain ⟨h0, rfl⟩ := Heap.add_eq ha
        exact ⟨rfl, fun b hb => by rw [Heap.get_put, if_neg hb], fun b hb => by rw [Heap.get_put, if_neg (fun e => hb (by rw [e]; exact h0))]⟩
      · obtain ⟨rfl, _⟩ := loc2 (base := base) (i := i) hc hev; exact ⟨rfl, fun _ _ => rfl, fun _ _ => rfl⟩
    refine ⟨by rw [h.next]; exact hr.next, fun b hb => by rw [h.get]; exact hr.keep b hb, fun b hb hn => ?_, fun hne => ?_⟩
    · rw [h.get]
      by_cases hc : clsOf o = 3
      · obtain ⟨l, e1, e2⟩ := hr.log
        rw [hlog, List.append_nil] at e1
        refine e2 b hb ?_
        rw [hf, hc] at hn
        simpa [e1] using hn
      · exact (hno3 hc).2.2 b hb
    · rw [hcl] at hne
      exact ⟨by rw [h.next]; exact (hno3 hne).1, fun b hb => by rw [h.get]; exact (hno3 hne).2.1 b hb⟩
omit [Env] in
theorem Chain.nextle {p : Nat} (hp : p ≤ ops.size) : base + ops.size ≤ (S p).H.next := by
  induction p with
  | zero => exact ch.next0
  | succ p ih =>
    obtain ⟨i, hi, _⟩ := ch.has (show p < ops.size by omega)
    exact Nat.le_trans (ih (by omega)) (ch.heap hheap hi).1
omit [Env] in
/-- between two places no operation writes a block -/
theorem Chain.same {p q b : Nat} (hpq : p ≤ q) (hq : q ≤ ops.size) (hb : (S p).H.get b ≠ none) (h : ∀ r j, p ≤ r → r < q → ord[r]? = some j → b ∉ (F r).wr) : (S q).H.get b = (S p).H.get b := by
  induction q with
  | zero => have : p = 0 := by omega
            subst this; rfl
  | succ q ih =>
    by_cases e : p = q + 1
    · subst e; rfl
    · have ih := ih (by omega) (by omega) (fun r j h1 h2 => h r j h1 (by omega))
      obtain ⟨i, hi, _⟩ := ch.has (show q < ops.size by omega)
      rw [(ch.heap hheap hi).2.2.1 b (by rw [ih]; exact hb) (h q i (by omega) (by omega) hi), ih]
omit [Env] in
/-- between two places there are none but plain operations -/
theorem Chain.plain {p q : Nat} (hpq : p ≤ q) (hq : q ≤ ops.size) (h : ∀ r j, p ≤ r → r < q → ord[r]? = some j → clsAt ops j ≠ 3) :
    (S q).H.next = (S p).H.next ∧ (∀ b, (S p).H.get b ≠ none → (S q).H.get b ≠ none) ∧ ∀ b, (∀ r j, p ≤ r → r < q → ord[r]? = some j → b ≠ base + j) → (S q).H.get b = (S p).H.get b := by
  induction q with
  | zero => have : p = 0 := by omega
            subst this; exact ⟨rfl, fun _ h => h, fun _ _ => rfl⟩
  | succ q ih =>
    by_cases e : p = q + 1
    · subst e; exact ⟨rfl, fun _ h => h, fun _ _ => rfl⟩
    · obtain ⟨k1, k2, k3⟩ := ih (by omega) (by omega) (fun r j h1 h2 => h r j h1 (by omega))
      obtain ⟨i, hi, _⟩ := ch.has (show q < ops.size by omega)
      obtain ⟨m1, m2, m3, m4⟩ := ch.heap hheap hi
      obtain ⟨n1, n2⟩ := m4 (h q i (by omega) (by omega) hi)
      exact ⟨by rw [n1, k1], fun b hb => m2 b (k2 b hb), fun b hb => by rw [n2 b (hb q i (by omega) (by omega) hi), k3 b (fun r j h1 h2 => hb r j h1 (by omega))]⟩
omit hheap
omit [Env] in
/-- a slot that no operation between two places writes -/
theorem Chain.slot {p q t : Nat} (hpq : p ≤ q) (hq : q ≤ ops.size) (h : ∀ r j, p ≤ r → r < q → ord[r]? = some j → dstAt ops j ≠ some t) : (S q).T.get t = (S p).T.get t := by
  induction q with
  | zero => have : p = 0 := by omega
            subst this; rfl
  | succ q ih =>
    by_cases e : p = q + 1
    · subst e; rfl
    · obtain ⟨i, hi, _⟩ := ch.has (show q < ops.size by omega)
      obtain ⟨o, v, H', ho⟩ := ch.one q i hi
      have := h q i (by omega) (by omega) hi
      simp only [dstAt, ho.op] at this
      rw [ho.tmp, if_neg this, ih (by omega) (by omega) (fun r j h1 h2 => h r j h1 (by omega))]
omit [Env] in
theorem Chain.N {p : Nat} (hp : p ≤ ops.size) : (S p).N = (S 0).N := by
  induction p with
  | zero => rfl
  | succ p ih =>
    obtain ⟨i, hi, _⟩ := ch.has (show p < ops.size by omega)
    obtain ⟨o, v, H', h⟩ := ch.one p i hi
    rw [h.N, ih (by omega)]
end

/-- the second of two loose stores has been done, the first has not -/
structure Mid (C : Ctx) (call : CallA) (ops : Array Oper) (base : Nat) (S : Nat → St) (F : Nat → Info) (p x y : Nat) (K : Heap) : Prop where
  evy : ∃ oy, ops[y]? = some oy ∧ clsOf oy = 3 ∧ oy.dst = none ∧ oy.guard = none ∧ evOp C call (S p).H (base + y) (S (p + 1)).T oy = some (undefA, K)
  evx : ∃ ox M, ops[x]? = some ox ∧ clsOf ox = 3 ∧ ox.dst = none ∧ ox.guard = none ∧ evOp C call K (base + x) (S p).T ox = some (undefA, M) ∧ HEq2 M (S (p + 2)).H
  next : K.next = (S p).H.next
  get : ∀ b, b ∉ (F (p + 1)).wr → K.get b = (S p).H.get b
  get2 : ∀ b, b ∉ (F p).wr → K.get b = (S (p + 2)).H.get b
  keep : ∀ b, (S p).H.get b ≠ none → K.get b ≠ none

omit [Env] in
theorem store_ev {C : Ctx} {call : CallA} {H H' : Heap} {id : Nat} {T : Tr AV} {o : Oper} {t : TypeId} {a x : Operand} (ho : o.op = .store t a x) {b off n : Nat} (hst : stOf T o = some (b, off, n)) {v : AV} (h : evOp C call H id T o = some (v, H')) :
    ∃ u, ev T a = some (.ptr b off) ∧ ev T x = some u ∧ n = u.cells.length ∧ evStore C H t u (.ptr b off) = some H' := by
  simp only [stOf, ho] at hst
  split at hst
  · rename_i b' off' u e1 e2
    cases hst
    simp only [evOp, ho, e1, e2] at h
    split at h
    · rename_i H1 e3; cases h; exact ⟨u, e1, e2, rfl, e3⟩
    · cases h
  · cases hst
omit [Env] in
theorem Chain.mid {C : Ctx} {call : CallA} {ops : Array Oper} {base : Nat} {ord : List Nat} {lo : Option Nat} {S : Nat → St} {F : Nat → Info} (ch : Chain C call ops base ord lo S F) {p : Nat} (hlo : lo = some p) :
    ∃ x y K, ord[p]? = some x ∧ ord[p + 1]? = some y ∧ Mid C call ops base S F p x y K := by
  obtain ⟨hp, hl⟩ := ch.static.loose p hlo
  obtain ⟨x, hx, _⟩ := ch.has (show p < ops.size by omega)
  obtain ⟨y, hy, _⟩ := ch.has hp
  obtain ⟨ox, tx, ax, vx, x1, x2, x3, x4⟩ := (hl p x hx).1 (.inl rfl)
  obtain ⟨oy, ty, ay, vy, y1, y2, y3, y4⟩ := (hl (p + 1) y hy).1 (.inr rfl)
  obtain ⟨o, v, H1, one⟩ := ch.one p x hx
  obtain ⟨o2, v2, H2, two⟩ := ch.one (p + 1) y hy
  have eo : o = ox := by have := one.op; rw [x1] at this; cases this; rfl
  have eo2 : o2 = oy := by have := two.op; rw [y1] at this; cases this; rfl
  subst eo; subst eo2
  have far := ch.far p x y hlo hx hy
  have wx : wantedA ops (S p).T o = some true := by unfold wantedA; rw [x3]
  have wy : wantedA ops (S (p + 1)).T o2 = some true := by unfold wantedA; rw [y3]
  rcases one.how with ⟨h, _⟩ | ⟨_, ex, fx⟩
  · rw [wx] at h; cases h
  rcases two.how with ⟨h, _⟩ | ⟨_, ey, fy⟩
  · rw [wy] at h; cases h
  have c3 : clsOf o = 3 := by unfold clsOf; rw [x2]
  have c4 : clsOf o2 = 3 := by unfold clsOf; rw [y2]
  have log1 := ch.log (show p + 1 ≤ ops.size by omega)
  simp only [fx, fy] at far
  cases sx : stOf (S p).T o with
  | none => rw [sx] at far; cases far
  | some px => cases sy : stOf (S (p + 1)).T o2 with
    | none => rw [sx, sy] at far; cases far
    | some py =>
      obtain ⟨bx, offx, nx⟩ := px
      obtain ⟨yb, offy, ny⟩ := py
      rw [sx, sy] at far
      obtain ⟨ux, a1, a2, rfl, a3⟩ := store_ev x2 sx ex
      obtain ⟨uy, b1, b2, rfl, b3⟩ := store_ev y2 sy ey
      obtain ⟨M, M', m1, m2, m3, m4, m5, m6, m7⟩ := store_swap a3 one.get one.next b3 far
      have hwr : ∀ b, b ∉ (F (p + 1)).wr → b ≠ yb := by
        intro b hb e
        subst e
        obtain ⟨j, oc, _, _, _, _, _, _, _, rfl⟩ := store_parts b3
        apply hb
        rw [fy, c4]
        simp [Tr.nbeq, Heap.write, log1]
      refine ⟨x, y, M, hx, hy, ⟨⟨o2, y1, c4, y4, y3, by simp only [evOp, y2, b1, b2, m1]⟩, ⟨o, M', x1, c3, x4, x3, by simp only [evOp, x2, a1, a2, m2], ⟨fun b => by rw [two.get, m3], by rw [two.next, m4]⟩⟩, m5, fun b hb => m6 b (hwr b hb), fun b hb => by
        have hne : b ≠ bx := by
          intro e
          subst e
          obtain ⟨j, oc, _, _, _, _, _, _, _, rfl⟩ := store_parts a3
          apply hb
          rw [fx, c3]
          simp [Tr.nbeq, Heap.write, ch.log (show p ≤ ops.size by omega)]
        rw [two.get, ← m3]
        obtain ⟨j, oc, _, _, _, _, _, _, _, rfl⟩ := store_parts m2
        rw [Heap.get_write, if_neg hne], m7⟩⟩

/-- where a run in some order stands -/
structure Inv (C : Ctx) (call : CallA) (ops : Array Oper) (base : Nat) (ord : List Nat) (lo : Option Nat) (S : Nat → St) (F : Nat → Info) (ι0 : Map) (H0 : Heap) (w0 : World) (ls : Array Bool) (a : Act) (w : World) (ι : Map) (q : Nat) (fl : Bool) (K : Heap) : Prop where
  sz : ls.size = ops.size
  cl : Closed ops ls
  q1 : q ≤ ops.size
  q2 : q = ops.size ∨ ∃ j, ord[q]? = some j ∧ clsAt ops j = 3
  q3 : ∀ (p i : Nat), ord[p]? = some i → clsAt ops i = 3 → (Li ls i ↔ (p < q ∨ (fl = true ∧ p = q + 1)))
  kk : (fl = false ∧ K = (S q).H) ∨ (fl = true ∧ lo = some q ∧ ∃ x y, ord[q]? = some x ∧ ord[q + 1]? = some y ∧ Mid C call ops base S F q x y K)
  tm : ∀ (t k : Nat) (x : AV), k ≤ ops.size → (∀ (p i : Nat), ord[p]? = some i → dstAt ops i = some t → (Li ls i ↔ p < k)) → (S k).T.get t = some x → ∃ v, a.tmps[t]? = some v ∧ VR ι x v
  st : Step (fun b => base ≤ b) ι0 H0 w0 ι K w
  un : ∀ i, i < ops.size → ¬ Li ls i → ι (base + i) = none
  asz : a.tmps.size = (S 0).N
  df : a.defers = []

omit [Env] in
/-- the next place of an operation that writes -/
theorem next_eff (ops : Array Oper) (ord : List Nat) (hlen : ord.length = ops.size) : ∀ (d p : Nat), p + d = ops.size → ∃ q, p ≤ q ∧ q ≤ ops.size ∧ (q = ops.size ∨ ∃ j, ord[q]? = some j ∧ clsAt ops j = 3) ∧ ∀ (r j : Nat), p ≤ r → r < q → ord[r]? = some j → clsAt ops j ≠ 3
  | 0, p, h => ⟨p, Nat.le_refl _, by omega, .inl (by omega), fun r j h1 h2 => by omega⟩
  | d + 1, p, h => by
    have hp : p < ord.length := by omega
    by_cases e : clsAt ops ord[p] = 3
    · exact ⟨p, Nat.le_refl _, by omega, .inr ⟨_, by simp [hp], e⟩, fun r j h1 h2 => by omega⟩
    · obtain ⟨q, h1, h2, h3, h4⟩ := next_eff ops ord hlen d (p + 1) (by omega)
      refine ⟨q, by omega, h2, h3, fun r j r1 r2 hr => ?_⟩
      by_cases e2 : r = p
      · subst e2; simp [hp] at hr; subst hr; exact e
      · exact h4 r j (by omega) r2 hr

omit [Env] in
theorem Li_set {ls : Array Bool} {i j : Nat} (hi : i < ls.size) : Li (ls.setIfInBounds i true) j ↔ (j = i ∨ Li ls j) := by
  unfold Li
  by_cases e : j = i
  · subst e; simp [hi]
  · simp only [e, false_or]
    rw [Array.getD_eq_getD_getElem?, Array.getD_eq_getD_getElem?, Array.getElem?_setIfInBounds_ne (Ne.symm e)]

section
variable {C : Ctx} {P : Program} (hC : C.Ok P) {call : CallA} (hcall : CallSound P call) (hheap : CallHeap call) {ops : Array Oper} {base : Nat} {ord : List Nat} {lo : Option Nat} {S : Nat → St} {F : Nat → Info}
  (ch : Chain C call ops base ord lo S F) {ι0 : Map} {H0 : Heap} {w0 : World} {Q : Exit → Act → World → Prop}

/-- the invariant behind one more operation -/
theorem Inv.next (ch : Chain C call ops base ord lo S F) (hheap : CallHeap call) {ls : Array Bool} {a : Act} {w : World} {ι : Map} {q : Nat} {fl : Bool} {K : Heap} (inv : Inv C call ops base ord lo S F ι0 H0 w0 ls a w ι q fl K) : base + ops.size ≤ K.next := by
  have := ch.nextle hheap inv.q1
  rcases inv.kk with ⟨_, rfl⟩ | ⟨_, _, x, y, _, _, m⟩
  · exact this
  · rw [m.next]; exact this
theorem Inv.step (ch : Chain C call ops base ord lo S F) (hheap : CallHeap call) {ls : Array Bool} {a : Act} {w : World} {ι : Map} {q i : Nat} {fl : Bool} {K : Heap} (inv : Inv C call ops base ord lo S F ι0 H0 w0 ls a w ι q fl K) (hi : i < ops.size) (hun : ¬ Li ls i)
    (hr : ∀ o, ops[i]? = some o → ∀ e ∈ o.after, Region.binds .any e = true → Li ls e.on) {o : Oper} {v : AV} {H' : Heap} (one : One C call ops base i (S (posOf ord i)) (S (posOf ord i + 1)) (F (posOf ord i)) o v H')
    {ι' : Map} {w' : World} {v' : Value} {q' : Nat} {fl' : Bool} {K' : Heap} (hs : Step (· = base + i) ι K w ι' K' w') (hv : VR ι' v v')
    (hq1 : q' ≤ ops.size) (hq2 : q' = ops.size ∨ ∃ j, ord[q']? = some j ∧ clsAt ops j = 3)
    (hq3 : ∀ (p j : Nat), ord[p]? = some j → clsAt ops j = 3 → ((j = i ∨ Li ls j) ↔ (p < q' ∨ (fl' = true ∧ p = q' + 1))))
    (hkk : (fl' = false ∧ K' = (S q').H) ∨ (fl' = true ∧ lo = some q' ∧ ∃ x y, ord[q']? = some x ∧ ord[q' + 1]? = some y ∧ Mid C call ops base S F q' x y K')) :
    Inv C call ops base ord lo S F ι0 H0 w0 (ls.setIfInBounds i true) (a.put o.dst v') w' ι' q' fl' K' := by
  have hsz : i < ls.size := by rw [inv.sz]; exact hi
  obtain ⟨hpi, hpl⟩ := ch.at hi
  have hdst : dstAt ops i = o.dst := by simp [dstAt, one.op]
  have hbase := inv.next ch hheap
  refine ⟨by simp [inv.sz], ?_, hq1, hq2, ?_, hkk, ?_, ?_, ?_, ?_, ?_⟩
  · intro j oj hoj hj e he hb
    rw [Li_set hsz] at hj ⊢
    rcases hj with rfl | hj
    · exact .inr (hr oj hoj e he hb)
    · exact .inr (inv.cl j oj hoj hj e he hb)
  · intro p j hp hc
    rw [Li_set hsz]; exact hq3 p j hp hc
  · intro t k x hk hlist hx
    by_cases ht : o.dst = some t
    · -- the slot that has just been written
      have hpk : posOf ord i < k := (hlist _ i hpi (by rw [hdst]; exact ht)).1 ((Li_set hsz).2 (.inl rfl))
      have hnone : ∀ r j, posOf ord i + 1 ≤ r → r < k → ord[r]? = some j → dstAt ops j ≠ some t := by
        intro r j h1 h2 hrj hd
        have hl := (hlist r j hrj hd).2 h2
        have hpj := ch.static.pos r j hrj
        rw [Li_set hsz] at hl
        rcases hl with rfl | hl
        · omega
        · have hj := ch.static.lt r j hrj
          have hoj : ∃ y, ops[j]? = some y := ⟨ops[j], by simp [hj]⟩
          obtain ⟨y, hy⟩ := hoj
          have hd' : y.dst = some t := by simpa [dstAt, hy] using hd
          have hne : i ≠ j := fun e => by subst e; omega
          rcases ch.static.tmp i j o y hne one.op hy t ht (.inr hd') with hb | hb
          · have := ch.static.befpos hb; omega
          · exact hun (inv.cl.bef hb hl)
      rw [ch.slot (show posOf ord i + 1 ≤ k by omega) hk hnone, one.tmp, if_pos ht] at hx
      cases hx
      have hfit := one.fits t ht
      rw [ch.N (show posOf ord i ≤ ops.size by omega)] at hfit
      refine ⟨v', ?_, hv⟩
      rw [ht]
      simp only [Act.put]
      have : t < a.tmps.size := by rw [inv.asz]; exact hfit
      simp [this]
    · obtain ⟨u, hu, r⟩ := inv.tm t k x hk (fun p j hp hd => by
        have hne : j ≠ i := fun e => by subst e; rw [hdst] at hd; exact ht hd
        rw [← hlist p j hp hd, Li_set hsz]; simp [hne]) hx
      refine ⟨u, ?_, r.ext hs.ext⟩
      cases hd : o.dst with
      | none => exact hu
      | some d =>
        have : d ≠ t := fun e => ht (by rw [hd, e])
        simp only [Act.put]
        rw [Array.getElem?_setIfInBounds_ne this]; exact hu
  · exact inv.st.trans (fun _ h => h) (fun b hb => by omega) hs
  · intro j hj hnl
    rw [Li_set hsz] at hnl
    have hne : j ≠ i := fun e => hnl (.inl e)
    cases e : ι' (base + j) with
    | none => rfl
    | some l =>
      rcases hs.dom (base + j) (inv.un j hj (fun h => hnl (.inr h))) (by rw [e]; simp) with h | h
      · omega
      · omega
  · cases hd : o.dst with
    | none => exact inv.asz
    | some d => simp [Act.put, inv.asz]
  · cases o.dst with
    | none => exact inv.df
    | some d => exact inv.df
end
end Go.Ev
