import Derived.Test.YtldgccbiikahgabGreatEvCoin
namespace Go.Ev
open Go Go.RowKit
variable [Env]

/-! ### how many are still to come -/
def cnt (n : Nat) (ls : Array Bool) : Nat := (List.range n).countP fun i => !ls.getD i false
omit [Env] in
theorem countP_less (p q : Nat → Bool) (i : Nat) : ∀ l : List Nat, l.Nodup → i ∈ l → p i = true → (∀ j, q j = (p j && !decide (j = i))) → l.countP q + 1 = l.countP p
  | [], _, hi, _, _ => by simp at hi
  | j :: l, hn, hi, hp, hq => by
    rw [List.nodup_cons] at hn
    by_cases e : j = i
    · subst e
      have h1 : l.countP q = l.countP p := List.countP_congr fun x hx => by
        have : x ≠ j := fun e => hn.1 (by rw [← e]; exact hx)
        simp [hq, this]
      simp [List.countP_cons, hq j, hp, h1]
    · have hi' : i ∈ l := by
        rcases List.mem_cons.1 hi with h | h
        · exact (e h.symm).elim
        · exact h
      have ih := countP_less p q i l hn.2 hi' hp hq
      have : q j = p j := by simp [hq, e]
      simp only [List.countP_cons, this]
      omega
omit [Env] in
theorem cnt_set {n : Nat} {ls : Array Bool} (hs : ls.size = n) {i : Nat} (hi : i < n) (hu : ¬ Li ls i) : cnt n (ls.setIfInBounds i true) + 1 = cnt n ls := by
  unfold cnt
  refine countP_less _ _ i _ List.nodup_range (by simpa using hi) (by unfold Li at hu; simpa using hu) fun j => ?_
  by_cases e : j = i
  · subst e
    have : Li (ls.setIfInBounds j true) j := (Li_set (by omega)).2 (.inl rfl)
    unfold Li at this
    rw [this]; simp
  · rw [Array.getD_eq_getD_getElem?, Array.getD_eq_getD_getElem?, Array.getElem?_setIfInBounds_ne (Ne.symm e)]
    simp [e]
omit [Env] in
theorem cnt_zero {n : Nat} {ls : Array Bool} (h : cnt n ls = 0) (i : Nat) (hi : i < n) : Li ls i := by
  unfold cnt at h
  rw [List.countP_eq_zero] at h
  have := h i (by simpa using hi)
  unfold Li
  simpa using this

section
variable {C : Ctx} {P : Program} (hC : C.Ok P) {call : CallA} (hcall : CallSound P call) (hheap : CallHeap call) {ops : Array Oper} {base : Nat} {ord : List Nat} {lo : Option Nat} {S : Nat → St} {F : Nat → Info}
  (ch : Chain C call ops base ord lo S F) {ι0 : Map} {H0 : Heap} {w0 : World} {Q : Exit → Act → World → Prop}

include ch
theorem Inv.done {ls : Array Bool} {a : Act} {w : World} {ι : Map} {q : Nat} {fl : Bool} {Kh : Heap} (inv : Inv C call ops base ord lo S F ι0 H0 w0 ls a w ι q fl Kh) (hall : ∀ i, i < ops.size → Li ls i) :
    Step (fun b => base ≤ b) ι0 H0 w0 ι (S ops.size).H w ∧ SR ι (S ops.size) a w := by
  have hq : q = ops.size := by
    rcases inv.q2 with h | ⟨j, hj, hj3⟩
    · exact h
    · have := (inv.q3 q j hj hj3).1 (hall j (ch.static.lt q j hj))
      rcases this with h | ⟨_, h⟩ <;> omega
  subst hq
  have hk : Kh = (S ops.size).H := by
    rcases inv.kk with ⟨_, h⟩ | ⟨_, hlo, _⟩
    · exact h
    · have := (ch.static.loose _ hlo).1; omega
  subst hk
  refine ⟨inv.st, inv.st.wr, fun t x hx => inv.tm t ops.size x (Nat.le_refl _) (fun p i hp _ => ⟨fun _ => by have := (List.getElem?_eq_some_iff.1 hp).1; rw [ch.static.len] at this; exact this, fun _ => hall i (ch.static.lt p i hp)⟩) hx, ?_, inv.df⟩
  rw [inv.asz, ch.N (Nat.le_refl _)]
theorem Inv.all {ls : Array Bool} {a : Act} {w : World} {ι : Map} {q : Nat} {fl : Bool} {Kh : Heap} (inv : Inv C call ops base ord lo S F ι0 H0 w0 ls a w ι q fl Kh) (hr : Region.ready .any ops ls = []) : ∀ i, i < ops.size → Li ls i := by
  have key : ∀ (n p i : Nat), p < n → ord[p]? = some i → Li ls i := by
    intro n
    induction n with
    | zero => intro p i h; omega
    | succ n ih =>
      intro p i hp hi
      by_cases hl : Li ls i
      · exact hl
      · exfalso
        have hil := ch.static.lt p i hi
        have hpp := ch.static.pos p i hi
        have hmem : i ∈ Region.ready .any ops ls := by
          rw [mem_ready]
          have hsz : i < ls.size := by rw [inv.sz]; exact hil
          refine ⟨?_, ops[i], by simp [hil], fun e he hb => ?_⟩
          · unfold Li at hl
            rw [Array.getD_eq_getD_getElem?] at hl ⊢
            simp [hsz] at hl ⊢; exact hl
          · obtain ⟨h1, h2⟩ := ch.static.edge i ops[i] (by simp [hil]) e he hb
            exact ih (posOf ord e.on) e.on (by omega) (ch.static.ex e.on h1)
        rw [hr] at hmem; cases hmem
  intro i hi
  exact key (posOf ord i + 1) (posOf ord i) i (by omega) (ch.static.ex i hi)

include hC hcall hheap
theorem draw_any : ∀ (fuel : Nat) (ls : Array Bool) (a : Act) (w : World) (ι : Map) (q : Nat) (fl : Bool) (Kh : Heap), Inv C call ops base ord lo S F ι0 H0 w0 ls a w ι q fl Kh → cnt ops.size ls = fuel →
    (∀ ι' a' w', Step (fun b => base ≤ b) ι0 H0 w0 ι' (S ops.size).H w' → SR ι' (S ops.size) a' w' → Q .normal a' w') → wpAny P .any ops Q fuel ls a w
  | 0, ls, a, w, ι, q, fl, Kh, inv, hc, hQ => by
    have hall := fun i hi => cnt_zero hc i hi
    refine ⟨?_, ?_⟩
    · apply List.eq_nil_iff_forall_not_mem.2
      intro i hi
      rw [mem_ready] at hi
      obtain ⟨h1, o, ho, _⟩ := hi
      have hil := (Array.getElem?_eq_some_iff.1 ho).1
      have := hall i hil
      unfold Li at this
      have hsz : i < ls.size := by rw [inv.sz]; exact hil
      rw [Array.getD_eq_getD_getElem?] at h1 this
      simp [hsz] at h1 this
      rw [h1] at this; cases this
    · obtain ⟨h1, h2⟩ := inv.done ch hall
      exact hQ ι a w h1 h2
  | fuel + 1, ls, a, w, ι, q, fl, Kh, inv, hc, hQ => by
    refine ⟨fun hr => ?_, fun i hi => ?_⟩
    · obtain ⟨h1, h2⟩ := inv.done ch (inv.all ch hr)
      exact hQ ι a w h1 h2
    · rw [mem_ready] at hi
      obtain ⟨h1, o, ho, he⟩ := hi
      have hil := (Array.getElem?_eq_some_iff.1 ho).1
      have hun : ¬ Li ls i := by
        have hsz : i < ls.size := by rw [inv.sz]; exact hil
        unfold Li
        rw [Array.getD_eq_getD_getElem?] at h1 ⊢
        simp [hsz] at h1 ⊢; exact h1
      refine inv.run hC hcall hheap ch hil hun (fun o' ho' e he' hb => ?_) fun a' w' ι' q' fl' K' inv' => ?_
      · rw [ho] at ho'; cases ho'
        exact he e he' hb
      · exact draw_any fuel _ a' w' ι' q' fl' K' inv' (by have := cnt_set inv.sz hil hun; omega) hQ
end


omit [Env] in
theorem one_heap {call : CallA} (hheap : CallHeap call) {C : Ctx} {ops : Array Oper} {base i : Nat} {s s' : St} {f : Info} {o : Oper} {v : AV} {H' : Heap} (h : One C call ops base i s s' f o v H') (hlog : s.H.log = []) :
    s.H.next ≤ s'.H.next ∧ (∀ b, s.H.get b = none → s'.H.get b ≠ none → b = base + i ∨ (s.H.next ≤ b ∧ b < s'.H.next)) ∧ (∀ b, s.H.get b ≠ none → s'.H.get b ≠ none) ∧
    ∀ b, s.H.get b ≠ none → b ∉ f.wr → s'.H.get b = s.H.get b := by
  rcases h.how with ⟨_, _, rfl, hf⟩ | ⟨_, hev, hf⟩
  · exact ⟨by rw [h.next]; exact Nat.le_refl _, fun b hb hn => by rw [h.get] at hn; exact (hn hb).elim, fun b hb => by rw [h.get]; exact hb, fun b _ _ => h.get b⟩
  · have hr := evOp_heap hheap hev
    have hno3 : clsOf o ≠ 3 → ∀ b, s.H.get b ≠ none → H'.get b = s.H.get b := by
      intro hne
      have hc : clsOf o = 0 ∨ clsOf o = 1 ∨ clsOf o = 2 := by
        have : clsOf o ≤ 3 := by unfold clsOf; split <;> omega
        omega
      rcases hc with hc | hc | hc
      · obtain ⟨rfl, _⟩ := loc0 hc hev; exact fun _ _ => rfl
      · obtain ⟨ob, ha, _⟩ := loc1 hc hev
        obtain ⟨h0, rfl⟩ := Heap.add_eq ha
        exact fun b hb => by rw [Heap.get_put, if_neg (fun e => hb (by rw [e]; exact h0))]
      · obtain ⟨rfl, _⟩ := loc2 (base := base) (i := i) hc hev; exact fun _ _ => rfl
    refine ⟨by rw [h.next]; exact hr.next, fun b hb hn => by rw [h.get] at hn; rw [h.next]; exact hr.made b hb hn, fun b hb => by rw [h.get]; exact hr.keep b hb, fun b hb hn => ?_⟩
    rw [h.get]
    by_cases hc : clsOf o = 3
    · obtain ⟨l, e1, e2⟩ := hr.log
      rw [hlog, List.append_nil] at e1
      refine e2 b hb ?_
      rw [hf, hc] at hn
      simpa [e1] using hn
    · exact hno3 hc b hb

omit [Env] in
theorem evOpsD_heap {call : CallA} (hheap : CallHeap call) {C : Ctx} {ops : Array Oper} {base : Nat} : ∀ (l : List Nat) (s s' : St) (fs : List (Nat × Info)), evOpsD C call ops base l s = some (s', fs) → s.H.log = [] → (∀ i ∈ l, i < ops.size) →
    s.H.next ≤ s'.H.next ∧ (∀ b, s.H.get b = none → s'.H.get b ≠ none → (base ≤ b ∧ b < base + ops.size) ∨ (s.H.next ≤ b ∧ b < s'.H.next)) ∧ (∀ b, s.H.get b ≠ none → s'.H.get b ≠ none) ∧
    ∀ b, s.H.get b ≠ none → b ∉ fs.flatMap (fun x => x.2.wr) → s'.H.get b = s.H.get b
  | [], s, s', fs, h, _, _ => by
    simp only [evOpsD] at h; cases h
    exact ⟨Nat.le_refl _, fun b h k => (k h).elim, fun _ h => h, fun _ _ _ => rfl⟩
  | i :: l, s, s', fs, h, hlog, hlt => by
    simp only [evOpsD] at h
    split at h
    · rename_i s1 f e1
      split at h
      · rename_i s2 fs2 e2
        cases h
        obtain ⟨o, v, H', one⟩ := one_of e1
        obtain ⟨a1, a2, a3, a4⟩ := one_heap hheap one hlog
        obtain ⟨b1, b2, b3, b4⟩ := evOpsD_heap hheap l s1 _ fs2 e2 (one.log hlog) (fun j hj => hlt j (by simp [hj]))
        have hi := hlt i (by simp)
        refine ⟨Nat.le_trans a1 b1, fun b hb hn => ?_, fun b hb => b3 b (a3 b hb), fun b hb hn => ?_⟩
        · by_cases e : s1.H.get b = none
          · rcases b2 b e hn with q | q
            · exact .inl q
            · exact .inr ⟨Nat.le_trans a1 q.1, q.2⟩
          · rcases a2 b hb e with q | q
            · exact .inl (by omega)
            · exact .inr ⟨q.1, Nat.lt_of_lt_of_le q.2 b1⟩
        · simp only [List.flatMap_cons, List.mem_append, not_or] at hn
          rw [b4 b (a3 b hb) hn.2, a4 b hb hn.1]
      · cases h
    · cases h

omit [Env] in
theorem evOps_heap {call : CallA} (hheap : CallHeap call) {C : Ctx} {ops : Array Oper} {base n : Nat} : ∀ (l : List Oper) (i : Nat) (s s' : St), evOps C call ops base i l s = some s' → i + l.length ≤ n → HRel (fun b => base ≤ b ∧ b < base + n) s.H s'.H
  | [], i, s, s', h, _ => by simp only [evOps] at h; cases h; exact HRel.refl _
  | o :: l, i, s, s', h, hn => by
    simp only [List.length_cons] at hn
    simp only [evOps] at h
    split at h
    · cases h
    · split at h
      · rename_i s1 e1
        have k := (put_facts e1).1
        have := evOps_heap (n := n) hheap l (i + 1) s1 s' h (by omega)
        rw [k] at this; exact this
      · cases h
    · split at h
      · rename_i v H1 e1
        split at h
        · rename_i s1 e2
          have k := (put_facts e2).1
          have := evOps_heap (n := n) hheap l (i + 1) s1 s' h (by omega)
          rw [k] at this
          exact (evOp_heap hheap e1).trans (fun b hb => by omega) (fun _ h => h) this
        · cases h
      · cases h

omit [Env] in
theorem coin_heap {C : Ctx} {ops : Array Oper} {s s' : St} (h : coinA C ops s = some s') : HRel (fun _ => False) s.H s'.H := by
  obtain ⟨ta, tr, Hn, K1, K2, hc, e1, _, _⟩ := coin_of h
  obtain ⟨o, z, es, _, _, _, _, _, _, _, p8⟩ := hc.op0
  rw [e1, p8, hc.hn]
  refine ⟨show s.H.next ≤ s.H.next + 4 by omega, fun b hb hn => .inr ?_, ⟨[], rfl, fun b hb _ => ?_⟩, fun b hb => ?_⟩
  · rw [Heap.get_put] at hn
    by_cases e : b = s.H.next
    · show s.H.next ≤ b ∧ b < s.H.next + 4; omega
    · rw [if_neg e] at hn; exact (hn hb).elim
  · rw [Heap.get_put]
    by_cases e : b = s.H.next
    · rw [e] at hb; exact (hb hc.free).elim
    · rw [if_neg e]; rfl
  · rw [Heap.get_put]
    by_cases e : b = s.H.next
    · rw [if_pos e]; simp
    · rw [if_neg e]; exact hb

omit [Env] in
theorem evCode_heap {call : CallA} (hheap : CallHeap call) {C : Ctx} : ∀ n : Nat, (∀ (c : Code) (s : St) (x : X) (s' : St), evCode C call n c s = some (x, s') → HRel (fun _ => False) s.H s'.H) ∧
    (∀ (c : Code) (s : St) (x : X) (s' : St), evLoop C call n c s = some (x, s') → HRel (fun _ => False) s.H s'.H)
  | 0 => ⟨fun c s x s' h => by simp [evCode] at h, fun c s x s' h => by simp [evLoop] at h⟩
  | n + 1 => by
    obtain ⟨ihc, ihl⟩ := evCode_heap hheap (C := C) n
    refine ⟨fun c s x s' h => ?_, fun c s x s' h => ?_⟩
    · cases c <;> simp only [evCode] at h <;> try (cases h; done)
      case skip => cases h; exact HRel.refl _
      case label l => cases h; exact HRel.refl _
      case ret => cases h; exact HRel.refl _
      case exit id => cases h; exact HRel.refl _
      case region id ops draw =>
        cases draw with
        | false =>
          simp only at h
          split at h
          · rename_i s1 e1
            cases h
            have hr := evOps_heap hheap (n := ops.size) ops.toList 0 _ s' e1 (by simp)
            refine ⟨Nat.le_trans (Nat.le_add_right _ _) hr.next, fun b hb hn => .inr ?_, hr.log, hr.keep⟩
            have hnx : s.H.next + ops.size ≤ s'.H.next := hr.next
            rcases hr.made b hb hn with e | e
            · omega
            · have : s.H.next + ops.size ≤ b := e.1
              exact ⟨by omega, e.2⟩
          · cases h
        | true =>
          simp only at h
          split at h
          · rename_i s1 e1
            cases h
            exact coin_heap e1
          split at h
          · rename_i s1 e1
            cases h
            unfold evDraw at e1
            obtain ⟨hst, e1⟩ := bound_of_cond e1
            split at e1
            · rename_i s2 fs e2
              obtain ⟨_, e1⟩ := bound_of_cond e1
              cases e1
              have static := static_sound hst
              obtain ⟨b1, b2, b3, b4⟩ := evOpsD_heap hheap _ _ _ _ e2 rfl (fun i hi => by
                obtain ⟨p, hp⟩ := List.getElem?_of_mem hi
                exact static.lt p i hp)
              have b1' : s.H.next + ops.size ≤ s2.H.next := b1
              refine ⟨show s.H.next ≤ s2.H.next by omega, fun b hb hn => .inr ?_, ⟨_, rfl, fun b hb hn => b4 b hb hn⟩, fun b hb => b3 b hb⟩
              show s.H.next ≤ b ∧ b < s2.H.next
              rcases b2 b hb hn with e | e
              · omega
              · have : s.H.next + ops.size ≤ b := e.1
                exact ⟨by omega, e.2⟩
            · cases e1
          · cases h
      case seq b c =>
        split at h
        · rename_i s1 e1
          exact (ihc _ _ _ _ e1).trans (fun _ h => h) (fun _ h => h) (ihc _ _ _ _ h)
        · exact ihc _ _ _ _ h
      case cond x0 b c =>
        split at h
        · exact ihc _ _ _ _ h
        · exact ihc _ _ _ _ h
        · split at h
          · rename_i sa sb e1 e2
            split at h
            · rename_i s1 e3
              cases h
              unfold joinSt at e3
              split at e3
              · rename_i K e4
                cases e3
                exact (joinHeap_sound (ihc _ _ _ _ e1) (ihc _ _ _ _ e2) e4).2.2
              · cases e3
            · cases h
          · cases h
        · cases h
      case block id b =>
        split at h
        · rename_i i s1 e1
          cases h
          exact ihc _ _ _ _ e1
        · exact ihc _ _ _ _ h
      case loop b => exact ihl _ _ _ _ h
    · simp only [evLoop] at h
      split at h
      · rename_i s1 e1
        exact (ihc _ _ _ _ e1).trans (fun _ h => h) (fun _ h => h) (ihl _ _ _ _ h)
      · exact ihc _ _ _ _ h

omit [Env] in
theorem evFun_heap {C : Ctx} {prim : CallA} (hprim : CallHeap prim) : ∀ n, CallHeap (evFun C prim n)
  | 0 => fun H f args v H' h => by simp [evFun] at h
  | n + 1 => fun H f args v H' h => by
    simp only [evFun] at h
    split at h
    · rename_i r e1
      cases h
      exact hprim H f args v H' e1
    · split at h
      · split at h
        · obtain ⟨_, h⟩ := bound_of_cond h
          split at h
          · cases h
          · rename_i x s1 hno e5
            split at h
            · cases h
              have hr := (evCode_heap (evFun_heap hprim n) n).1 _ _ _ _ e5
              obtain ⟨l, h1, h2⟩ := hr.log
              refine ⟨hr.next, hr.made, ⟨_, rfl, fun b hb hn => ?_⟩, hr.keep⟩
              refine h2 b hb fun hm => hn ?_
              simp only at h1
              rw [List.append_nil] at h1
              rw [List.mem_filter]
              exact ⟨by rw [h1]; exact hm, by cases e : H.get b <;> simp_all⟩
            · cases h
          · cases h
        · cases h
      · cases h

section
variable {C : Ctx} {P : Program} (hC : C.Ok P)
include hC
theorem draw_sound {call : CallA} (hcall : CallSound P call) (hheap : CallHeap call) {id : Nat} {ops : Array Oper} {Q : Exit → Act → World → Prop} {ι : Map} {s s' : St} {a : Act} {w : World}
    (h : evDraw C call ops s = some s') (hs : SR ι s a w)
    (hQ : ∀ ι' a' w', Step Nope ι s.H w ι' s'.H w' → SR ι' s' a' w' → s'.N = s.N → Q .normal a' w') : (Code.region id ops true).wp P Q a w := by
  unfold evDraw at h
  obtain ⟨hst, h⟩ := bound_of_cond h
  split at h
  · rename_i s1 fs e1
    obtain ⟨hdyn, h⟩ := bound_of_cond h
    simp only [Bool.and_eq_true] at hdyn
    obtain ⟨hdyn, hloose⟩ := hdyn
    cases h
    have static := static_sound hst
    obtain ⟨S, F, h0, h1, h2⟩ := trace_of _ _ _ _ e1
    rw [static.len] at h1
    have hdyn' : ∀ (p i q j : Nat) (b : Nat), (orderOf ops)[p]? = some i → (orderOf ops)[q]? = some j → (F p).blk = some b → b ∈ (F q).wr → i = j ∨ BefP ops i j ∨ BefP ops j i := by
      intro p i q j b hp hq hb hm
      have m1 := (h2 p i hp).2
      have m2 := (h2 q j hq).2
      unfold dynOk at hdyn
      rw [List.all_eq_true] at hdyn
      have := hdyn _ m1
      rw [hb] at this
      simp only at this
      rw [List.all_eq_true] at this
      have := this _ m2
      have hc : (F q).wr.contains b = true := by simpa using hm
      simp only [hc, cond_true, Bool.or_eq_true, Tr.nbeq, decide_eq_true_eq] at this
      rcases this with h | h
      · exact .inl h
      · exact .inr (ordered_sound h)
    have hfar : ∀ (p i j : Nat), looseAt ops (masks ops) (orderOf ops) = some p → (orderOf ops)[p]? = some i → (orderOf ops)[p + 1]? = some j → farA (F p).st (F (p + 1)).st = true := by
      intro p i j hlo hp hq
      have m1 := (h2 p i hp).2
      have m2 := (h2 (p + 1) j hq).2
      have e1 := static.pos p i hp
      have e2 := static.pos (p + 1) j hq
      unfold looseDyn at hloose
      rw [hlo] at hloose
      simp only [List.all_eq_true] at hloose
      have := hloose _ m1 _ m2
      have hc : loosePair (orderOf ops) (some p) i j = true := by
        unfold loosePair
        simp only [e1, e2, Tr.nbeq, decide_true, Bool.and_self, Bool.true_or]
      simp only [hc, cond_true] at this
      exact this
    have ch : Chain C call ops s.H.next (orderOf ops) (looseAt ops (masks ops) (orderOf ops)) S F := ⟨static, fun p i hp => one_of (h2 p i hp).1, hdyn', hfar, by rw [h0], by rw [h0]; exact Nat.le_refl _⟩
    obtain ⟨q, n1, n2, n3, n4⟩ := next_eff ops (orderOf ops) static.len ops.size 0 (by omega)
    obtain ⟨k1, k2, _⟩ := ch.plain hheap n1 n2 n4
    have hfalse : ∀ i, ¬ Li (Array.replicate ops.size false) i := by
      intro i hl
      unfold Li at hl
      rw [Array.getD_eq_getD_getElem?] at hl
      by_cases e : i < ops.size
      · simp [e] at hl
      · simp [e] at hl
    have hw0 : WR ι s.H { w with drawn := w.drawn + 1 } := ⟨hs.wr.obj, hs.wr.apart, hs.wr.new, hs.wr.vis⟩
    have hget : ∀ b, ι b ≠ none → (S q).H.get b = s.H.get b := fun b hb => by
      cases e : ι b with
      | none => exact (hb e).elim
      | some l =>
        have hv := hs.wr.vis b l e
        have h00 : (S 0).H.get b = s.H.get b := by rw [h0]; rfl
        rw [ch.same hheap n1 n2 (by rw [h00]; exact hv) (fun r j r1 r2 hrj => by rw [ch.wrnil hrj (n4 r j r1 r2 hrj)]; simp), h00]
    have hnext : s.H.next ≤ (S q).H.next := by rw [k1, h0]; exact Nat.le_add_right _ _
    have hkeep : ∀ b, s.H.get b ≠ none → (S q).H.get b ≠ none := fun b hb => k2 b (by rw [h0]; exact hb)
    have inv : Inv C call ops s.H.next (orderOf ops) (looseAt ops (masks ops) (orderOf ops)) S F ι s.H { w with drawn := w.drawn + 1 } (Array.replicate ops.size false) a { w with drawn := w.drawn + 1 } ι q false (S q).H := by
      refine ⟨by simp, fun j o _ hl => (hfalse j hl).elim, n2, n3, fun p i hp hc => ?_, .inl ⟨rfl, rfl⟩, fun t k x hk hl hx => ?_, Step.heap hw0 hget hnext hkeep, fun i hi _ => hs.wr.new _ (Nat.le_add_right _ _), by rw [h0]; exact hs.size, hs.defers⟩
      · constructor
        · intro hl; exact (hfalse i hl).elim
        · rintro (hl | ⟨hl, _⟩)
          · exact (n4 p i (Nat.zero_le _) hl hp hc).elim
          · cases hl
      · have hno : ∀ r j, 0 ≤ r → r < k → (orderOf ops)[r]? = some j → dstAt ops j ≠ some t := fun r j _ r2 hrj hd => hfalse j ((hl r j hrj hd).2 r2)
        rw [ch.slot (Nat.zero_le _) hk hno, h0] at hx
        exact hs.tr t x hx
    have hcnt : cnt ops.size (Array.replicate ops.size false) = ops.size := by
      unfold cnt
      rw [List.countP_eq_length.2]
      · simp
      · intro i hi
        have : ¬ Li (Array.replicate ops.size false) i := hfalse i
        unfold Li at this
        simpa using this
    refine wp_region_any hC.mixed (draw_any hC hcall hheap ch ops.size _ a _ ι q false _ inv hcnt fun ι' a' w' q1 q2 => ?_)
    rw [h1] at q1 q2
    refine hQ ι' a' w' ?_ ⟨q2.wr.cast (HEq2.log _ _), q2.tr, q2.size, q2.defers⟩ ?_
    · have q3 := (Step.draw q1).cast (HEq2.refl _) (HEq2.log s1.H (fs.flatMap (fun x => x.2.wr) ++ s.H.log))
      exact { q3 with dom := fun b hb hn => .inr (by rcases q3.dom b hb hn with e | e <;> exact e) }
    · have := ch.N (Nat.le_refl _)
      rw [h1, h0] at this
      exact this
  · cases h

theorem coin_any {call : CallA} (hcall : CallSound P call) {ops : Array Oper} {ι0 : Map} {H0 Hn K1 K2 : Heap} {w0 : World} {T : Tr AV} {N ta tr base : Nat} {Q : Exit → Act → World → Prop} (hc : Coin C ops H0 N ta tr base Hn K1 K2) :
    ∀ (fuel : Nat) (ls : Array Bool) (K : Heap) (a : Act) (w : World) (ι : Map), CInv ι0 H0 Hn K1 K2 w0 T N ta tr base ls K a w ι → cnt ops.size ls = fuel →
    (∀ ι' a' w' K' ls', CInv ι0 H0 Hn K1 K2 w0 T N ta tr base ls' K' a' w' ι' → Li ls' 3 → Q .normal a' w') → wpAny P .any ops Q fuel ls a w := by
  have h4 := hc.size
  have rdy : ∀ {ls : Array Bool} {i : Nat}, ls.size = 4 → (i ∈ Region.ready .any ops ls ↔ ¬ Li ls i ∧ ∃ o, ops[i]? = some o ∧ ∀ j ∈ binding o, Li ls j) := fun {ls i} hs => by
    rw [mem_ready]
    constructor
    · rintro ⟨h1, o, ho, he⟩
      have hil := (Array.getElem?_eq_some_iff.1 ho).1
      refine ⟨?_, o, ho, fun j hj => ?_⟩
      · have hsz : i < ls.size := by omega
        unfold Li
        rw [Array.getD_eq_getD_getElem?] at h1 ⊢
        simp [hsz] at h1 ⊢; exact h1
      · obtain ⟨e, h2, h3, rfl⟩ := mem_binding.1 hj
        exact he e h2 h3
    · rintro ⟨h1, o, ho, he⟩
      have hil := (Array.getElem?_eq_some_iff.1 ho).1
      refine ⟨?_, o, ho, fun e h2 h3 => he e.on (mem_binding.2 ⟨e, h2, h3, rfl⟩)⟩
      have hsz : i < ls.size := by omega
      unfold Li at h1
      rw [Array.getD_eq_getD_getElem?] at h1 ⊢
      simp [hsz] at h1 ⊢; exact h1
  have all : ∀ {ls : Array Bool}, ls.size = 4 → Region.ready .any ops ls = [] → Li ls 3 := fun {ls} hs hr => by
    have no : ∀ i, i ∉ Region.ready .any ops ls := fun i => by rw [hr]; simp
    obtain ⟨o0, z, es, p1, _, _, p4, _⟩ := hc.op0
    have l0 : Li ls 0 := Classical.byContradiction fun h => no 0 ((rdy hs).2 ⟨h, o0, p1, fun j hj => (p4 j hj).elim⟩)
    have l12 : ∀ i, i = 1 ∨ i = 2 → Li ls i := fun i hi => by
      obtain ⟨o, t, b, q1, _, _, q4, _⟩ := hc.op12 i hi
      exact Classical.byContradiction fun h => no i ((rdy hs).2 ⟨h, o, q1, fun j hj => by rw [(q4 j).1 hj]; exact l0⟩)
    obtain ⟨o, q1, _, _, q4, _⟩ := hc.op3
    refine Classical.byContradiction fun h => no 3 ((rdy hs).2 ⟨h, o, q1, fun j hj => ?_⟩)
    rcases (q4 j).1 hj with rfl | rfl | rfl
    · exact l0
    · exact l12 1 (.inl rfl)
    · exact l12 2 (.inr rfl)
  intro fuel
  induction fuel with
  | zero =>
    intro ls K a w ι inv hcnt hQ
    have hall := fun i hi => cnt_zero hcnt i hi
    refine ⟨?_, hQ ι a w K ls inv (hall 3 (by omega))⟩
    apply List.eq_nil_iff_forall_not_mem.2
    intro i hi
    obtain ⟨h1, o, ho, _⟩ := (rdy inv.sz).1 hi
    exact h1 (hall i (Array.getElem?_eq_some_iff.1 ho).1)
  | succ fuel ih =>
    intro ls K a w ι inv hcnt hQ
    refine ⟨fun hr => hQ ι a w K ls inv (all inv.sz hr), fun i hi => ?_⟩
    obtain ⟨h1, o, ho, he⟩ := (rdy inv.sz).1 hi
    have hil := (Array.getElem?_eq_some_iff.1 ho).1
    refine inv.run hC hcall hc (by omega) h1 (fun o' ho' j hj => by rw [ho] at ho'; cases ho'; exact he j hj) fun a' w' ι' K' inv' => ?_
    exact ih _ K' a' w' ι' inv' (by have := cnt_set (n := ops.size) (by rw [inv.sz, h4]) hil h1; omega) hQ

theorem coin_sound {call : CallA} (hcall : CallSound P call) {id : Nat} {ops : Array Oper} {Q : Exit → Act → World → Prop} {ι : Map} {s s' : St} {a : Act} {w : World}
    (h : coinA C ops s = some s') (hs : SR ι s a w)
    (hQ : ∀ ι' a' w', Step Nope ι s.H w ι' s'.H w' → SR ι' s' a' w' → s'.N = s.N → Q .normal a' w') : (Code.region id ops true).wp P Q a w := by
  obtain ⟨ta, tr, Hn, K1, K2, hc, e1, e2, e3⟩ := coin_of h
  have h4 := hc.size
  have hfalse : ∀ i, ¬ Li (Array.replicate ops.size false) i := by
    intro i hl
    unfold Li at hl
    rw [Array.getD_eq_getD_getElem?] at hl
    by_cases e : i < ops.size
    · simp [e] at hl
    · simp [e] at hl
  have hw0 : WR ι s.H { w with drawn := w.drawn + 1 } := ⟨hs.wr.obj, hs.wr.apart, hs.wr.new, hs.wr.vis⟩
  have inv : CInv ι s.H Hn K1 K2 { w with drawn := w.drawn + 1 } s.T s.N ta tr s.H.next (Array.replicate ops.size false) Hn a { w with drawn := w.drawn + 1 } ι := by
    refine ⟨by simp [h4], fun h => (hfalse _ h).elim, fun h => (hfalse _ h).elim, fun h => (hfalse _ h).elim, fun _ => rfl, fun h => (hfalse _ h).elim, fun h => (hfalse _ h).elim, ?_, fun t x _ _ hx => hs.tr t x hx, fun h => (hfalse _ h).elim, fun h => (hfalse _ h).elim, fun j _ _ => hs.wr.new _ (by omega), hs.size, hs.defers⟩
    rw [hc.hn]
    exact Step.heap hw0 (fun _ _ => rfl) (show s.H.next ≤ s.H.next + 4 by omega) (fun _ h => h)
  have hcnt : cnt ops.size (Array.replicate ops.size false) = ops.size := by
    unfold cnt
    rw [List.countP_eq_length.2]
    · simp
    · intro i hi
      have : ¬ Li (Array.replicate ops.size false) i := hfalse i
      unfold Li at this
      simpa using this
  refine wp_region_any hC.mixed (coin_any hC hcall hc ops.size _ _ a _ ι inv hcnt fun ι' a' w' K' ls' inv' h3 => ?_)
  obtain ⟨l1, l2⟩ := inv'.c3 h3
  have hK := inv'.k2 l1 l2
  subst hK
  have hst := inv'.st
  refine hQ ι' a' w' ?_ ⟨by rw [e1]; exact hst.wr, fun t x hx => ?_, by rw [inv'.asz, e2], inv'.df⟩ e2
  · rw [e1]
    have q := Step.draw hst
    exact { q with dom := fun b hb hn => .inr (by rcases q.dom b hb hn with e | e <;> exact e) }
  · rw [e3, Tr.get_set] at hx
    by_cases k1 : t = tr
    · rw [if_pos k1] at hx; cases hx; rw [k1]; exact inv'.tvr h3
    · rw [if_neg k1, Tr.get_set] at hx
      by_cases k2 : t = ta
      · rw [if_pos k2] at hx; cases hx; rw [k2]; exact inv'.tva (inv'.c1 l1)
      · rw [if_neg k2] at hx; exact inv'.tm t x k2 k1 hx

theorem evCode_sound {call : CallA} (hcall : CallSound P call) (hheap : CallHeap call) : ∀ n : Nat,
    (∀ (c : Code) (s : St) (x : X) (s' : St) (ι : Map) (a : Act) (w : World) (Q : Exit → Act → World → Prop), evCode C call n c s = some (x, s') → SR ι s a w →
      (∀ ι' a' w', Step Nope ι s.H w ι' s'.H w' → SR ι' s' a' w' → s'.N = s.N → Q x.toExit a' w') → c.wp P Q a w) ∧
    (∀ (c : Code) (s : St) (x : X) (s' : St) (ι : Map) (a : Act) (w : World) (Q : Exit → Act → World → Prop), evLoop C call n c s = some (x, s') → SR ι s a w →
      (∀ ι' a' w', Step Nope ι s.H w ι' s'.H w' → SR ι' s' a' w' → s'.N = s.N → Q x.toExit a' w') → Code.rounds P c Q n a w)
  | 0 => ⟨fun c s x s' ι a w Q h => by simp [evCode] at h, fun c s x s' ι a w Q h => by simp [evLoop] at h⟩
  | n + 1 => by
    obtain ⟨ihc, ihl⟩ := evCode_sound hcall hheap n
    have step : ∀ (b : Code) (s1 : St) (ι1 : Map) (a1 : Act) (w1 : World) (Q : Exit → Act → World → Prop) (x : X) (s' : St), SR ι1 s1 a1 w1 → evCode C call n b s1 = some (x, s') →
        (∀ ι' a' w', Step Nope ι1 s1.H w1 ι' s'.H w' → SR ι' s' a' w' → s'.N = s1.N → Q x.toExit a' w') → b.wp P Q a1 w1 :=
      fun b s1 ι1 a1 w1 Q x s' h1 h2 h3 => ihc b s1 x s' ι1 a1 w1 Q h2 h1 h3
    refine ⟨fun c s x s' ι a w Q h hs hQ => ?_, fun c s x s' ι a w Q h hs hQ => ?_⟩
    · cases c <;> simp only [evCode] at h <;> try (cases h; done)
      case skip => cases h; exact wp_skip (hQ ι a w (Step.refl hs.wr) hs rfl)
      case label l => cases h; exact wp_label (hQ ι a w (Step.refl hs.wr) hs rfl)
      case ret => cases h; exact wp_ret (hQ ι a w (Step.refl hs.wr) hs rfl)
      case exit id => cases h; exact wp_exit (hQ ι a w (Step.refl hs.wr) hs rfl)
      case region id ops draw =>
        cases draw with
        | false =>
          simp only at h
          split at h
          · rename_i s1 e1
            cases h
            exact region_sound hC hcall e1 hs hQ
          · cases h
        | true =>
          simp only at h
          split at h
          · rename_i s1 e1
            cases h
            exact coin_sound hC hcall e1 hs hQ
          split at h
          · rename_i s1 e1
            cases h
            exact draw_sound hC hcall hheap e1 hs hQ
          · cases h
      case seq b c =>
        split at h
        · rename_i s1 e1
          refine wp_seq (step b s ι a w _ .normal s1 hs e1 fun ι1 a1 w1 h1 h2 h3 => ?_)
          refine step c s1 ι1 a1 w1 Q x s' h2 h fun ι' a' w' k1 k2 k3 => ?_
          exact hQ ι' a' w' (h1.trans (fun _ h => h) (fun _ h => h) k1) k2 (k3.trans h3)
        · rename_i hno
          refine wp_seq (step b s ι a w _ x s' hs h fun ι1 a1 w1 h1 h2 h3 => ?_)
          cases x with
          | normal => exact absurd h (hno s')
          | exit id => exact hQ ι1 a1 w1 h1 h2 h3
          | ret => exact hQ ι1 a1 w1 h1 h2 h3
      case cond x0 b c =>
        split at h
        · rename_i e1
          have hb := ev_sound hs.tr e1
          simp only [VR] at hb
          exact wp_cond_true hb (step b s ι a w Q x s' hs h hQ)
        · rename_i e1
          have hb := ev_sound hs.tr e1
          simp only [VR] at hb
          exact wp_cond_false hb (step c s ι a w Q x s' hs h hQ)
        · rename_i e1
          have hb := ev_sound hs.tr e1
          simp only [VR] at hb
          obtain ⟨bb, hb⟩ := hb
          split at h
          · rename_i sa sb e2 e3
            split at h
            · rename_i s1 e4
              cases h
              unfold joinSt at e4
              split at e4
              · rename_i K e5
                cases e4
                obtain ⟨kA, kB, _⟩ := joinHeap_sound ((evCode_heap hheap (C := C) n).1 _ _ _ _ e2) ((evCode_heap hheap (C := C) n).1 _ _ _ _ e3) e5
                cases bb with
                | true =>
                  have hs1 : SR ι { s with H := { s.H with next := s.H.next + (aheadIn c - aheadIn b), log := [] } } a w := ⟨hs.wr.heap (fun _ _ => rfl) (Nat.le_add_right _ _), hs.tr, hs.size, hs.defers⟩
                  refine wp_cond_true hb (step b _ ι a w Q .normal sa hs1 e2 fun ι' a' w' k1 k2 k3 => hQ ι' a' w' ?_ (k2.less kA k3.symm fun t y hy => (Tr.meet_get hy).1) rfl)
                  have k4 := k1.less hs1.wr.vis kA
                  exact ⟨k4.ext, k4.wr, Nat.le_trans (Nat.le_add_right _ _) k4.next, fun b hb hn => (k4.dom b hb hn).imp id (fun h => Nat.le_trans (Nat.le_add_right _ _) h), k4.keep, k4.junk, k4.os, k4.tape, k4.output, k4.size, k4.frame, k4.fresh⟩
                | false =>
                  have hs1 : SR ι { s with H := { s.H with log := [] } } a w := ⟨hs.wr.heap (fun _ _ => rfl) (Nat.le_refl _), hs.tr, hs.size, hs.defers⟩
                  refine wp_cond_false hb (step c _ ι a w Q .normal sb hs1 e3 fun ι' a' w' k1 k2 k3 => hQ ι' a' w' ?_ (k2.less kB k3.symm fun t y hy => (Tr.meet_get hy).2) rfl)
                  exact (k1.less hs1.wr.vis kB).cast (HEq2.log' s.H []) (HEq2.refl _)
              · cases e4
            · cases h
          · cases h
        · cases h
      case block id b =>
        split at h
        · rename_i i s1 e1
          cases h
          refine wp_block (step b s ι a w _ (.exit i) _ hs e1 fun ι1 a1 w1 h1 h2 h3 => ?_)
          have hq := hQ ι1 a1 w1 h1 h2 h3
          simp only [X.toExit, Exit.inBlock]
          cases q : Nat.beq i id with
          | true => simp only [q, cond_true, X.toExit] at hq; simp only [Tr.nbeq, decide_eq_true_eq] at q; rw [if_pos q]; exact hq
          | false => simp only [q, cond_false, X.toExit] at hq; simp only [Tr.nbeq, decide_eq_false_iff_not] at q; rw [if_neg q]; exact hq
        · rename_i hno
          refine wp_block (step b s ι a w _ x s' hs h fun ι1 a1 w1 h1 h2 h3 => ?_)
          cases x with
          | normal => exact hQ ι1 a1 w1 h1 h2 h3
          | exit id => exact absurd h (hno id s')
          | ret => exact hQ ι1 a1 w1 h1 h2 h3
      case loop b => exact wp_loop_rounds n (ihl b s x s' ι a w Q h hs hQ)
    · simp only [evLoop] at h
      rw [rounds_succ]
      split at h
      · rename_i s1 e1
        refine step c s ι a w _ .normal s1 hs e1 fun ι1 a1 w1 h1 h2 h3 => ?_
        refine ihl c s1 x s' ι1 a1 w1 Q h h2 fun ι' a' w' k1 k2 k3 => ?_
        exact hQ ι' a' w' (h1.trans (fun _ h => h) (fun _ h => h) k1) k2 (k3.trans h3)
      · rename_i hno
        refine step c s ι a w _ x s' hs h fun ι1 a1 w1 h1 h2 h3 => ?_
        cases x with
        | normal => exact absurd h (hno s')
        | exit id => exact hQ ι1 a1 w1 h1 h2 h3
        | ret => exact hQ ι1 a1 w1 h1 h2 h3

omit hC
omit [Env] in
theorem enterT_get : ∀ (vs : List AV) (i : Nat) (T : Tr AV) (t : Nat), (enterT i vs T).get t = if i ≤ t ∧ t < i + vs.length then vs[t - i]? else T.get t
  | [], i, T, t => by rw [if_neg (by simp only [List.length_nil]; omega)]; rfl
  | v :: vs, i, T, t => by
    simp only [enterT]
    rw [enterT_get vs (i + 1), Tr.get_set]
    by_cases e : i + 1 ≤ t ∧ t < i + 1 + vs.length
    · rw [if_pos e, if_pos (by simp; omega)]
      have : t - i = (t - (i + 1)) + 1 := by omega
      rw [this]; simp
    · rw [if_neg e]
      by_cases e2 : t = i
      · subst e2; simp
      · rw [if_neg e2, if_neg (by simp; omega)]

def resOne (tmps : Array Value) : ResultVar → Sem Value
  | .tmp t => pure (tmps.getD t undef)
  | .cell b t => do loadVar t (← asAddr (tmps.getD b undef))
omit [Env] in
theorem results_eq (fn : Func) (tmps : Array Value) : results fn tmps = (do let vs ← fn.results.mapM (resOne tmps); pure (if h : vs.size = 1 then vs[0] else .tuple vs)) := rfl
include hC
theorem result_sound {ι : Map} {s : St} {a : Act} {w : World} (hs : SR ι s a w) {r : ResultVar} {v : AV} (h : resultA C s r = some v) :
    ∃ v', (resOne a.tmps r).run P w = .ok v' w ∧ VR ι v v' := by
  cases r with
  | tmp t =>
    simp only [resultA] at h
    obtain ⟨u, hu, q⟩ := hs.tr t v h
    exact ⟨u, by simp [resOne, hu], q⟩
  | cell b t =>
    simp only [resultA] at h
    split at h
    · rename_i p e1
      obtain ⟨u, hu, q⟩ := hs.tr b p e1
      obtain ⟨v', h1, h2⟩ := load_sound hC hs.wr q h
      cases p <;> simp only [evLoad] at h <;> try (cases h; done)
      obtain ⟨ad, rfl⟩ := q.ptr_inv
      refine ⟨v', ?_, h2⟩
      simp only [Instr.loadAt, Instr.sureAddr, Sem.run_bind, Sem.run_pure, Result.andThen_ok] at h1
      simp [resOne, hu, asAddr, h1]
    · cases h
theorem results_sound {ι : Map} {s : St} {a : Act} {w : World} (hs : SR ι s a w) (fn : Func) {vs : List AV} (h : resultsA C s fn.results.toList = some vs) :
    ∃ v', (results fn a.tmps).run P w = .ok v' w ∧ VR ι (shut vs) v' := by
  have key : ∀ (rs : List ResultVar) (vs : List AV), resultsA C s rs = some vs → ∃ vs', (rs.mapM (resOne a.tmps)).run P w = .ok vs' w ∧ VRs ι vs vs' := by
    intro rs
    induction rs with
    | nil => intro vs h; simp only [resultsA] at h; cases h; exact ⟨[], by simp, VRs_nil⟩
    | cons r rs ih =>
      intro vs h
      simp only [resultsA] at h
      split at h
      · rename_i v vs2 e1 e2
        cases h
        obtain ⟨v', h1, h2⟩ := result_sound hC hs e1
        obtain ⟨vs', h3, h4⟩ := ih vs2 e2
        exact ⟨v' :: vs', by simp only [List.mapM_cons, Sem.run_bind, h1, h3, Result.andThen_ok, Sem.run_pure], VRs_cons h2 h4⟩
      · cases h
  obtain ⟨vs', h1, h2⟩ := key fn.results.toList vs h
  have hl := h2.len
  rw [results_eq, Array.mapM_eq_mapM_toList]
  simp only [Sem.run_bind, Sem.run_map, h1, Result.andThen_ok, Sem.run_pure]
  refine ⟨_, rfl, ?_⟩
  match vs, vs', h2, hl with
  | [], vs', h2, hl =>
    have : vs' = [] := List.eq_nil_of_length_eq_zero (by simpa using hl)
    subst this
    simp only [shut, VR]; exact ⟨[], VRs_nil, by simp⟩
  | [v], [v'], h2, hl =>
    simp only [VRs] at h2
    obtain ⟨y, ys, hy, hys, e⟩ := h2
    cases e
    simpa [shut] using hy
  | v :: u :: vs, vs', h2, hl =>
    simp only [shut, VR]
    refine ⟨vs', h2, ?_⟩
    rw [dif_neg (by simp; simp at hl; omega)]

theorem evFun_sound {prim : CallA} (hprim : CallSound P prim) (hph : CallHeap prim) : ∀ n, CallSound P (evFun C prim n)
  | 0 => fun H f args v H' h => by simp [evFun] at h
  | n + 1 => fun H f args v H' h => by
    simp only [evFun] at h
    split at h
    · rename_i r e1
      cases h
      exact hprim H f args v H' e1
    · split at h
      · rename_i fn e2
        split at h
        · rename_i code e3
          cases e4 : Nat.ble args.length fn.ntmps with
          | false => rw [e4] at h; cases h
          | true =>
            rw [e4] at h
            simp only [cond_true] at h
            have hfn := hC.fn f fn e2
            refine ⟨⟨fn, hfn, by rw [e3]; rfl, hC.name f fn e2⟩, fun ι w args' hw ha => ?_⟩
            have hl := ha.len
            simp only [Nat.ble_eq] at e4
            have hs0 : SR ι { T := enterT 0 args .nil, N := fn.ntmps, H := { H with log := [] } } { tmps := args'.toArray ++ Array.replicate (fn.ntmps - args'.toArray.size) undef, defers := [] } w := by
              refine ⟨hw.cast (HEq2.log H []), ?_, by simp; omega, rfl⟩
              intro t x ht
              simp only at ht
              rw [enterT_get] at ht
              by_cases q : 0 ≤ t ∧ t < 0 + args.length
              · rw [if_pos q] at ht
                obtain ⟨u, hu, r⟩ := ha.get ht
                have : t < args'.length := by omega
                exact ⟨u, by simp only; rw [Array.getElem?_append_left (by simpa using this)]; simpa using hu, r⟩
              · rw [if_neg q] at ht; cases ht
            refine calls_of_wp hfn e3 ?_
            split at h
            · cases h
            · rename_i x s1 hno e5
              split at h
              · rename_i vs e6
                cases h
                refine (evCode_sound hC (evFun_sound hprim hph n) (evFun_heap hph n) n).1 code _ x s1 ι _ w _ e5 hs0 fun ι' a' w' k1 k2 k3 => ?_
                obtain ⟨v', h1, h2⟩ := results_sound hC k2 fn e6
                cases x with
                | normal => exact ⟨k2.defers, v', h1, v', ι', rfl, h2, k1.cast (HEq2.log' H []) (HEq2.log _ _)⟩
                | exit id => exact (hno id rfl).elim
                | ret => exact ⟨k2.defers, v', h1, v', ι', rfl, h2, k1.cast (HEq2.log' H []) (HEq2.log _ _)⟩
              · cases h
            · cases h
        · cases h
      · cases h
end
end Go.Ev
