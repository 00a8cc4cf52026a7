import Derived.Test.YtcbdmlpfepdblaaGreatDoorEvG
/-! Memos whose patterns leave cells open ('any'): such a cell fits any value of one cell. -/
namespace Go.Ev
noncomputable section
open Go Go.RowKit

mutual
def fitV (σ : Nat → Option Nat) (τ : Nat → Exp) : AV → AV → Bool
  | .any, y => y.flat
  | .agg xs, y => (match y with | .agg ys => fitVs σ τ xs ys | _ => false)
  | x, y => (match x.ren σ τ with | some z => z.beq y | none => false)
def fitVs (σ : Nat → Option Nat) (τ : Nat → Exp) : List AV → List AV → Bool
  | [], [] => true
  | x :: xs, y :: ys => fitV σ τ x y && fitVs σ τ xs ys
  | _, _ => false
end
section
variable {E : Env} {σ : Nat → Option Nat} {τ : Nat → Exp} {ιp ι : Map} (hσ : ∀ b q, σ b = some q → ιp b = ι q)
include hσ
theorem fit_ren {x y : AV} {v : Value} (h : (match x.ren σ τ with | some z => z.beq y | none => false) = true) (hv : @VR E ι y v) : @VR (E.sub τ) ιp x v := by
  split at h
  · rename_i z e
    rw [← AV.beq_sound h] at hv
    exact (ren_iff hσ e).2 hv
  · cases h
mutual
theorem fitV_sound : ∀ {x y : AV} {v : Value}, fitV σ τ x y = true → @VR E ι y v → @VR (E.sub τ) ιp x v
  | .any, y, v, h, hv => by simp only [fitV] at h; simp only [VR]; exact @VR.flat E _ _ _ hv h
  | .agg xs, y, v, h, hv => by
    cases y <;> simp only [fitV] at h <;> try (cases h; done)
    simp only [VR] at hv ⊢
    obtain ⟨cs', h1, h2⟩ := hv
    exact ⟨cs', fitVs_sound h h1, h2⟩
  | .bool b, y, v, h, hv => fit_ren hσ (by simpa only [fitV] using h) hv
  | .int k n, y, v, h, hv => fit_ren hσ (by simpa only [fitV] using h) hv
  | .sx k e, y, v, h, hv => fit_ren hσ (by simpa only [fitV] using h) hv
  | .str s, y, v, h, hv => fit_ren hσ (by simpa only [fitV] using h) hv
  | .sxs l, y, v, h, hv => fit_ren hσ (by simpa only [fitV] using h) hv
  | .ptr0, y, v, h, hv => fit_ren hσ (by simpa only [fitV] using h) hv
  | .ptr b o, y, v, h, hv => fit_ren hσ (by simpa only [fitV] using h) hv
  | .sl0, y, v, h, hv => fit_ren hσ (by simpa only [fitV] using h) hv
  | .sl b o n, y, v, h, hv => fit_ren hσ (by simpa only [fitV] using h) hv
  | .map0, y, v, h, hv => fit_ren hσ (by simpa only [fitV] using h) hv
  | .map b, y, v, h, hv => fit_ren hσ (by simpa only [fitV] using h) hv
  | .fn f a c, y, v, h, hv => fit_ren hσ (by simpa only [fitV] using h) hv
  | .nilfn, y, v, h, hv => fit_ren hσ (by simpa only [fitV] using h) hv
  | .iface t x, y, v, h, hv => fit_ren hσ (by simpa only [fitV] using h) hv
  | .nilif, y, v, h, hv => fit_ren hσ (by simpa only [fitV] using h) hv
  | .tup vs, y, v, h, hv => fit_ren hσ (by simpa only [fitV] using h) hv
  | .anyb, y, v, h, hv => fit_ren hσ (by simpa only [fitV] using h) hv
  | .pan x, y, v, h, hv => fit_ren hσ (by simpa only [fitV] using h) hv
  | .yld b, y, v, h, hv => fit_ren hσ (by simpa only [fitV] using h) hv
theorem fitVs_sound : ∀ {xs ys : List AV} {vs : List Value}, fitVs σ τ xs ys = true → @VRs E ι ys vs → @VRs (E.sub τ) ιp xs vs
  | [], [], vs, _, hv => by have _u := hσ; simp only [VRs] at hv ⊢; exact hv
  | [], _ :: _, vs, h, hv => by simp only [fitVs] at h; cases h
  | _ :: _, [], vs, h, hv => by simp only [fitVs] at h; cases h
  | x :: xs, y :: ys, vs, h, hv => by
    simp only [fitVs, Bool.and_eq_true] at h
    simp only [VRs] at hv ⊢
    obtain ⟨a, as, h1, h2, h3⟩ := hv
    exact ⟨a, as, fitV_sound h.1 h1, fitVs_sound h.2 h2, h3⟩
end
omit hσ in
theorem fitVs_len : ∀ {xs ys : List AV}, fitVs σ τ xs ys = true → ys.length = xs.length
  | [], [], _ => rfl
  | [], _ :: _, h => by simp only [fitVs] at h; cases h
  | _ :: _, [], h => by simp only [fitVs] at h; cases h
  | x :: xs, y :: ys, h => by simp only [fitVs, Bool.and_eq_true] at h; simp [fitVs_len h.2]
omit hσ in
theorem fitVs_get : ∀ {xs ys : List AV} {i : Nat} {x y : AV}, fitVs σ τ xs ys = true → xs[i]? = some x → ys[i]? = some y → fitV σ τ x y = true
  | [], _, i, x, y, h, hx, hy => by simp at hx
  | _ :: _, [], i, x, y, h, hx, hy => by simp at hy
  | x0 :: xs, y0 :: ys, i, x, y, h, hx, hy => by
    simp only [fitVs, Bool.and_eq_true] at h
    cases i with
    | zero => simp at hx hy; subst hx hy; exact h.1
    | succ i => simp at hx hy; exact fitVs_get (i := i) h.2 hx hy
theorem mr_fit : ∀ {cs ds : List AV} {es : List MapEntry}, fitVs σ τ cs ds = true → @MR E ι ds es → @MR (E.sub τ) ιp cs es
  | [], [], es, _, hm => hm
  | [], _ :: _, es, h, _ => by simp only [fitVs] at h; cases h
  | _ :: _, [], es, h, _ => by simp only [fitVs] at h; cases h
  | [_], [_], es, _, hm => hm.elim
  | [_], _ :: _ :: _, es, h, _ => by simp only [fitVs, Bool.and_eq_true] at h; exact absurd h.2 (by simp)
  | _ :: _ :: _, [_], es, h, _ => by simp only [fitVs, Bool.and_eq_true] at h; exact absurd h.2 (by simp)
  | x :: y :: cs, a :: b :: ds, es, h, hm => by
    simp only [fitVs, Bool.and_eq_true] at h
    obtain ⟨e, es', h1, h2, h3, h4⟩ := hm
    exact ⟨e, es', h1, fitV_sound hσ h.1 h2, fitV_sound hσ h.2.1 h3, mr_fit h.2.2 h4⟩
theorem cells_fit {w : World} {l : Loc} {o a : Obj} (h : fitVs σ τ o.cs a.cs = true) (hes : a.es = o.es) (hc : @CellsR E ι w l a) : @CellsR (E.sub τ) ιp w l o := by
  have hl := fitVs_len h
  obtain ⟨c, et, lo, hi, h1, h2, h3, h4, h5, h6⟩ := hc
  refine ⟨c, et, lo, hi, h1, h2, h3, by rw [← hes]; exact h4, by rw [← hl]; exact h5, fun i x hx => ?_⟩
  have hi : i < a.cs.length := by have := (List.getElem?_eq_some_iff.1 hx).1; omega
  obtain ⟨v, hv, r⟩ := h6 i a.cs[i] (by simp [hi])
  exact ⟨v, hv, fitV_sound hσ (fitVs_get h hx (by simp [hi])) r⟩
theorem map_fit {w : World} {l : Loc} {o a : Obj} (h : fitVs σ τ o.cs a.cs = true) (hm : @MapR E ι w l a) : @MapR (E.sub τ) ιp w l o := by
  obtain ⟨es, clock, h1, h2⟩ := hm
  exact ⟨es, clock, h1, mr_fit hσ h h2⟩
end
/-- an object of the pattern, and the one that stands for it -/
def FitW (σ : Nat → Option Nat) (τ : Nat → Exp) (o a : Obj) : Prop := fitVs σ τ o.cs a.cs = true ∧ a.es = o.es ∧ ((o.kind = .old ∧ a.kind.isMap = false) ∨ (o.kind = .free ∧ a.kind = .free) ∨ (o.kind = .map ∧ a.kind = .map))
theorem FitW.blk {E : Env} {σ : Nat → Option Nat} {τ : Nat → Exp} {ιp ι : Map} (hσ : ∀ b q, σ b = some q → ιp b = ι q) {w : World} {l : Loc} {o a : Obj} (h : FitW σ τ o a) (hb : @Blk E ι w l a) : @Blk (E.sub τ) ιp w l o := by
  obtain ⟨h1, h2, h3⟩ := h
  rcases h3 with ⟨k1, k2⟩ | ⟨k1, k2⟩ | ⟨k1, k2⟩
  · exact @Blk.of_cells (E.sub τ) _ _ _ _ (by rw [k1]; rfl) (cells_fit hσ h1 h2 (@Blk.cells E _ _ _ _ hb k2))
  · exact @Blk.of_cells (E.sub τ) _ _ _ _ (by rw [k1]; rfl) (cells_fit hσ h1 h2 (@Blk.cells E _ _ _ _ hb (by rw [k2]; rfl)))
  · exact @Blk.of_map (E.sub τ) _ _ _ _ (by rw [k1]; rfl) (map_fit hσ h1 (@Blk.map E _ _ _ _ hb (by rw [k2]; rfl)))

/-- the small heap lies in the other one -/
structure FitsW (σ : Nat → Option Nat) (τ : Nat → Exp) (Hp H : Heap) : Prop where
  obj : ∀ p o, Hp.get p = some o → ∃ q a, σ p = some q ∧ H.get q = some a ∧ FitW σ τ o a
  dom : ∀ p q, σ p = some q → Hp.get p ≠ none ∧ p < Hp.next ∧ q < H.next
  inj : ∀ p p' q, σ p = some q → σ p' = some q → p = p'

theorem FitsW.wr {σ : Nat → Option Nat} {τ : Nat → Exp} {Hp H : Heap} (hf : FitsW σ τ Hp H) {E : Env} {ι : Map} {w : World} (hw : @WR E ι H w) : @WR (E.sub τ) (fun p => (σ p).bind ι) Hp w := by
  have hσ : ∀ b q, σ b = some q → (fun p => (σ p).bind ι) b = ι q := fun b q h => by simp [h]
  have key : ∀ p l o, (σ p).bind ι = some l → Hp.get p = some o → ∃ q a, σ p = some q ∧ ι q = some l ∧ H.get q = some a ∧ FitW σ τ o a := fun p l o h ho => by
    obtain ⟨q, a, h1, h2, h3⟩ := hf.obj p o ho
    rw [h1] at h
    exact ⟨q, a, h1, h, h2, h3⟩
  have old : ∀ (o a : Obj), FitW σ τ o a → a.kind.isFree = false → o.kind = .old := fun o a h hk => by
    rcases h.2.2 with ⟨k, _⟩ | ⟨_, k⟩ | ⟨_, k⟩
    · exact k
    · rw [k] at hk; cases hk
    · rw [k] at hk; cases hk
  refine @WR.mk (E.sub τ) _ _ _ (fun p l o h ho => ?_) (fun p1 p2 l1 l2 o1 o2 hne e1 e2 g1 g2 heq => ?_) (fun p hp => ?_) (fun p l h => ?_) (fun p l h => by cases h)
  · obtain ⟨q, a, h1, h2, h3, h4⟩ := key p l o h ho
    exact h4.blk hσ (hw.obj q l a h2 h3)
  · obtain ⟨q1, a1, h1, h2, h3, h4⟩ := key p1 l1 o1 e1 g1
    obtain ⟨q2, a2, k1, k2, k3, k4⟩ := key p2 l2 o2 e2 g2
    obtain ⟨r1, r2, _⟩ := hw.apart q1 q2 l1 l2 a1 a2 (fun e => hne (hf.inj p1 p2 q1 h1 (by rw [e]; exact k1))) h2 k2 h3 k3 heq
    rw [old o1 a1 h4 r1, old o2 a2 k4 r2]
    exact ⟨rfl, rfl, fun h => by cases h⟩
  · show (σ p).bind ι = none
    cases e : σ p with
    | none => rfl
    | some q => have := (hf.dom p q e).2.1; omega
  · have h' : (σ p).bind ι = some l := h
    cases e : σ p with
    | none => rw [e] at h'; cases h'
    | some q => exact (hf.dom p q e).1

theorem memo_stepW {σ σ' : Nat → Option Nat} {τ : Nat → Exp} {Hp Hp' H K : Heap} (hf : FitsW σ τ Hp H) (hb : Back σ σ' τ Hp Hp' H K) {E : Env} {ι ιq : Map} {w w' : World} (hw : @WR E ι H w)
    (st : @Step (E.sub τ) (fun _ => False) (fun p => (σ p).bind ι) Hp w ιq Hp' w') :
    ∃ ι', (∀ p q, σ' p = some q → ιq p = ι' q) ∧ @Step E (fun _ => False) ι H w ι' K w' := by
  obtain ⟨sext, ⟨wobj, wapart, wnew, wvis, _⟩, snext, sdom, skeep, sjunk, sos, stape, soutput, ssize, sstay, sframe, sfresh⟩ := st
  have hlow : ∀ p q, p < Hp.next → σ p = some q → ιq p = ι q := fun p q hp e => by
    have hb' : (σ p).bind ι = ι q := by simp [e]
    cases g : ι q with
    | some l => exact sext p l (show (σ p).bind ι = some l by rw [hb']; exact g)
    | none =>
      cases g2 : ιq p with
      | none => rfl
      | some l2 =>
        rcases sdom p (by rw [hb']; exact g) (by rw [g2]; simp) with h | h
        · exact h.elim
        · omega
  refine ⟨fun b => if b < H.next then ι b else if σ' (b - H.next + Hp.next) = some b then ιq (b - H.next + Hp.next) else none, ?_⟩
  generalize hι : (fun b => if b < H.next then ι b else if σ' (b - H.next + Hp.next) = some b then ιq (b - H.next + Hp.next) else none) = ι'
  have i1 : ∀ b, b < H.next → ι' b = ι b := fun b h => by rw [← hι]; simp [h]
  have i2 : ∀ b, H.next ≤ b → ι' b = if σ' (b - H.next + Hp.next) = some b then ιq (b - H.next + Hp.next) else none := fun b h => by
    rw [← hι]; simp only; rw [if_neg (by omega)]
  have hσ' : ∀ p q, σ' p = some q → ιq p = ι' q := fun p q e => by
    by_cases hp : p < Hp.next
    · have e' := e
      rw [hb.low p hp] at e'
      rw [i1 q (hf.dom p q e').2.2]
      exact hlow p q hp e'
    · have hq := hb.new p q (by omega) e
      rw [i2 q (by omega), show q - H.next + Hp.next = p by omega, if_pos e]
  refine ⟨hσ', ?_⟩
  have hext : Ext ι ι' := fun b l h => by
    have : b < H.next := by
      apply Classical.byContradiction
      intro h2
      rw [hw.new b (by omega)] at h; cases h
    rw [i1 b this]; exact h
  -- outside
  have outside : ∀ b l o, ι' b = some l → H.get b = some o → (∀ p, σ' p = some b → p < Hp.next ∧ ∀ o0, Hp.get p = some o0 → o0.kind.isOld = true) →
      ι b = some l ∧ w'.heap[l.blk]? = w.heap[l.blk]? ∧ ∀ p0 l0 o0, (σ p0).bind ι = some l0 → Hp.get p0 = some o0 → o0.kind.isOld = false → l0.blk ≠ l.blk := by
    intro b l o hl ho hp
    have hlt : b < H.next := by
      apply Classical.byContradiction
      intro h2
      rw [i2 b (by omega)] at hl
      split at hl
      · rename_i e
        have := (hp _ e).1
        omega
      · cases hl
    rw [i1 b hlt] at hl
    have hB := hw.obj b l o hl ho
    have apart : ∀ p0 l0 o0, (σ p0).bind ι = some l0 → Hp.get p0 = some o0 → o0.kind.isOld = false → l0.blk ≠ l.blk := by
      intro p0 l0 o0 h1 h2 h3 heq
      obtain ⟨q, a, k1, k2, k3⟩ := hf.obj p0 o0 h2
      rw [k1] at h1
      have hne : q ≠ b := fun e => by
        have := (hp p0 (by rw [hb.low p0 (hf.dom p0 q k1).2.1, k1, e])).2 o0 h2
        rw [h3] at this; cases this
      have hfree := (hw.apart q b l0 l a o hne h1 hl k2 ho heq).1
      rcases k3.2.2 with ⟨k, _⟩ | ⟨_, k⟩ | ⟨_, k⟩
      · rw [k] at h3; cases h3
      · rw [k] at hfree; cases hfree
      · rw [k] at hfree; cases hfree
    exact ⟨hl, sframe l.blk (@Blk.lt E _ _ _ _ hB) apart, apart⟩
  -- what the call made or had to itself lies apart from the outside
  have away : ∀ p1 l1 b l o, ιq p1 = some l1 → (p1 < Hp.next → ∃ o0, Hp.get p1 = some o0 ∧ o0.kind.isOld = false) → ι' b = some l → H.get b = some o → (∀ p, σ' p = some b → p < Hp.next ∧ ∀ o0, Hp.get p = some o0 → o0.kind.isOld = true) → l1.blk ≠ l.blk := by
    intro p1 l1 b l o h1 hex hl ho hp heq
    obtain ⟨k1, _, k3⟩ := outside b l o hl ho hp
    have hB := @Blk.lt E _ _ _ _ (hw.obj b l o k1 ho)
    cases hιp : (σ p1).bind ι with
    | some l0 =>
      have hlt : p1 < Hp.next := by
        cases e : σ p1 with
        | none => rw [e] at hιp; cases hιp
        | some q => exact (hf.dom p1 q e).2.1
      obtain ⟨o0, g1, g2⟩ := hex hlt
      have : ιq p1 = some l0 := sext p1 l0 hιp
      rw [h1] at this; cases this
      exact k3 p1 l1 o0 hιp g1 g2 heq
    | none =>
      rcases sfresh p1 l1 hιp h1 with h | ⟨p0, l0, o0, g1, g2, g3, g4⟩
      · omega
      · exact k3 p0 l0 o0 g1 g2 g3 (g4.trans heq)
  refine @Step.mk E _ _ _ _ _ _ _ hext ?_ (by rw [hb.next]; omega) (fun b h1 h2 => .inr ?_) hb.keep (fun b l h _ => hw.vis b l h) sos stape soutput ssize (fun b l o o' h1 h2 h3 => ?_) (fun c hc h => sframe c hc fun p0 l0 o0 h1 h2 h3 => ?_) (fun b l h1 h2 => ?_)
  · refine @WR.mk E _ _ _ (fun b l o h ho => ?_) (fun b1 b2 l1 l2 o1 o2 hne e1 e2 g1 g2 heq => ?_) (fun b h => ?_) (fun b l h => ?_) (fun b l h => hext b l (hw.glob b l h))
    · rcases hb.get b o ho with ⟨p, op, k1, k2, k3, _⟩ | ⟨k1, k2⟩
      · exact k3.blk hσ' (wobj p l op (by rw [hσ' p b k1]; exact h) k2)
      · obtain ⟨r1, r2, _⟩ := outside b l o h k1 k2
        exact @Blk.mono E _ _ _ _ _ _ (hw.obj b l o r1 k1) hext r2
    · rcases hb.get b1 o1 g1 with ⟨p1, op1, k1, k2, k3, k4⟩ | ⟨k1, k2⟩
      · rcases hb.get b2 o2 g2 with ⟨p2, op2, j1, j2, j3, j4⟩ | ⟨j1, j2⟩
        · obtain ⟨r1, r2, r3⟩ := wapart p1 p2 l1 l2 op1 op2 (fun e => by rw [e, j1] at k1; cases k1; exact hne rfl) (by rw [hσ' p1 b1 k1]; exact e1) (by rw [hσ' p2 b2 j1]; exact e2) k2 j2 heq
          obtain ⟨a1, _, a3, _⟩ := k3
          obtain ⟨c1, _, c3, _⟩ := j3
          rw [a3, c3, rens_len a1, rens_len c1]
          exact ⟨r1, r2, r3⟩
        · exact (away p1 l1 b2 l2 o2 (by rw [hσ' p1 b1 k1]; exact e1) k4 e2 j1 j2 heq).elim
      · rcases hb.get b2 o2 g2 with ⟨p2, op2, j1, j2, j3, j4⟩ | ⟨j1, j2⟩
        · exact (away p2 l2 b1 l1 o1 (by rw [hσ' p2 b2 j1]; exact e2) j4 e1 k1 k2 heq.symm).elim
        · exact hw.apart b1 b2 l1 l2 o1 o2 hne (outside b1 l1 o1 e1 k1 k2).1 (outside b2 l2 o2 e2 j1 j2).1 k1 j1 heq
    · rw [hb.next] at h
      rw [i2 b (by omega)]
      split
      · rename_i e
        exact wnew _ (by have := snext; omega)
      · rfl
    · by_cases hlt : b < H.next
      · rw [i1 b hlt] at h; exact hb.keep b (hw.vis b l h)
      · rw [i2 b (by omega)] at h
        split at h
        · rename_i e; exact hb.out _ b (by omega) e
        · cases h
  · apply Classical.byContradiction
    intro hlt
    exact h2 (by rw [i1 b (by omega)]; exact h1)
  · rcases hb.get b o' h3 with ⟨p, op, k1, k2, k3, k4⟩ | ⟨k1, _⟩
    · have hlt : p < Hp.next := by
        apply Classical.byContradiction
        intro hge
        have := hb.new p b (by omega) k1
        rw [hw.new b (by omega)] at h1; cases h1
      obtain ⟨o0, g1, g2⟩ := k4 hlt
      obtain ⟨q, a, m1, m2, m3⟩ := hf.obj p o0 g1
      rw [hb.low p hlt, m1] at k1; cases k1
      rw [h2] at m2; cases m2
      rcases m3.2.2 with ⟨k, _⟩ | ⟨_, k⟩ | ⟨_, k⟩
      · rw [k] at g2; cases g2
      · rw [k]; exact ⟨(fun h => by cases h), (fun h => by cases h)⟩
      · rw [k]; exact ⟨(fun h => by cases h), (fun h => by cases h)⟩
    · rw [h2] at k1; cases k1
      exact ⟨fun h => h, fun h => h⟩
  · obtain ⟨q, a, k1, k2, k3⟩ := hf.obj p0 o0 h2
    have h1' : (σ p0).bind ι = some l0 := h1
    rw [k1] at h1'
    refine h q l0 a h1' k2 ?_
    rcases k3.2.2 with ⟨k, _⟩ | ⟨_, k⟩ | ⟨_, k⟩
    · rw [k] at h3; cases h3
    · rw [k]; rfl
    · rw [k]; rfl
  · by_cases hlt : b < H.next
    · rw [i1 b hlt, h1] at h2; cases h2
    · rw [i2 b (by omega)] at h2
      split at h2
      · have hnone : (σ (b - H.next + Hp.next)).bind ι = none := by
          cases e : σ (b - H.next + Hp.next) with
          | none => rfl
          | some q => have := (hf.dom _ q e).2.1; omega
        rcases sfresh _ l hnone h2 with h | ⟨p0, l0, o0, g1, g2, g3, g4⟩
        · exact .inl h
        · obtain ⟨q, a, k1, k2, k3⟩ := hf.obj p0 o0 g2
          have g1' : (σ p0).bind ι = some l0 := g1
          rw [k1] at g1'
          refine .inr ⟨q, l0, a, g1', k2, ?_, g4⟩
          rcases k3.2.2 with ⟨k, _⟩ | ⟨_, k⟩ | ⟨_, k⟩
          · rw [k] at g3; cases g3
          · rw [k]; rfl
          · rw [k]; rfl
      · cases h2

theorem memo_useW {P : Program} {f : FuncId} {σ σ' : Nat → Option Nat} {τ : Nat → Exp} {Hp Hp' H K : Heap} {E : Env} {pargs args : List AV} {v y : AV}
    (hc : ∀ (ι : Map) (w : World) (args' : List Value), @WR (E.sub τ) ι Hp w → @VRs (E.sub τ) ι pargs args' → Calls P f args'.toArray w fun e w' => ∃ ι', @EndsAs (E.sub τ) ι' v e ∧ @Step (E.sub τ) (fun _ => False) ι Hp w ι' Hp' w')
    (hf : FitsW σ τ Hp H) (hb : Back σ σ' τ Hp Hp' H K) (ha : fitVs σ τ pargs args = true) (hv : v.ren σ' τ = some y) (ι : Map) (w : World) (args' : List Value) (hw : @WR E ι H w) (hargs : @VRs E ι args args') :
    Calls P f args'.toArray w fun e w' => ∃ ι', @EndsAs E ι' y e ∧ @Step E (fun _ => False) ι H w ι' K w' := by
  refine (hc _ w args' (hf.wr hw) (fitVs_sound (ιp := fun p => (σ p).bind ι) (fun b q h => by simp [h]) ha hargs)).mono ?_
  rintro e w' ⟨ιq, h1, h2⟩
  obtain ⟨ι', k1, k2⟩ := memo_stepW hf hb hw h2
  exact ⟨ι', ends_ren k1 hv h1, k2⟩
def fitW (σ : Nat → Option Nat) (τ : Nat → Exp) (o a : Obj) : Bool := fitVs σ τ o.cs a.cs && Nat.beq a.es o.es && fitK o.kind a.kind
def fitsW (σ : Nat → Option Nat) (τ : Nat → Exp) (I : Nat → Option Nat) (m : Memo) (H : Heap) (pairs : List (Nat × Nat)) : Bool :=
  (m.ps.all fun po => match σ po.1 with | some q => (match H.get q with | some a => fitW σ τ po.2 a | none => false) | none => false) &&
  (pairs.all fun pq => (m.heap.get pq.1).isSome && Nat.blt pq.1 m.pn && Nat.blt pq.2 H.next && (match I pq.2 with | some p => Nat.beq p pq.1 | none => false))

theorem fitW_sound {σ : Nat → Option Nat} {τ : Nat → Exp} {o a : Obj} (h : fitW σ τ o a = true) : FitW σ τ o a := by
  simp only [fitW, Bool.and_eq_true, Tr.nbeq, decide_eq_true_eq] at h
  refine ⟨h.1.1, h.1.2, ?_⟩
  have hk := h.2
  unfold fitK at hk
  split at hk
  · rename_i e; exact .inl ⟨e, by simpa using hk⟩
  · rename_i e
    split at hk
    · rename_i e2; exact .inr (.inl ⟨e, e2⟩)
    · cases hk
  · rename_i e
    split at hk
    · rename_i e2; exact .inr (.inr ⟨e, e2⟩)
    · cases hk
  · cases hk
theorem fitsW_sound {τ : Nat → Exp} {I : Nat → Option Nat} {m : Memo} {H : Heap} {pairs : List (Nat × Nat)} (h : fitsW (Tr.tab pairs).get τ I m H pairs = true) : FitsW (Tr.tab pairs).get τ m.heap H := by
  simp only [fitsW, Bool.and_eq_true, List.all_eq_true] at h
  obtain ⟨h1, h2⟩ := h
  have hp : ∀ p q, (Tr.tab pairs).get p = some q → m.heap.get p ≠ none ∧ p < m.pn ∧ q < H.next ∧ I q = some p := fun p q e => by
    have := h2 _ (Tr.tab_mem e)
    simp only [Nat.blt_eq] at this
    obtain ⟨⟨⟨a1, a2⟩, a3⟩, a4⟩ := this
    refine ⟨(fun e => by rw [e] at a1; cases a1), a2, a3, ?_⟩
    split at a4
    · rename_i p' e'; rw [e', Nat.eq_of_beq_eq_true a4]
    · cases a4
  refine ⟨fun p o ho => ?_, fun p q e => ⟨(hp p q e).1, (hp p q e).2.1, (hp p q e).2.2.1⟩, fun p p' q e e' => ?_⟩
  · have := h1 _ (Tr.tab_mem (show (Tr.tab m.ps).get p = some o from ho))
    simp only at this
    split at this
    · rename_i q e
      split at this
      · rename_i a ea; exact ⟨q, a, e, ea, fitW_sound this⟩
      · cases this
    · cases this
  · have a := (hp p q e).2.2.2
    rw [(hp p' q e').2.2.2] at a
    cases a; rfl

/-- a memo, looked up -/
def Memo.endW (m : Memo) (τ : Nat → Exp) (H : Heap) (σ : Nat → Option Nat) : Option (AV × Heap) :=
  match putAll σ τ m.outs { H with next := H.next + (m.hi - m.pn) } with
  | some K => (match m.v.ren σ τ with | some y => some (y, K) | none => none)
  | none => none
def Memo.useW (m : Memo) (orc : BinOp → Exp → Exp → Option Bool) (H : Heap) (args : List AV) (τ : Nat → Exp) (pairs : List (Nat × Nat)) (S : Tr Nat) : Option (AV × Heap) :=
  cond (fitVs S.get τ m.args args && fitsW S.get τ (Tr.tab (pairs.map fun pq => (pq.2, pq.1))).get m H pairs && m.facts.all (factOk orc τ))
    (m.endW τ H (newOf m.pn H.next m.outs S).get) none
def Memo.findW (m : Memo) (orc : BinOp → Exp → Exp → Option Bool) (H : Heap) (args : List AV) : Option (AV × Heap) :=
  let t := bindAll H m.ps (AV.binds m.args args (.nil, .nil))
  m.useW orc H args (fun i => match t.2.get i with | some e => e | none => .var i) (pairsOf t.1 m.ps) (Tr.tab (pairsOf t.1 m.ps))
def memoW (orc : BinOp → Exp → Exp → Option Bool) : List Memo → CallA
  | [], _, _, _ => none
  | m :: ms, H, f, args => cond (Nat.beq f m.f) (match m.findW orc H args with
    | some r => some r
    | none => memoW orc ms H f args) (memoW orc ms H f args)

theorem Memo.backW {m : Memo} (hs : m.static = true) {Hp' H K : Heap} (hn : Hp'.next = m.hi) (ho : ∀ po, po ∈ m.outs → Hp'.get po.1 = some po.2) {τ : Nat → Exp} {S : Tr Nat} (hf : FitsW S.get τ m.heap H)
    (hp : putAll (newOf m.pn H.next m.outs S).get τ m.outs { H with next := H.next + (m.hi - m.pn) } = some K) : Back S.get (newOf m.pn H.next m.outs S).get τ m.heap Hp' H K := by
  obtain ⟨h1, h2, h3, h4, _⟩ := putAll_get hp
  simp only [Memo.static, Bool.and_eq_true, List.all_eq_true] at hs
  obtain ⟨s1, s2⟩ := hs
  have hout : ∀ p q, m.pn ≤ p → (newOf m.pn H.next m.outs S).get p = some q → q = H.next + (p - m.pn) ∧ ∃ o, (p, o) ∈ m.outs := fun p q hge e => by
    rcases newOf_new m.outs S p q hge e with h | h
    · exact h
    · have := (hf.dom p q h).2.1
      have : p < m.pn := this
      omega
  refine ⟨by rw [h1, hn]; rfl, fun p hlt => newOf_low _ _ _ hlt, fun p q hge e => (hout p q hge e).1, fun b o hb => ?_, fun b hb => h3 b hb, fun p q hge e => ?_⟩
  · rcases h2 b o hb with ⟨po, m1, m2, m3, m4, m5⟩ | ⟨m1, m2⟩
    · have hq := s2 po m1
      simp only [Bool.or_eq_true, Bool.not_eq_true'] at hq
      refine .inl ⟨po.1, po.2, m2, ho po m1, ⟨m3, m4, m5, hq.1.1⟩, fun hlt => ?_⟩
      have hlt' : Nat.blt po.1 m.pn = true := by rw [Nat.blt_eq]; exact hlt
      rcases hq.2 with h | h
      · rw [hlt'] at h; cases h
      · split at h
        · rename_i o0 e0; exact ⟨o0, e0, by simpa using h⟩
        · cases h
    · refine .inr ⟨m1, fun p e => ?_⟩
      have hlt : p < m.pn := by
        apply Classical.byContradiction
        intro hge
        obtain ⟨_, o, h⟩ := hout p b (by omega) e
        exact m2 _ h e
      refine ⟨hlt, fun o0 h0 => ?_⟩
      have hq := s1 _ (Tr.tab_mem (show (Tr.tab m.ps).get p = some o0 from h0))
      simp only [Bool.or_eq_true] at hq
      rcases hq with h | h
      · exact h
      · exfalso
        cases e2 : (Tr.tab m.outs).get p with
        | none => rw [e2] at h; cases h
        | some o2 => exact m2 _ (Tr.tab_mem e2) e
  · obtain ⟨_, o, h⟩ := hout p q hge e
    exact h4 _ h q e

theorem memoW_sound {P : Program} {E : Env} {orc : BinOp → Exp → Exp → Option Bool} (horc : ∀ o a b r, orc o a b = some r → cmpVal o (@Exp.eval E a) (@Exp.eval E b) = r) {D : Env → Prop} (hD : ∀ τ, D (E.sub τ)) :
    ∀ {ms : List Memo}, (∀ m, m ∈ ms → m.Ok P D) → @CallSound E P (memoW orc ms)
  | [], _ => fun H f args v H' h => by simp [memoW] at h
  | m :: ms, hm => fun H f args v H' h => by
    have ih := memoW_sound horc hD (ms := ms) (fun x hx => hm x (List.mem_cons_of_mem _ hx)) H f args v H'
    simp only [memoW] at h
    cases e : Nat.beq f m.f with
    | false => rw [e] at h; exact ih h
    | true =>
      rw [e] at h
      simp only [cond_true] at h
      split at h
      · rename_i r e1
        cases h
        have hfe := Nat.eq_of_beq_eq_true e
        subst hfe
        obtain ⟨hs, hfn, Hp', hn, ho, hc⟩ := hm m (by simp)
        refine ⟨hfn, fun ι w args' hw ha => ?_⟩
        simp only [Memo.findW, Memo.useW] at e1
        obtain ⟨hch, e1⟩ := bound_of_cond e1
        simp only [Bool.and_eq_true, List.all_eq_true] at hch
        obtain ⟨⟨c1, c2⟩, c3⟩ := hch
        unfold Memo.endW at e1
        split at e1
        · rename_i K eK
          split at e1
          · rename_i y ey
            cases e1
            have hf := fitsW_sound c2
            exact memo_useW (hc _ (hD _) fun x hx => factOk_sound horc (c3 x hx)) hf (Memo.backW hs hn ho hf eK) c1 ey ι w args' hw ha
          · cases e1
        · cases e1
      · exact ih h
theorem memoW_heap {orc : BinOp → Exp → Exp → Option Bool} : ∀ {ms : List Memo}, (∀ m, m ∈ ms → m.static = true) → CallHeap (memoW orc ms)
  | [], _ => fun H f args v H' h => by simp [memoW] at h
  | m :: ms, hm => fun H f args v H' h => by
    have ih := memoW_heap (orc := orc) (ms := ms) (fun x hx => hm x (List.mem_cons_of_mem _ hx)) H f args v H'
    simp only [memoW] at h
    cases e : Nat.beq f m.f with
    | false => rw [e] at h; exact ih h
    | true =>
      rw [e] at h
      simp only [cond_true] at h
      split at h
      · rename_i r e1
        cases h
        simp only [Memo.findW, Memo.useW] at e1
        obtain ⟨hch, e1⟩ := bound_of_cond e1
        unfold Memo.endW at e1
        split at e1
        · rename_i K eK
          split at e1
          · rename_i y ey
            cases e1
            obtain ⟨h1, h2, h3, h4, bs, h5, h6⟩ := putAll_get eK
            refine ⟨by rw [h1]; exact Nat.le_add_right _ _, fun b hb hn => .inr ?_, ⟨bs, h5, fun b _ hb => h6 b hb⟩, h3⟩
            cases eb : H'.get b with
            | none => exact (hn eb).elim
            | some o =>
              simp only [Bool.and_eq_true, List.all_eq_true] at hch
              have hf := fitsW_sound hch.1.2
              have hs := hm m (by simp)
              simp only [Memo.static, Bool.and_eq_true, List.all_eq_true] at hs
              rcases h2 b o eb with ⟨po, m1, m2, _⟩ | ⟨m1, _⟩
              · have hq := (hs.2 po m1).1.2
                rw [Nat.blt_eq] at hq
                have hno : ∀ p, (Tr.tab (pairsOf (bindAll H m.ps (AV.binds m.args args (Tr.nil, Tr.nil))).1 m.ps)).get p ≠ some b := fun p e2 => by
                  cases e3 : m.heap.get p with
                  | none => exact (hf.dom p b e2).1 e3
                  | some o3 =>
                    obtain ⟨q, a, k1, k2, _⟩ := hf.obj p o3 e3
                    rw [e2] at k1; cases k1
                    rw [hb] at k2; cases k2
                by_cases hlt : po.1 < m.pn
                · rw [newOf_low _ _ _ hlt] at m2
                  exact (hno _ m2).elim
                · rcases newOf_new _ _ _ _ (by omega) m2 with ⟨k1, _⟩ | k1
                  · rw [h1]
                    show H.next ≤ b ∧ b < H.next + (m.hi - m.pn)
                    omega
                  · exact (hno _ k1).elim
              · have m1' : H.get b = some o := m1
                rw [hb] at m1'; cases m1'
          · cases e1
        · cases e1
      · exact ih h
end
end Go.Ev
