import Derived.Test.YtcbdmlpfepdblaaGreatDoorEvC
import Derived.Test.YtcbdmlpfepdblaaGreatDoorEvF
import Derived.Lib.AppendIntMem
import Derived.Lib.ItoaMem
import Derived.Lib.LaidTab
/-! What an evaluation says in another place: blocks by other numbers, unknown numbers by expressions. -/
namespace Go.Ev
noncomputable section
open Go Go.RowKit

def Exp.sub (τ : Nat → Exp) : Exp → Exp
  | .var i => τ i
  | .lit n => .lit n
  | .op o k a b => .mk o k (a.sub τ) (b.sub τ)
  | .sh o k a n => .sh o k (a.sub τ) n
  | .conv k a => .mkConv k (a.sub τ)
/-- the unknown numbers, as another place has them -/
abbrev Env.sub (E : Env) (τ : Nat → Exp) : Env := ⟨fun i => @Exp.eval E (τ i), fun _ => none⟩
theorem Exp.eval_sub (E : Env) (τ : Nat → Exp) : ∀ e : Exp, @Exp.eval E (e.sub τ) = @Exp.eval (E.sub τ) e
  | .var i => rfl
  | .lit n => rfl
  | .op o k a b => by simp only [Exp.sub, Exp.eval_mk, Exp.eval]; rw [Exp.eval_sub E τ a, Exp.eval_sub E τ b]
  | .sh o k a n => by simp only [Exp.sub, Exp.eval]; rw [Exp.eval_sub E τ a]
  | .conv k a => by simp only [Exp.sub, Exp.eval_mkConv, Exp.eval]; rw [Exp.eval_sub E τ a]

/-- a number that is known after all -/
def sxOf (k : IntKind) : Exp → AV
  | .lit n => .int k n
  | e => .sx k e
theorem sxOf_vr (E : Env) {ι : Map} {k : IntKind} {e : Exp} {v : Value} : @VR E ι (sxOf k e) v ↔ v = .int k (@Exp.eval E e) := by
  cases e <;> simp only [sxOf, VR, Exp.eval]

mutual
def AV.ren (σ : Nat → Option Nat) (τ : Nat → Exp) : AV → Option AV
  | .bool b => some (.bool b)
  | .int k n => some (.int k n)
  | .sx k e => some (sxOf k (e.sub τ))
  | .str s => some (.str s)
  | .sxs l => some (mkS (l.map (Exp.sub τ)))
  | .ptr0 => some .ptr0
  | .ptr b o => (match σ b with | some q => some (.ptr q o) | none => none)
  | .sl0 => some .sl0
  | .sl b o n => (match σ b with | some q => some (.sl q o n) | none => none)
  | .map0 => some .map0
  | .map b => (match σ b with | some q => some (.map q) | none => none)
  | .fn f a c => (match AV.rens σ τ a, AV.rens σ τ c with | some a', some c' => some (.fn f a' c') | _, _ => none)
  | .nilfn => some .nilfn
  | .iface t v => (match AV.ren σ τ v with | some v' => some (.iface t v') | none => none)
  | .nilif => some .nilif
  | .agg cs => (match AV.rens σ τ cs with | some cs' => some (.agg cs') | none => none)
  | .tup cs => (match AV.rens σ τ cs with | some cs' => some (.tup cs') | none => none)
  | .any => some .any
  | .anyb => some .anyb
  | .pan v => (match AV.ren σ τ v with | some v' => some (.pan v') | none => none)
  | .yld b => (match σ b with | some q => some (.yld q) | none => none)
def AV.rens (σ : Nat → Option Nat) (τ : Nat → Exp) : List AV → Option (List AV)
  | [] => some []
  | x :: xs => (match AV.ren σ τ x, AV.rens σ τ xs with | some y, some ys => some (y :: ys) | _, _ => none)
end

section
variable {E : Env} {σ : Nat → Option Nat} {τ : Nat → Exp} {ιp ι : Map} (hσ : ∀ b q, σ b = some q → ιp b = ι q)
include hσ
mutual
theorem ren_iff : ∀ {x y : AV} {v : Value}, x.ren σ τ = some y → (@VR (E.sub τ) ιp x v ↔ @VR E ι y v)
  | .bool b, y, v, h => by simp only [AV.ren] at h; cases h; simp only [VR]
  | .int k n, y, v, h => by simp only [AV.ren] at h; cases h; simp only [VR]
  | .sx k e, y, v, h => by simp only [AV.ren] at h; cases h; rw [sxOf_vr, Exp.eval_sub]; simp only [VR]
  | .str s, y, v, h => by simp only [AV.ren] at h; cases h; simp only [VR]
  | .sxs l, y, v, h => by
    simp only [AV.ren] at h; cases h
    rw [@mkS_vr E]; simp only [VR, List.map_map]
    have : @Exp.byte E ∘ Exp.sub τ = @Exp.byte (E.sub τ) := funext fun e => by
      show @Exp.byte E (e.sub τ) = _
      unfold Exp.byte; rw [Exp.eval_sub]
    rw [this]
  | .ptr0, y, v, h => by simp only [AV.ren] at h; cases h; simp only [VR]
  | .ptr b o, y, v, h => by
    simp only [AV.ren] at h; split at h
    · rename_i q e; cases h; simp only [VR]; rw [hσ b q e]
    · cases h
  | .sl0, y, v, h => by simp only [AV.ren] at h; cases h; simp only [VR]
  | .sl b o n, y, v, h => by
    simp only [AV.ren] at h; split at h
    · rename_i q e; cases h; simp only [VR]; rw [hσ b q e]
    · cases h
  | .map0, y, v, h => by simp only [AV.ren] at h; cases h; simp only [VR]
  | .map b, y, v, h => by
    simp only [AV.ren] at h; split at h
    · rename_i q e; cases h; simp only [VR]; rw [hσ b q e]
    · cases h
  | .fn f a c, y, v, h => by
    simp only [AV.ren] at h; split at h
    · rename_i a' c' e1 e2
      cases h; simp only [VR]
      constructor
      · rintro ⟨p, q, h1, h2, h3⟩; exact ⟨p, q, (rens_iff e1).1 h1, (rens_iff e2).1 h2, h3⟩
      · rintro ⟨p, q, h1, h2, h3⟩; exact ⟨p, q, (rens_iff e1).2 h1, (rens_iff e2).2 h2, h3⟩
    · cases h
  | .nilfn, y, v, h => by simp only [AV.ren] at h; cases h; simp only [VR]
  | .iface t x, y, v, h => by
    simp only [AV.ren] at h; split at h
    · rename_i x' e1
      cases h; simp only [VR]
      constructor
      · rintro ⟨p, h1, h2⟩; exact ⟨p, (ren_iff e1).1 h1, h2⟩
      · rintro ⟨p, h1, h2⟩; exact ⟨p, (ren_iff e1).2 h1, h2⟩
    · cases h
  | .nilif, y, v, h => by simp only [AV.ren] at h; cases h; simp only [VR]
  | .agg cs, y, v, h => by
    simp only [AV.ren] at h; split at h
    · rename_i x' e1
      cases h; simp only [VR]
      constructor
      · rintro ⟨p, h1, h2⟩; exact ⟨p, (rens_iff e1).1 h1, h2⟩
      · rintro ⟨p, h1, h2⟩; exact ⟨p, (rens_iff e1).2 h1, h2⟩
    · cases h
  | .tup cs, y, v, h => by
    simp only [AV.ren] at h; split at h
    · rename_i x' e1
      cases h; simp only [VR]
      constructor
      · rintro ⟨p, h1, h2⟩; exact ⟨p, (rens_iff e1).1 h1, h2⟩
      · rintro ⟨p, h1, h2⟩; exact ⟨p, (rens_iff e1).2 h1, h2⟩
    · cases h
  | .any, y, v, h => by simp only [AV.ren] at h; cases h; simp only [VR]
  | .anyb, y, v, h => by simp only [AV.ren] at h; cases h; simp only [VR]
  | .pan x, y, v, h => by
    simp only [AV.ren] at h; split at h
    · cases h; simp only [VR]
    · cases h
  | .yld b, y, v, h => by
    simp only [AV.ren] at h; split at h
    · rename_i q e; cases h; simp only [VR]; rw [hσ b q e]
    · cases h
theorem rens_iff : ∀ {xs ys : List AV} {vs : List Value}, AV.rens σ τ xs = some ys → (@VRs (E.sub τ) ιp xs vs ↔ @VRs E ι ys vs)
  | [], ys, vs, h => by have _u := hσ; simp only [AV.rens] at h; cases h; simp only [VRs]
  | x :: xs, ys, vs, h => by
    simp only [AV.rens] at h; split at h
    · rename_i y ys' e1 e2
      cases h; simp only [VRs]
      constructor
      · rintro ⟨p, q, h1, h2, h3⟩; exact ⟨p, q, (ren_iff e1).1 h1, (rens_iff e2).1 h2, h3⟩
      · rintro ⟨p, q, h1, h2, h3⟩; exact ⟨p, q, (ren_iff e1).2 h1, (rens_iff e2).2 h2, h3⟩
    · cases h
end
theorem ends_ren {v y : AV} {e : Ending} (h : v.ren σ τ = some y) (he : @EndsAs (E.sub τ) ιp v e) : @EndsAs E ι y e := by
  cases v with
  | pan x =>
    simp only [AV.ren] at h; split at h
    · rename_i x' e1
      cases h
      obtain ⟨p, h1, h2⟩ := he
      exact ⟨p, h1, (ren_iff hσ e1).1 h2⟩
    · cases h
  | _ =>
    obtain ⟨p, rfl, h2⟩ := he
    exact EndsAs.of ((ren_iff hσ h).1 h2)
omit hσ in
theorem rens_len : ∀ {xs ys : List AV}, AV.rens σ τ xs = some ys → ys.length = xs.length
  | [], ys, h => by simp only [AV.rens] at h; cases h; rfl
  | x :: xs, ys, h => by
    simp only [AV.rens] at h; split at h
    · rename_i y ys' e1 e2; cases h; simp [rens_len e2]
    · cases h
omit hσ in
theorem rens_get : ∀ {xs ys : List AV} {i : Nat} {x y : AV}, AV.rens σ τ xs = some ys → xs[i]? = some x → ys[i]? = some y → x.ren σ τ = some y
  | [], ys, i, x, y, h, hx, hy => by simp at hx
  | x0 :: xs, ys, i, x, y, h, hx, hy => by
    simp only [AV.rens] at h; split at h
    · rename_i y0 ys' e1 e2
      cases h
      cases i with
      | zero => simp at hx hy; subst hx hy; exact e1
      | succ i => simp at hx hy; exact rens_get (i := i) e2 hx hy
    · cases h
theorem mr_ren : ∀ {cs ds : List AV} {es : List MapEntry}, AV.rens σ τ cs = some ds → (@MR (E.sub τ) ιp cs es ↔ @MR E ι ds es)
  | [], ds, es, h => by simp only [AV.rens] at h; cases h; exact Iff.rfl
  | [x], ds, es, h => by
    simp only [AV.rens] at h; split at h
    · rename_i y ys' e1 e2; cases h; cases e2; exact Iff.rfl
    · cases h
  | x :: y :: cs, ds, es, h => by
    simp only [AV.rens] at h
    split at h
    · rename_i a as e1 e2
      cases h
      split at e2
      · rename_i b bs e3 e4
        cases e2
        have ih := fun es => mr_ren (cs := cs) (ds := bs) (es := es) e4
        constructor
        · rintro ⟨e, es', h1, h2, h3, h4⟩; exact ⟨e, es', h1, (ren_iff hσ e1).1 h2, (ren_iff hσ e3).1 h3, (ih _).1 h4⟩
        · rintro ⟨e, es', h1, h2, h3, h4⟩; exact ⟨e, es', h1, (ren_iff hσ e1).2 h2, (ren_iff hσ e3).2 h3, (ih _).2 h4⟩
      · cases e2
    · cases h
theorem cells_ren {w : World} {l : Loc} {o a : Obj} (h : AV.rens σ τ o.cs = some a.cs) (hes : a.es = o.es) : @CellsR (E.sub τ) ιp w l o ↔ @CellsR E ι w l a := by
  have hl := rens_len h
  constructor
  · rintro ⟨c, et, lo, hi, h1, h2, h3, h4, h5, h6⟩
    refine ⟨c, et, lo, hi, h1, h2, h3, by rw [hes]; exact h4, by rw [hl]; exact h5, fun i y hy => ?_⟩
    have hi : i < o.cs.length := by have := (List.getElem?_eq_some_iff.1 hy).1; omega
    obtain ⟨v, hv, r⟩ := h6 i o.cs[i] (by simp [hi])
    exact ⟨v, hv, (ren_iff hσ (rens_get h (by simp [hi]) hy)).1 r⟩
  · rintro ⟨c, et, lo, hi, h1, h2, h3, h4, h5, h6⟩
    refine ⟨c, et, lo, hi, h1, h2, h3, by rw [← hes]; exact h4, by rw [← hl]; exact h5, fun i x hx => ?_⟩
    have hi : i < a.cs.length := by have := (List.getElem?_eq_some_iff.1 hx).1; omega
    obtain ⟨v, hv, r⟩ := h6 i a.cs[i] (by simp [hi])
    exact ⟨v, hv, (ren_iff hσ (rens_get h hx (by simp [hi]))).2 r⟩
theorem map_ren {w : World} {l : Loc} {o a : Obj} (h : AV.rens σ τ o.cs = some a.cs) : @MapR (E.sub τ) ιp w l o ↔ @MapR E ι w l a := by
  constructor
  · rintro ⟨es, clock, h1, h2⟩; exact ⟨es, clock, h1, (mr_ren hσ h).1 h2⟩
  · rintro ⟨es, clock, h1, h2⟩; exact ⟨es, clock, h1, (mr_ren hσ h).2 h2⟩
end
/-- an object of the pattern, and the one that stands for it -/
def FitO (σ : Nat → Option Nat) (τ : Nat → Exp) (o a : Obj) : Prop := AV.rens σ τ o.cs = some a.cs ∧ a.es = o.es ∧ ((o.kind = .old ∧ a.kind.isMap = false) ∨ (o.kind = .free ∧ a.kind = .free) ∨ (o.kind = .map ∧ a.kind = .map))
/-- an object of the result, carried over -/
def RenO (σ : Nat → Option Nat) (τ : Nat → Exp) (o a : Obj) : Prop := AV.rens σ τ o.cs = some a.cs ∧ a.es = o.es ∧ a.kind = o.kind ∧ o.kind.isLoop = false
theorem FitO.blk {E : Env} {σ : Nat → Option Nat} {τ : Nat → Exp} {ιp ι : Map} (hσ : ∀ b q, σ b = some q → ιp b = ι q) {w : World} {l : Loc} {o a : Obj} (h : FitO σ τ o a) (hb : @Blk E ι w l a) : @Blk (E.sub τ) ιp w l o := by
  obtain ⟨h1, h2, h3⟩ := h
  rcases h3 with ⟨k1, k2⟩ | ⟨k1, k2⟩ | ⟨k1, k2⟩
  · exact @Blk.of_cells (E.sub τ) _ _ _ _ (by rw [k1]; rfl) ((cells_ren hσ h1 h2).2 (@Blk.cells E _ _ _ _ hb k2))
  · exact @Blk.of_cells (E.sub τ) _ _ _ _ (by rw [k1]; rfl) ((cells_ren hσ h1 h2).2 (@Blk.cells E _ _ _ _ hb (by rw [k2]; rfl)))
  · exact @Blk.of_map (E.sub τ) _ _ _ _ (by rw [k1]; rfl) ((map_ren hσ h1).2 (@Blk.map E _ _ _ _ hb (by rw [k2]; rfl)))
theorem RenO.blk {E : Env} {σ : Nat → Option Nat} {τ : Nat → Exp} {ιp ι : Map} (hσ : ∀ b q, σ b = some q → ιp b = ι q) {w : World} {l : Loc} {o a : Obj} (h : RenO σ τ o a) (hb : @Blk (E.sub τ) ιp w l o) : @Blk E ι w l a := by
  obtain ⟨h1, h2, h3, h4⟩ := h
  rcases o.kind.three with hk | hk | ⟨st, L, hk⟩
  · exact @Blk.of_cells E _ _ _ _ (by rw [h3]; exact hk) ((cells_ren hσ h1 h2).1 (@Blk.cells (E.sub τ) _ _ _ _ hb hk))
  · exact @Blk.of_map E _ _ _ _ (by rw [h3]; exact hk) ((map_ren hσ h1).1 (@Blk.map (E.sub τ) _ _ _ _ hb hk))
  · rw [hk] at h4; cases h4
end
end Go.Ev
/-! A call that was evaluated once, at a small heap, used at another one. -/
namespace Go.Ev
noncomputable section
open Go Go.RowKit

/-- the small heap lies in the other one -/
structure Fits (σ : Nat → Option Nat) (τ : Nat → Exp) (Hp H : Heap) : Prop where
  obj : ∀ p o, Hp.get p = some o → ∃ q a, σ p = some q ∧ H.get q = some a ∧ FitO σ τ o a
  dom : ∀ p q, σ p = some q → Hp.get p ≠ none ∧ p < Hp.next ∧ q < H.next
  inj : ∀ p p' q, σ p = some q → σ p' = some q → p = p'

theorem Fits.wr {σ : Nat → Option Nat} {τ : Nat → Exp} {Hp H : Heap} (hf : Fits σ τ Hp H) {E : Env} {ι : Map} {w : World} (hw : @WR E ι H w) : @WR (E.sub τ) (fun p => (σ p).bind ι) Hp w := by
  have hσ : ∀ b q, σ b = some q → (fun p => (σ p).bind ι) b = ι q := fun b q h => by simp [h]
  have key : ∀ p l o, (σ p).bind ι = some l → Hp.get p = some o → ∃ q a, σ p = some q ∧ ι q = some l ∧ H.get q = some a ∧ FitO σ τ o a := fun p l o h ho => by
    obtain ⟨q, a, h1, h2, h3⟩ := hf.obj p o ho
    rw [h1] at h
    exact ⟨q, a, h1, h, h2, h3⟩
  have old : ∀ (o a : Obj), FitO σ τ o a → a.kind.isFree = false → o.kind = .old := fun o a h hk => by
    rcases h.2.2 with ⟨k, _⟩ | ⟨_, k⟩ | ⟨_, k⟩
    · exact k
    · rw [k] at hk; cases hk
    · rw [k] at hk; cases hk
  refine @WR.mk (E.sub τ) _ _ _ (fun p l o h ho => ?_) (fun p1 p2 l1 l2 o1 o2 hne e1 e2 g1 g2 heq => ?_) (fun p hp => ?_) (fun p l h => ?_) (fun p l h => by cases h)
  · obtain ⟨q, a, h1, h2, h3, h4⟩ := key p l o h ho
    exact h4.blk hσ (hw.obj q l a h2 h3)
  · obtain ⟨q1, a1, h1, h2, h3, h4⟩ := key p1 l1 o1 e1 g1
    obtain ⟨q2, a2, k1, k2, k3, k4⟩ := key p2 l2 o2 e2 g2
    obtain ⟨r1, r2, _⟩ := hw.apart q1 q2 l1 l2 a1 a2 (fun e => hne (hf.inj p1 p2 q1 h1 (by rw [e]; exact k1))) h2 k2 h3 k3 heq
    rw [old o1 a1 h4 r1, old o2 a2 k4 r2]
    exact ⟨rfl, rfl, fun h => by cases h⟩
  · show (σ p).bind ι = none
    cases e : σ p with
    | none => rfl
    | some q => have := (hf.dom p q e).2.1; omega
  · have h' : (σ p).bind ι = some l := h
    cases e : σ p with
    | none => rw [e] at h'; cases h'
    | some q => exact (hf.dom p q e).1

/-- the heap behind the call -/
structure Back (σ σ' : Nat → Option Nat) (τ : Nat → Exp) (Hp Hp' H K : Heap) : Prop where
  next : K.next = H.next + (Hp'.next - Hp.next)
  low : ∀ p, p < Hp.next → σ' p = σ p
  new : ∀ p q, Hp.next ≤ p → σ' p = some q → q = H.next + (p - Hp.next)
  get : ∀ b o, K.get b = some o → (∃ p op, σ' p = some b ∧ Hp'.get p = some op ∧ RenO σ' τ op o ∧ (p < Hp.next → ∃ o0, Hp.get p = some o0 ∧ o0.kind.isOld = false)) ∨
    (H.get b = some o ∧ ∀ p, σ' p = some b → p < Hp.next ∧ ∀ o0, Hp.get p = some o0 → o0.kind.isOld = true)
  keep : ∀ b, H.get b ≠ none → K.get b ≠ none
  out : ∀ p q, Hp.next ≤ p → σ' p = some q → K.get q ≠ none

theorem memo_step {σ σ' : Nat → Option Nat} {τ : Nat → Exp} {Hp Hp' H K : Heap} (hf : Fits σ τ Hp H) (hb : Back σ σ' τ Hp Hp' H K) {E : Env} {ι ιq : Map} {w w' : World} (hw : @WR E ι H w)
    (st : @Step (E.sub τ) (fun _ => False) (fun p => (σ p).bind ι) Hp w ιq Hp' w') :
    ∃ ι', (∀ p q, σ' p = some q → ιq p = ι' q) ∧ @Step E (fun _ => False) ι H w ι' K w' := by
  obtain ⟨sext, ⟨wobj, wapart, wnew, wvis, _⟩, snext, sdom, skeep, sjunk, sos, stape, soutput, ssize, sstay, sframe, sfresh⟩ := st
  have hlow : ∀ p q, p < Hp.next → σ p = some q → ιq p = ι q := fun p q hp e => by
    have hb' : (σ p).bind ι = ι q := by simp [e]
    cases g : ι q with
    | some l => exact sext p l (show (σ p).bind ι = some l by rw [hb']; exact g)
    | none =>
      cases g2 : ιq p with
      | none => rfl
      | some l2 =>
        rcases sdom p (by rw [hb']; exact g) (by rw [g2]; simp) with h | h
        · exact h.elim
        · omega
  refine ⟨fun b => if b < H.next then ι b else if σ' (b - H.next + Hp.next) = some b then ιq (b - H.next + Hp.next) else none, ?_⟩
  generalize hι : (fun b => if b < H.next then ι b else if σ' (b - H.next + Hp.next) = some b then ιq (b - H.next + Hp.next) else none) = ι'
  have i1 : ∀ b, b < H.next → ι' b = ι b := fun b h => by rw [← hι]; simp [h]
  have i2 : ∀ b, H.next ≤ b → ι' b = if σ' (b - H.next + Hp.next) = some b then ιq (b - H.next + Hp.next) else none := fun b h => by
    rw [← hι]; simp only; rw [if_neg (by omega)]
  have hσ' : ∀ p q, σ' p = some q → ιq p = ι' q := fun p q e => by
    by_cases hp : p < Hp.next
    · have e' := e
      rw [hb.low p hp] at e'
      rw [i1 q (hf.dom p q e').2.2]
      exact hlow p q hp e'
    · have hq := hb.new p q (by omega) e
      rw [i2 q (by omega), show q - H.next + Hp.next = p by omega, if_pos e]
  refine ⟨hσ', ?_⟩
  have hext : Ext ι ι' := fun b l h => by
    have : b < H.next := by
      apply Classical.byContradiction
      intro h2
      rw [hw.new b (by omega)] at h; cases h
    rw [i1 b this]; exact h
  -- outside
  have outside : ∀ b l o, ι' b = some l → H.get b = some o → (∀ p, σ' p = some b → p < Hp.next ∧ ∀ o0, Hp.get p = some o0 → o0.kind.isOld = true) →
      ι b = some l ∧ w'.heap[l.blk]? = w.heap[l.blk]? ∧ ∀ p0 l0 o0, (σ p0).bind ι = some l0 → Hp.get p0 = some o0 → o0.kind.isOld = false → l0.blk ≠ l.blk := by
    intro b l o hl ho hp
    have hlt : b < H.next := by
      apply Classical.byContradiction
      intro h2
      rw [i2 b (by omega)] at hl
      split at hl
      · rename_i e
        have := (hp _ e).1
        omega
      · cases hl
    rw [i1 b hlt] at hl
    have hB := hw.obj b l o hl ho
    have apart : ∀ p0 l0 o0, (σ p0).bind ι = some l0 → Hp.get p0 = some o0 → o0.kind.isOld = false → l0.blk ≠ l.blk := by
      intro p0 l0 o0 h1 h2 h3 heq
      obtain ⟨q, a, k1, k2, k3⟩ := hf.obj p0 o0 h2
      rw [k1] at h1
      have hne : q ≠ b := fun e => by
        have := (hp p0 (by rw [hb.low p0 (hf.dom p0 q k1).2.1, k1, e])).2 o0 h2
        rw [h3] at this; cases this
      have hfree := (hw.apart q b l0 l a o hne h1 hl k2 ho heq).1
      rcases k3.2.2 with ⟨k, _⟩ | ⟨_, k⟩ | ⟨_, k⟩
      · rw [k] at h3; cases h3
      · rw [k] at hfree; cases hfree
      · rw [k] at hfree; cases hfree
    exact ⟨hl, sframe l.blk (@Blk.lt E _ _ _ _ hB) apart, apart⟩
  -- what the call made or had to itself lies apart from the outside
  have away : ∀ p1 l1 b l o, ιq p1 = some l1 → (p1 < Hp.next → ∃ o0, Hp.get p1 = some o0 ∧ o0.kind.isOld = false) → ι' b = some l → H.get b = some o → (∀ p, σ' p = some b → p < Hp.next ∧ ∀ o0, Hp.get p = some o0 → o0.kind.isOld = true) → l1.blk ≠ l.blk := by
    intro p1 l1 b l o h1 hex hl ho hp heq
    obtain ⟨k1, _, k3⟩ := outside b l o hl ho hp
    have hB := @Blk.lt E _ _ _ _ (hw.obj b l o k1 ho)
    cases hιp : (σ p1).bind ι with
    | some l0 =>
      have hlt : p1 < Hp.next := by
        cases e : σ p1 with
        | none => rw [e] at hιp; cases hιp
        | some q => exact (hf.dom p1 q e).2.1
      obtain ⟨o0, g1, g2⟩ := hex hlt
      have : ιq p1 = some l0 := sext p1 l0 hιp
      rw [h1] at this; cases this
      exact k3 p1 l1 o0 hιp g1 g2 heq
    | none =>
      rcases sfresh p1 l1 hιp h1 with h | ⟨p0, l0, o0, g1, g2, g3, g4⟩
      · omega
      · exact k3 p0 l0 o0 g1 g2 g3 (g4.trans heq)
  refine @Step.mk E _ _ _ _ _ _ _ hext ?_ (by rw [hb.next]; omega) (fun b h1 h2 => .inr ?_) hb.keep (fun b l h _ => hw.vis b l h) sos stape soutput ssize (fun b l o o' h1 h2 h3 => ?_) (fun c hc h => sframe c hc fun p0 l0 o0 h1 h2 h3 => ?_) (fun b l h1 h2 => ?_)
  · refine @WR.mk E _ _ _ (fun b l o h ho => ?_) (fun b1 b2 l1 l2 o1 o2 hne e1 e2 g1 g2 heq => ?_) (fun b h => ?_) (fun b l h => ?_) (fun b l h => hext b l (hw.glob b l h))
    · rcases hb.get b o ho with ⟨p, op, k1, k2, k3, _⟩ | ⟨k1, k2⟩
      · exact k3.blk hσ' (wobj p l op (by rw [hσ' p b k1]; exact h) k2)
      · obtain ⟨r1, r2, _⟩ := outside b l o h k1 k2
        exact @Blk.mono E _ _ _ _ _ _ (hw.obj b l o r1 k1) hext r2
    · rcases hb.get b1 o1 g1 with ⟨p1, op1, k1, k2, k3, k4⟩ | ⟨k1, k2⟩
      · rcases hb.get b2 o2 g2 with ⟨p2, op2, j1, j2, j3, j4⟩ | ⟨j1, j2⟩
        · obtain ⟨r1, r2, r3⟩ := wapart p1 p2 l1 l2 op1 op2 (fun e => by rw [e, j1] at k1; cases k1; exact hne rfl) (by rw [hσ' p1 b1 k1]; exact e1) (by rw [hσ' p2 b2 j1]; exact e2) k2 j2 heq
          obtain ⟨a1, _, a3, _⟩ := k3
          obtain ⟨c1, _, c3, _⟩ := j3
          rw [a3, c3, rens_len a1, rens_len c1]
          exact ⟨r1, r2, r3⟩
        · exact (away p1 l1 b2 l2 o2 (by rw [hσ' p1 b1 k1]; exact e1) k4 e2 j1 j2 heq).elim
      · rcases hb.get b2 o2 g2 with ⟨p2, op2, j1, j2, j3, j4⟩ | ⟨j1, j2⟩
        · exact (away p2 l2 b1 l1 o1 (by rw [hσ' p2 b2 j1]; exact e2) j4 e1 k1 k2 heq.symm).elim
        · exact hw.apart b1 b2 l1 l2 o1 o2 hne (outside b1 l1 o1 e1 k1 k2).1 (outside b2 l2 o2 e2 j1 j2).1 k1 j1 heq
    · rw [hb.next] at h
      rw [i2 b (by omega)]
      split
      · rename_i e
        exact wnew _ (by have := snext; omega)
      · rfl
    · by_cases hlt : b < H.next
      · rw [i1 b hlt] at h; exact hb.keep b (hw.vis b l h)
      · rw [i2 b (by omega)] at h
        split at h
        · rename_i e; exact hb.out _ b (by omega) e
        · cases h
  · apply Classical.byContradiction
    intro hlt
    exact h2 (by rw [i1 b (by omega)]; exact h1)
  · rcases hb.get b o' h3 with ⟨p, op, k1, k2, k3, k4⟩ | ⟨k1, _⟩
    · have hlt : p < Hp.next := by
        apply Classical.byContradiction
        intro hge
        have := hb.new p b (by omega) k1
        rw [hw.new b (by omega)] at h1; cases h1
      obtain ⟨o0, g1, g2⟩ := k4 hlt
      obtain ⟨q, a, m1, m2, m3⟩ := hf.obj p o0 g1
      rw [hb.low p hlt, m1] at k1; cases k1
      rw [h2] at m2; cases m2
      rcases m3.2.2 with ⟨k, _⟩ | ⟨_, k⟩ | ⟨_, k⟩
      · rw [k] at g2; cases g2
      · rw [k]; exact ⟨(fun h => by cases h), (fun h => by cases h)⟩
      · rw [k]; exact ⟨(fun h => by cases h), (fun h => by cases h)⟩
    · rw [h2] at k1; cases k1
      exact ⟨fun h => h, fun h => h⟩
  · obtain ⟨q, a, k1, k2, k3⟩ := hf.obj p0 o0 h2
    have h1' : (σ p0).bind ι = some l0 := h1
    rw [k1] at h1'
    refine h q l0 a h1' k2 ?_
    rcases k3.2.2 with ⟨k, _⟩ | ⟨_, k⟩ | ⟨_, k⟩
    · rw [k] at h3; cases h3
    · rw [k]; rfl
    · rw [k]; rfl
  · by_cases hlt : b < H.next
    · rw [i1 b hlt, h1] at h2; cases h2
    · rw [i2 b (by omega)] at h2
      split at h2
      · have hnone : (σ (b - H.next + Hp.next)).bind ι = none := by
          cases e : σ (b - H.next + Hp.next) with
          | none => rfl
          | some q => have := (hf.dom _ q e).2.1; omega
        rcases sfresh _ l hnone h2 with h | ⟨p0, l0, o0, g1, g2, g3, g4⟩
        · exact .inl h
        · obtain ⟨q, a, k1, k2, k3⟩ := hf.obj p0 o0 g2
          have g1' : (σ p0).bind ι = some l0 := g1
          rw [k1] at g1'
          refine .inr ⟨q, l0, a, g1', k2, ?_, g4⟩
          rcases k3.2.2 with ⟨k, _⟩ | ⟨_, k⟩ | ⟨_, k⟩
          · rw [k] at g3; cases g3
          · rw [k]; rfl
          · rw [k]; rfl
      · cases h2

theorem memo_use {P : Program} {f : FuncId} {σ σ' : Nat → Option Nat} {τ : Nat → Exp} {Hp Hp' H K : Heap} {E : Env} {pargs args : List AV} {v y : AV}
    (hc : ∀ (ι : Map) (w : World) (args' : List Value), @WR (E.sub τ) ι Hp w → @VRs (E.sub τ) ι pargs args' → Calls P f args'.toArray w fun e w' => ∃ ι', @EndsAs (E.sub τ) ι' v e ∧ @Step (E.sub τ) (fun _ => False) ι Hp w ι' Hp' w')
    (hf : Fits σ τ Hp H) (hb : Back σ σ' τ Hp Hp' H K) (ha : AV.rens σ τ pargs = some args) (hv : v.ren σ' τ = some y) (ι : Map) (w : World) (args' : List Value) (hw : @WR E ι H w) (hargs : @VRs E ι args args') :
    Calls P f args'.toArray w fun e w' => ∃ ι', @EndsAs E ι' y e ∧ @Step E (fun _ => False) ι H w ι' K w' := by
  refine (hc _ w args' (hf.wr hw) ((rens_iff (ιp := fun p => (σ p).bind ι) (fun b q h => by simp [h]) ha).2 hargs)).mono ?_
  rintro e w' ⟨ιq, h1, h2⟩
  obtain ⟨ι', k1, k2⟩ := memo_step hf hb hw h2
  exact ⟨ι', ends_ren k1 hv h1, k2⟩
end
end Go.Ev
/-! Calls that were evaluated once: how they are found again. -/
namespace Go.Ev
noncomputable section
open Go Go.RowKit

def Tr.tab {α : Type} : List (Nat × α) → Tr α
  | [] => .nil
  | x :: l => (Tr.tab l).set x.1 x.2
theorem Tr.tab_mem {α : Type} : ∀ {l : List (Nat × α)} {b : Nat} {x : α}, (Tr.tab l).get b = some x → (b, x) ∈ l
  | [], b, x, h => by cases h
  | y :: l, b, x, h => by
    simp only [Tr.tab, Tr.get_set] at h
    split at h
    · rename_i e; cases h; rw [e]; simp
    · exact List.mem_cons_of_mem _ (Tr.tab_mem h)
theorem Tr.tab_has {α : Type} : ∀ {l : List (Nat × α)} {b : Nat} {x : α}, (b, x) ∈ l → (Tr.tab l).get b ≠ none
  | [], b, x, h => by simp at h
  | y :: l, b, x, h => by
    simp only [Tr.tab, Tr.get_set]
    split
    · simp
    · rename_i e
      rcases List.mem_cons.1 h with h | h
      · rw [← h] at e; exact (e rfl).elim
      · exact Tr.tab_has h

structure Memo where
  f : FuncId
  args : List AV
  ps : List (Nat × Obj)
  pn : Nat
  v : AV
  outs : List (Nat × Obj)
  hi : Nat
  facts : List (BinOp × Exp × Exp × Bool)
def Memo.heap (m : Memo) : Heap := ⟨Tr.tab m.ps, m.pn, []⟩

def bindB : List Exp → List UInt8 → Tr Exp → Tr Exp
  | .var i :: es, b :: bs, t => bindB es bs (t.set i (.lit b.toNat))
  | _ :: es, _ :: bs, t => bindB es bs t
  | _, _, t => t
def bindE : List Exp → List Exp → Tr Exp → Tr Exp
  | .var i :: es, b :: bs, t => bindE es bs (t.set i b)
  | _ :: es, _ :: bs, t => bindE es bs t
  | _, _, t => t
mutual
def AV.bind : AV → AV → Tr Nat × Tr Exp → Tr Nat × Tr Exp
  | .sx _ (.var i), .int _ n, t => (t.1, t.2.set i (.lit n))
  | .sx _ (.var i), .sx _ e, t => (t.1, t.2.set i e)
  | .sxs l, .str s, t => (t.1, bindB l s t.2)
  | .sxs l, .sxs s, t => (t.1, bindE l s t.2)
  | .ptr b _, .ptr q _, t => (t.1.set b q, t.2)
  | .sl b _ _, .sl q _ _, t => (t.1.set b q, t.2)
  | .map b, .map q, t => (t.1.set b q, t.2)
  | .fn _ a c, .fn _ a' c', t => AV.binds c c' (AV.binds a a' t)
  | .iface _ v, .iface _ v', t => AV.bind v v' t
  | .agg a, .agg a', t => AV.binds a a' t
  | .tup a, .tup a', t => AV.binds a a' t
  | _, _, t => t
def AV.binds : List AV → List AV → Tr Nat × Tr Exp → Tr Nat × Tr Exp
  | x :: xs, y :: ys, t => AV.binds xs ys (AV.bind x y t)
  | _, _, t => t
end
def bindAll (H : Heap) : List (Nat × Obj) → Tr Nat × Tr Exp → Tr Nat × Tr Exp
  | [], t => t
  | po :: l, t => match t.1.get po.1 with
    | some q => (match H.get q with
      | some a => bindAll H l (AV.binds po.2.cs a.cs t)
      | none => t)
    | none => t
def pairsOf (S : Tr Nat) : List (Nat × Obj) → List (Nat × Nat)
  | [] => []
  | po :: l => match S.get po.1 with
    | some q => (po.1, q) :: pairsOf S l
    | none => pairsOf S l

def rensBe (σ : Nat → Option Nat) (τ : Nat → Exp) (xs ys : List AV) : Bool := match AV.rens σ τ xs with | some zs => beqs zs ys | none => false
def fitK (o a : Kind) : Bool :=
  match o with
  | .old => !a.isMap
  | .free => (match a with | .free => true | _ => false)
  | .map => (match a with | .map => true | _ => false)
  | _ => false
def fitO (σ : Nat → Option Nat) (τ : Nat → Exp) (o a : Obj) : Bool := rensBe σ τ o.cs a.cs && Nat.beq a.es o.es && fitK o.kind a.kind
def fitsA (σ : Nat → Option Nat) (τ : Nat → Exp) (I : Nat → Option Nat) (m : Memo) (H : Heap) (pairs : List (Nat × Nat)) : Bool :=
  (m.ps.all fun po => match σ po.1 with | some q => (match H.get q with | some a => fitO σ τ po.2 a | none => false) | none => false) &&
  (pairs.all fun pq => (m.heap.get pq.1).isSome && Nat.blt pq.1 m.pn && Nat.blt pq.2 H.next && (match I pq.2 with | some p => Nat.beq p pq.1 | none => false))

theorem beqs_eq : ∀ {xs ys : List AV}, beqs xs ys = true → xs = ys := by
  intro xs ys h
  have := @AV.beq_sound (.agg xs) (.agg ys) (by simpa only [AV.beq] using h)
  cases this; rfl
theorem rensBe_sound {σ : Nat → Option Nat} {τ : Nat → Exp} {xs ys : List AV} (h : rensBe σ τ xs ys = true) : AV.rens σ τ xs = some ys := by
  unfold rensBe at h
  split at h
  · rename_i zs e; rw [e, beqs_eq h]
  · cases h
theorem fitO_sound {σ : Nat → Option Nat} {τ : Nat → Exp} {o a : Obj} (h : fitO σ τ o a = true) : FitO σ τ o a := by
  simp only [fitO, Bool.and_eq_true, Tr.nbeq, decide_eq_true_eq] at h
  refine ⟨rensBe_sound h.1.1, h.1.2, ?_⟩
  have hk := h.2
  unfold fitK at hk
  split at hk
  · rename_i e; exact .inl ⟨e, by simpa using hk⟩
  · rename_i e
    split at hk
    · rename_i e2; exact .inr (.inl ⟨e, e2⟩)
    · cases hk
  · rename_i e
    split at hk
    · rename_i e2; exact .inr (.inr ⟨e, e2⟩)
    · cases hk
  · cases hk
theorem fitsA_sound {τ : Nat → Exp} {I : Nat → Option Nat} {m : Memo} {H : Heap} {pairs : List (Nat × Nat)} (h : fitsA (Tr.tab pairs).get τ I m H pairs = true) : Fits (Tr.tab pairs).get τ m.heap H := by
  simp only [fitsA, Bool.and_eq_true, List.all_eq_true] at h
  obtain ⟨h1, h2⟩ := h
  have hp : ∀ p q, (Tr.tab pairs).get p = some q → m.heap.get p ≠ none ∧ p < m.pn ∧ q < H.next ∧ I q = some p := fun p q e => by
    have := h2 _ (Tr.tab_mem e)
    simp only [Nat.blt_eq] at this
    obtain ⟨⟨⟨a1, a2⟩, a3⟩, a4⟩ := this
    refine ⟨(fun e => by rw [e] at a1; cases a1), a2, a3, ?_⟩
    split at a4
    · rename_i p' e'; rw [e', Nat.eq_of_beq_eq_true a4]
    · cases a4
  refine ⟨fun p o ho => ?_, fun p q e => ⟨(hp p q e).1, (hp p q e).2.1, (hp p q e).2.2.1⟩, fun p p' q e e' => ?_⟩
  · have := h1 _ (Tr.tab_mem (show (Tr.tab m.ps).get p = some o from ho))
    simp only at this
    split at this
    · rename_i q e
      split at this
      · rename_i a ea; exact ⟨q, a, e, ea, fitO_sound this⟩
      · cases this
    · cases this
  · have a := (hp p q e).2.2.2
    rw [(hp p' q e').2.2.2] at a
    cases a; rfl

/-! ### what the call leaves -/
def newOf (pn hn : Nat) : List (Nat × Obj) → Tr Nat → Tr Nat
  | [], S => S
  | po :: l, S => newOf pn hn l (cond (Nat.blt po.1 pn) S (S.set po.1 (hn + (po.1 - pn))))
def putAll (σ : Nat → Option Nat) (τ : Nat → Exp) : List (Nat × Obj) → Heap → Option Heap
  | [], K => some K
  | po :: l, K => match σ po.1, AV.rens σ τ po.2.cs with
    | some q, some cs => putAll σ τ l (K.write q ⟨cs, po.2.es, po.2.kind⟩)
    | _, _ => none
theorem newOf_low {pn hn : Nat} : ∀ (l : List (Nat × Obj)) (S : Tr Nat) (p : Nat), p < pn → (newOf pn hn l S).get p = S.get p
  | [], S, p, h => rfl
  | po :: l, S, p, h => by
    simp only [newOf]
    rw [newOf_low l _ p h]
    cases e : Nat.blt po.1 pn with
    | true => rfl
    | false =>
      simp only [cond_false]
      rw [Tr.get_set, if_neg]
      intro e2
      rw [← e2, ← Bool.not_eq_true, Nat.blt_eq] at e
      omega
theorem newOf_new {pn hn : Nat} : ∀ (l : List (Nat × Obj)) (S : Tr Nat) (p q : Nat), pn ≤ p → (newOf pn hn l S).get p = some q → (q = hn + (p - pn) ∧ ∃ o, (p, o) ∈ l) ∨ S.get p = some q
  | [], S, p, q, h, e => .inr e
  | po :: l, S, p, q, h, e => by
    simp only [newOf] at e
    rcases newOf_new l _ p q h e with ⟨h1, o, h2⟩ | h1
    · exact .inl ⟨h1, o, List.mem_cons_of_mem _ h2⟩
    · cases e2 : Nat.blt po.1 pn with
      | true => rw [e2] at h1; exact .inr h1
      | false =>
        rw [e2] at h1
        simp only [cond_false, Tr.get_set] at h1
        split at h1
        · rename_i e3
          cases h1
          exact .inl ⟨by rw [e3], po.2, by rw [e3]; simp⟩
        · exact .inr h1
theorem putAll_get {σ : Nat → Option Nat} {τ : Nat → Exp} : ∀ {l : List (Nat × Obj)} {K0 K : Heap}, putAll σ τ l K0 = some K → K.next = K0.next ∧
    (∀ b o, K.get b = some o → (∃ po, po ∈ l ∧ σ po.1 = some b ∧ AV.rens σ τ po.2.cs = some o.cs ∧ o.es = po.2.es ∧ o.kind = po.2.kind) ∨ (K0.get b = some o ∧ ∀ po, po ∈ l → σ po.1 ≠ some b)) ∧
    (∀ b, K0.get b ≠ none → K.get b ≠ none) ∧ (∀ po, po ∈ l → ∀ q, σ po.1 = some q → K.get q ≠ none) ∧ (∃ bs, K.log = bs ++ K0.log ∧ ∀ b, b ∉ bs → K.get b = K0.get b)
  | [], K0, K, h => by
    simp only [putAll] at h; cases h
    exact ⟨rfl, fun b o h => .inr ⟨h, fun po hp => by simp at hp⟩, fun b h => h, fun po hp => by simp at hp, [], rfl, fun _ _ => rfl⟩
  | po :: l, K0, K, h => by
    simp only [putAll] at h
    split at h
    · rename_i q cs e1 e2
      obtain ⟨h1, h2, h3, h4, bs, h5, h6⟩ := putAll_get h
      refine ⟨h1, fun b o hb => ?_, fun b hb => h3 b ?_, fun po' hp' q' hq' => ?_, bs ++ [q], by rw [h5]; simp [Heap.write], fun b hb => ?_⟩
      · rcases h2 b o hb with ⟨p2, m1, m2⟩ | ⟨m1, m2⟩
        · exact .inl ⟨p2, List.mem_cons_of_mem _ m1, m2⟩
        · rw [Heap.get_write] at m1
          split at m1
          · rename_i e; cases m1
            exact .inl ⟨po, by simp, by rw [e]; exact e1, e2, rfl, rfl⟩
          · rename_i e
            refine .inr ⟨m1, fun p2 hp2 e3 => ?_⟩
            rcases List.mem_cons.1 hp2 with rfl | hp2
            · rw [e1] at e3; cases e3; exact e rfl
            · exact m2 p2 hp2 e3
      · rw [Heap.get_write]; split
        · simp
        · exact hb
      · rcases List.mem_cons.1 hp' with rfl | hp'
        · rw [e1] at hq'; cases hq'
          exact h3 q (by rw [Heap.get_write]; simp)
        · exact h4 po' hp' q' hq'
      · simp only [List.mem_append, List.mem_singleton, not_or] at hb
        rw [h6 b hb.1, Heap.get_write, if_neg hb.2]
    · cases h

/-- what holds of the unknown numbers -/
def Env.Holds (E : Env) (fs : List (BinOp × Exp × Exp × Bool)) : Prop := ∀ x, x ∈ fs → cmpVal x.1 (@Exp.eval E x.2.1) (@Exp.eval E x.2.2.1) = x.2.2.2
def factOk (orc : BinOp → Exp → Exp → Option Bool) (τ : Nat → Exp) (x : BinOp × Exp × Exp × Bool) : Bool :=
  match x.2.1.sub τ, x.2.2.1.sub τ with
  | .lit a, .lit b => cmpVal x.1 a b == x.2.2.2
  | a, b => (match orc x.1 a b with | some r => r == x.2.2.2 | none => false)
theorem factOk_sound {orc : BinOp → Exp → Exp → Option Bool} {E : Env} (horc : ∀ o a b r, orc o a b = some r → cmpVal o (@Exp.eval E a) (@Exp.eval E b) = r) {τ : Nat → Exp} {x : BinOp × Exp × Exp × Bool} (h : factOk orc τ x = true) :
    cmpVal x.1 (@Exp.eval (E.sub τ) x.2.1) (@Exp.eval (E.sub τ) x.2.2.1) = x.2.2.2 := by
  rw [← Exp.eval_sub, ← Exp.eval_sub]
  unfold factOk at h
  split at h
  · rename_i a b e1 e2
    rw [e1, e2]
    simpa [Exp.eval] using h
  · split at h
    · rename_i r e
      rw [horc _ _ _ _ e]
      simpa using h
    · cases h

/-- a memo, looked up -/
def Memo.end' (m : Memo) (τ : Nat → Exp) (H : Heap) (σ : Nat → Option Nat) : Option (AV × Heap) :=
  match putAll σ τ m.outs { H with next := H.next + (m.hi - m.pn) } with
  | some K => (match m.v.ren σ τ with | some y => some (y, K) | none => none)
  | none => none
def Memo.use (m : Memo) (orc : BinOp → Exp → Exp → Option Bool) (H : Heap) (args : List AV) (τ : Nat → Exp) (pairs : List (Nat × Nat)) (S : Tr Nat) : Option (AV × Heap) :=
  cond (rensBe S.get τ m.args args && fitsA S.get τ (Tr.tab (pairs.map fun pq => (pq.2, pq.1))).get m H pairs && m.facts.all (factOk orc τ))
    (m.end' τ H (newOf m.pn H.next m.outs S).get) none
def Memo.find (m : Memo) (orc : BinOp → Exp → Exp → Option Bool) (H : Heap) (args : List AV) : Option (AV × Heap) :=
  let t := bindAll H m.ps (AV.binds m.args args (.nil, .nil))
  m.use orc H args (fun i => match t.2.get i with | some e => e | none => .var i) (pairsOf t.1 m.ps) (Tr.tab (pairsOf t.1 m.ps))
def memoA (orc : BinOp → Exp → Exp → Option Bool) : List Memo → CallA
  | [], _, _, _ => none
  | m :: ms, H, f, args => cond (Nat.beq f m.f) (match m.find orc H args with
    | some r => some r
    | none => memoA orc ms H f args) (memoA orc ms H f args)

/-- what a memo looks like, whatever it says -/
def Memo.static (m : Memo) : Bool :=
  (m.ps.all fun po => po.2.kind.isOld || ((Tr.tab m.outs).get po.1).isSome) &&
  (m.outs.all fun po => (!po.2.kind.isLoop && Nat.blt po.1 m.hi) && (!Nat.blt po.1 m.pn || (match m.heap.get po.1 with | some o => !o.kind.isOld | none => false)))
/-- what a memo says -/
def Memo.Ok (m : Memo) (P : Program) (D : Env → Prop) : Prop :=
  m.static = true ∧ (∃ fn, P.funcs[m.f]? = some fn ∧ fn.body.isSome = true ∧ fn.name ≠ "runtime.NumGoroutine") ∧
  ∃ Hp' : Heap, Hp'.next = m.hi ∧ (∀ po, po ∈ m.outs → Hp'.get po.1 = some po.2) ∧
    ∀ E : Env, D E → E.Holds m.facts → ∀ (ι : Map) (w : World) (args' : List Value), @WR E ι m.heap w → @VRs E ι m.args args' → Calls P m.f args'.toArray w fun e w' => ∃ ι', @EndsAs E ι' m.v e ∧ @Step E (fun _ => False) ι m.heap w ι' Hp' w'

theorem Memo.back {m : Memo} (hs : m.static = true) {Hp' H K : Heap} (hn : Hp'.next = m.hi) (ho : ∀ po, po ∈ m.outs → Hp'.get po.1 = some po.2) {τ : Nat → Exp} {S : Tr Nat} (hf : Fits S.get τ m.heap H)
    (hp : putAll (newOf m.pn H.next m.outs S).get τ m.outs { H with next := H.next + (m.hi - m.pn) } = some K) : Back S.get (newOf m.pn H.next m.outs S).get τ m.heap Hp' H K := by
  obtain ⟨h1, h2, h3, h4, _⟩ := putAll_get hp
  simp only [Memo.static, Bool.and_eq_true, List.all_eq_true] at hs
  obtain ⟨s1, s2⟩ := hs
  have hout : ∀ p q, m.pn ≤ p → (newOf m.pn H.next m.outs S).get p = some q → q = H.next + (p - m.pn) ∧ ∃ o, (p, o) ∈ m.outs := fun p q hge e => by
    rcases newOf_new m.outs S p q hge e with h | h
    · exact h
    · have := (hf.dom p q h).2.1
      have : p < m.pn := this
      omega
  refine ⟨by rw [h1, hn]; rfl, fun p hlt => newOf_low _ _ _ hlt, fun p q hge e => (hout p q hge e).1, fun b o hb => ?_, fun b hb => h3 b hb, fun p q hge e => ?_⟩
  · rcases h2 b o hb with ⟨po, m1, m2, m3, m4, m5⟩ | ⟨m1, m2⟩
    · have hq := s2 po m1
      simp only [Bool.or_eq_true, Bool.not_eq_true'] at hq
      refine .inl ⟨po.1, po.2, m2, ho po m1, ⟨m3, m4, m5, hq.1.1⟩, fun hlt => ?_⟩
      have hlt' : Nat.blt po.1 m.pn = true := by rw [Nat.blt_eq]; exact hlt
      rcases hq.2 with h | h
      · rw [hlt'] at h; cases h
      · split at h
        · rename_i o0 e0; exact ⟨o0, e0, by simpa using h⟩
        · cases h
    · refine .inr ⟨m1, fun p e => ?_⟩
      have hlt : p < m.pn := by
        apply Classical.byContradiction
        intro hge
        obtain ⟨_, o, h⟩ := hout p b (by omega) e
        exact m2 _ h e
      refine ⟨hlt, fun o0 h0 => ?_⟩
      have hq := s1 _ (Tr.tab_mem (show (Tr.tab m.ps).get p = some o0 from h0))
      simp only [Bool.or_eq_true] at hq
      rcases hq with h | h
      · exact h
      · exfalso
        cases e2 : (Tr.tab m.outs).get p with
        | none => rw [e2] at h; cases h
        | some o2 => exact m2 _ (Tr.tab_mem e2) e
  · obtain ⟨_, o, h⟩ := hout p q hge e
    exact h4 _ h q e

theorem memoA_sound {P : Program} {E : Env} {orc : BinOp → Exp → Exp → Option Bool} (horc : ∀ o a b r, orc o a b = some r → cmpVal o (@Exp.eval E a) (@Exp.eval E b) = r) {D : Env → Prop} (hD : ∀ τ, D (E.sub τ)) :
    ∀ {ms : List Memo}, (∀ m, m ∈ ms → m.Ok P D) → @CallSound E P (memoA orc ms)
  | [], _ => fun H f args v H' h => by simp [memoA] at h
  | m :: ms, hm => fun H f args v H' h => by
    have ih := memoA_sound horc hD (ms := ms) (fun x hx => hm x (List.mem_cons_of_mem _ hx)) H f args v H'
    simp only [memoA] at h
    cases e : Nat.beq f m.f with
    | false => rw [e] at h; exact ih h
    | true =>
      rw [e] at h
      simp only [cond_true] at h
      split at h
      · rename_i r e1
        cases h
        have hfe := Nat.eq_of_beq_eq_true e
        subst hfe
        obtain ⟨hs, hfn, Hp', hn, ho, hc⟩ := hm m (by simp)
        refine ⟨hfn, fun ι w args' hw ha => ?_⟩
        simp only [Memo.find, Memo.use] at e1
        obtain ⟨hch, e1⟩ := bound_of_cond e1
        simp only [Bool.and_eq_true, List.all_eq_true] at hch
        obtain ⟨⟨c1, c2⟩, c3⟩ := hch
        unfold Memo.end' at e1
        split at e1
        · rename_i K eK
          split at e1
          · rename_i y ey
            cases e1
            have hf := fitsA_sound c2
            exact memo_use (hc _ (hD _) fun x hx => factOk_sound horc (c3 x hx)) hf (Memo.back hs hn ho hf eK) (rensBe_sound c1) ey ι w args' hw ha
          · cases e1
        · cases e1
      · exact ih h
theorem memoA_heap {orc : BinOp → Exp → Exp → Option Bool} : ∀ {ms : List Memo}, (∀ m, m ∈ ms → m.static = true) → CallHeap (memoA orc ms)
  | [], _ => fun H f args v H' h => by simp [memoA] at h
  | m :: ms, hm => fun H f args v H' h => by
    have ih := memoA_heap (orc := orc) (ms := ms) (fun x hx => hm x (List.mem_cons_of_mem _ hx)) H f args v H'
    simp only [memoA] at h
    cases e : Nat.beq f m.f with
    | false => rw [e] at h; exact ih h
    | true =>
      rw [e] at h
      simp only [cond_true] at h
      split at h
      · rename_i r e1
        cases h
        simp only [Memo.find, Memo.use] at e1
        obtain ⟨hch, e1⟩ := bound_of_cond e1
        unfold Memo.end' at e1
        split at e1
        · rename_i K eK
          split at e1
          · rename_i y ey
            cases e1
            obtain ⟨h1, h2, h3, h4, bs, h5, h6⟩ := putAll_get eK
            refine ⟨by rw [h1]; exact Nat.le_add_right _ _, fun b hb hn => .inr ?_, ⟨bs, h5, fun b _ hb => h6 b hb⟩, h3⟩
            cases eb : H'.get b with
            | none => exact (hn eb).elim
            | some o =>
              simp only [Bool.and_eq_true, List.all_eq_true] at hch
              have hf := fitsA_sound hch.1.2
              have hs := hm m (by simp)
              simp only [Memo.static, Bool.and_eq_true, List.all_eq_true] at hs
              rcases h2 b o eb with ⟨po, m1, m2, _⟩ | ⟨m1, _⟩
              · have hq := (hs.2 po m1).1.2
                rw [Nat.blt_eq] at hq
                have hno : ∀ p, (Tr.tab (pairsOf (bindAll H m.ps (AV.binds m.args args (Tr.nil, Tr.nil))).1 m.ps)).get p ≠ some b := fun p e2 => by
                  cases e3 : m.heap.get p with
                  | none => exact (hf.dom p b e2).1 e3
                  | some o3 =>
                    obtain ⟨q, a, k1, k2, _⟩ := hf.obj p o3 e3
                    rw [e2] at k1; cases k1
                    rw [hb] at k2; cases k2
                by_cases hlt : po.1 < m.pn
                · rw [newOf_low _ _ _ hlt] at m2
                  exact (hno _ m2).elim
                · rcases newOf_new _ _ _ _ (by omega) m2 with ⟨k1, _⟩ | k1
                  · rw [h1]
                    show H.next ≤ b ∧ b < H.next + (m.hi - m.pn)
                    omega
                  · exact (hno _ k1).elim
              · have m1' : H.get b = some o := m1
                rw [hb] at m1'; cases m1'
          · cases e1
        · cases e1
      · exact ih h
end
end Go.Ev
/-! A memo out of one evaluation. -/
namespace Go.Ev
noncomputable section
open Go Go.RowKit

def objBe (o p : Obj) : Bool := beqs o.cs p.cs && Nat.beq o.es p.es && o.kind.beq p.kind
theorem objBe_sound {o p : Obj} (h : objBe o p = true) : o = p := by
  simp only [objBe, Bool.and_eq_true, Tr.nbeq, decide_eq_true_eq] at h
  obtain ⟨⟨h1, h2⟩, h3⟩ := h
  cases o; cases p
  simp only at h1 h2 h3
  rw [beqs_eq h1, h2, Kind.beq_sound h3]
/-- the evaluation says what the memo says -/
def Memo.says (m : Memo) (call : CallA) : Bool :=
  match call m.heap m.f m.args with
  | some (v, K) => v.beq m.v && Nat.beq K.next m.hi && m.outs.all fun po => match K.get po.1 with | some o => objBe o po.2 | none => false
  | none => false
def Memo.named (m : Memo) (P : Program) : Bool := match P.funcs[m.f]? with | some fn => fn.body.isSome && fn.name != "runtime.NumGoroutine" | none => false
theorem Memo.ok {m : Memo} {P : Program} {D : Env → Prop} {call : CallA} (hs : m.static = true) (hn : m.named P = true) (h : m.says call = true) (hc : ∀ E : Env, D E → E.Holds m.facts → @CallSound E P call) : m.Ok P D := by
  unfold Memo.says at h
  split at h
  · rename_i v K e
    simp only [Bool.and_eq_true, List.all_eq_true, Tr.nbeq, decide_eq_true_eq] at h
    obtain ⟨⟨h1, h2⟩, h3⟩ := h
    have hv := AV.beq_sound h1
    refine ⟨hs, ?_, K, h2, fun po hp => ?_, fun E hD hf ι w args' hw ha => ?_⟩
    · unfold Memo.named at hn
      split at hn
      · rename_i fn e1
        simp only [Bool.and_eq_true, bne_iff_ne, ne_eq] at hn
        exact ⟨fn, e1, hn.1, hn.2⟩
      · cases hn
    · have := h3 po hp
      split at this
      · rename_i o e2; rw [e2, objBe_sound this]
      · cases this
    · rw [← hv]
      exact (hc E hD hf _ _ _ _ _ e).2 ι w args' hw ha
  · cases h
abbrev Any : Env → Prop := fun _ => True
/-- memos upon memos, with no unknown numbers -/
theorem Memo.next {P : Program} {C : Ctx} (hC : ∀ E : Env, @Ctx.Ok E C P) {ms : List Memo} (hms : ∀ m, m ∈ ms → m.Ok P Any) {m : Memo} {n : Nat} (hs : (m.static && m.named P) = true) (h : m.says (evFun C (memoA (fun _ _ _ => none) ms) n) = true) : m.Ok P Any := by
  simp only [Bool.and_eq_true] at hs
  exact Memo.ok hs.1 hs.2 h fun E _ _ => @evFun_sound E C P (hC E) _ (memoA_sound (fun _ _ _ _ h => by cases h) (fun _ => trivial) hms) (memoA_heap fun m hm => (hms m hm).1) n
theorem Memo.none' {P : Program} : ∀ m, m ∈ ([] : List Memo) → m.Ok P Any := fun m h => by simp at h
theorem Memo.more {P : Program} {ms : List Memo} {m : Memo} (h : ∀ x, x ∈ ms → x.Ok P Any) (hm : m.Ok P Any) : ∀ x, x ∈ ms ++ [m] → x.Ok P Any := fun x hx => by
  rcases List.mem_append.1 hx with hx | hx
  · exact h x hx
  · rw [List.mem_singleton.1 hx]; exact hm
end
end Go.Ev
/-! Comparisons answered by bounds. -/
namespace Go.Ev
noncomputable section
open Go Go.RowKit

abbrev Bounds := List (Nat × Int × Int)
def bndOf : Bounds → Nat → Option (Int × Int)
  | [], _ => none
  | x :: r, i => cond (Nat.beq x.1 i) (some x.2) (bndOf r i)
def bndIn (k : IntKind) (l h : Int) : Option (Int × Int) := cond (decide (k.min ≤ l) && decide (h ≤ k.max)) (some (l, h)) none
def Exp.iv (bs : Bounds) : Exp → Option (Int × Int)
  | .var i => bndOf bs i
  | .lit n => some (n, n)
  | .conv k a => match a.iv bs with
    | some x => bndIn k x.1 x.2
    | none => none
  | .op o k a b => match a.iv bs, b.iv bs with
    | some x, some y => (match o with
      | .add => bndIn k (x.1 + y.1) (x.2 + y.2)
      | .sub => bndIn k (x.1 - y.2) (x.2 - y.1)
      | .mul => cond (decide (0 ≤ x.1) && decide (0 ≤ y.1)) (bndIn k (x.1 * y.1) (x.2 * y.2)) none
      | _ => none)
    | _, _ => none
  | .sh _ _ _ _ => none
/-- the answer to a comparison, by bounds -/
def ivCmp (o : BinOp) (x y : Int × Int) : Option Bool :=
  match o with
  | .lss => cond (decide (x.2 < y.1)) (some true) (cond (decide (y.2 ≤ x.1)) (some false) none)
  | .leq => cond (decide (x.2 ≤ y.1)) (some true) (cond (decide (y.2 < x.1)) (some false) none)
  | .gtr => cond (decide (y.2 < x.1)) (some true) (cond (decide (x.2 ≤ y.1)) (some false) none)
  | .geq => cond (decide (y.2 ≤ x.1)) (some true) (cond (decide (x.2 < y.1)) (some false) none)
  | .eql => cond (decide (x.2 < y.1) || decide (y.2 < x.1)) (some false) (cond (decide (x.2 ≤ y.1) && decide (y.2 ≤ x.1)) (some true) none)
  | .neq => cond (decide (x.2 < y.1) || decide (y.2 < x.1)) (some true) (cond (decide (x.2 ≤ y.1) && decide (y.2 ≤ x.1)) (some false) none)
  | _ => none
def orcB (bs : Bounds) (o : BinOp) (a b : Exp) : Option Bool :=
  match a.iv bs, b.iv bs with
  | some x, some y => ivCmp o x y
  | _, _ => none
def bnds : Bounds → List (BinOp × Exp × Exp × Bool)
  | [] => []
  | x :: r => (.geq, .var x.1, .lit x.2.1, true) :: (.leq, .var x.1, .lit x.2.2, true) :: bnds r

theorem wrap_in (k : IntKind) (n : Int) (h : k.min ≤ n) (h' : n ≤ k.max) : k.wrap n = n := by
  cases k <;> simp [IntKind.min, IntKind.max, IntKind.wrap, IntKind.bits, IntKind.signed] at h h' ⊢ <;> omega
theorem bndOf_sound {E : Env} : ∀ {bs : Bounds}, E.Holds (bnds bs) → ∀ {i : Nat} {x : Int × Int}, bndOf bs i = some x → x.1 ≤ E.rho i ∧ E.rho i ≤ x.2
  | [], _, i, x, h => by cases h
  | y :: bs, hf, i, x, h => by
    simp only [bndOf] at h
    cases e : Nat.beq y.1 i with
    | true =>
      rw [e] at h
      cases h
      have := Nat.eq_of_beq_eq_true e
      subst this
      have h1 := hf (.geq, .var y.1, .lit y.2.1, true) (by simp [bnds])
      have h2 := hf (.leq, .var y.1, .lit y.2.2, true) (by simp [bnds])
      simp only [cmpVal, Exp.eval] at h1 h2
      exact ⟨of_decide_eq_true h1, of_decide_eq_true h2⟩
    | false =>
      rw [e] at h
      exact bndOf_sound (fun z hz => hf z (by simp only [bnds, List.mem_cons]; exact .inr (.inr hz))) h
theorem bndIn_sound {k : IntKind} {l h n : Int} {x : Int × Int} (e : bndIn k l h = some x) (h1 : l ≤ n) (h2 : n ≤ h) : x.1 ≤ k.wrap n ∧ k.wrap n ≤ x.2 := by
  unfold bndIn at e
  obtain ⟨hc, e⟩ := bound_of_cond e
  cases e
  simp only [Bool.and_eq_true, decide_eq_true_eq] at hc
  rw [wrap_in k n (by omega) (by omega)]
  exact ⟨h1, h2⟩
theorem Exp.iv_sound {E : Env} {bs : Bounds} (hf : E.Holds (bnds bs)) : ∀ {e : Exp} {x : Int × Int}, e.iv bs = some x → x.1 ≤ @Exp.eval E e ∧ @Exp.eval E e ≤ x.2
  | .var i, x, h => by simp only [Exp.iv] at h; exact bndOf_sound hf h
  | .lit n, x, h => by simp only [Exp.iv] at h; cases h; simp only [Exp.eval]; omega
  | .conv k a, x, h => by
    simp only [Exp.iv] at h
    split at h
    · rename_i y e
      have := Exp.iv_sound hf e
      exact bndIn_sound h this.1 this.2
    · cases h
  | .op o k a b, x, h => by
    simp only [Exp.iv] at h
    split at h
    · rename_i y z e1 e2
      have h1 := Exp.iv_sound hf e1
      have h2 := Exp.iv_sound hf e2
      simp only [Exp.eval]
      split at h
      · exact bndIn_sound h (by omega) (by omega)
      · exact bndIn_sound h (by omega) (by omega)
      · obtain ⟨hc, h⟩ := bound_of_cond h
        simp only [Bool.and_eq_true, decide_eq_true_eq] at hc
        exact bndIn_sound h (Int.mul_le_mul h1.1 h2.1 hc.2 (by omega)) (Int.mul_le_mul h1.2 h2.2 (by omega) (by omega))
      · cases h
    · cases h
  | .sh _ _ _ _, x, h => by simp only [Exp.iv] at h; cases h
theorem ivCmp_sound {o : BinOp} {x y : Int × Int} {a b : Int} {r : Bool} (h : ivCmp o x y = some r) (ha : x.1 ≤ a ∧ a ≤ x.2) (hb : y.1 ≤ b ∧ b ≤ y.2) : cmpVal o a b = r := by
  have two : ∀ {p q : Bool} {r : Bool} {s t : Bool}, cond p (some s) (cond q (some t) none) = some r → (p = true ∧ r = s) ∨ (q = true ∧ r = t) := fun {p q r s t} h => by
    cases p with
    | true => cases h; exact .inl ⟨rfl, rfl⟩
    | false =>
      cases q with
      | true => cases h; exact .inr ⟨rfl, rfl⟩
      | false => cases h
  cases o <;> simp only [ivCmp] at h <;> try (cases h; done)
  all_goals (rcases two h with ⟨h1, rfl⟩ | ⟨h1, rfl⟩)
  all_goals (simp only [Bool.or_eq_true, Bool.and_eq_true, decide_eq_true_eq] at h1)
  all_goals (simp only [cmpVal])
  all_goals (first | (simp only [decide_eq_true_eq, beq_iff_eq, bne_iff_ne, ne_eq]; omega) | (simp only [decide_eq_false_iff_not, beq_eq_false_iff_ne, ne_eq]; omega) | (simp; omega))
theorem orcB_sound {E : Env} {bs : Bounds} (hf : E.Holds (bnds bs)) : ∀ o a b r, orcB bs o a b = some r → cmpVal o (@Exp.eval E a) (@Exp.eval E b) = r := fun o a b r h => by
  unfold orcB at h
  split at h
  · rename_i x y e1 e2
    exact ivCmp_sound h (Exp.iv_sound hf e1) (Exp.iv_sound hf e2)
  · cases h
abbrev Ctx.withB (C : Ctx) (bs : Bounds) : Ctx := { C with orc := orcB bs }
theorem Ctx.Ok.withB {E : Env} {C : Ctx} {P : Program} (h : @Ctx.Ok E C P) {bs : Bounds} (hf : E.Holds (bnds bs)) : @Ctx.Ok E (C.withB bs) P :=
  ⟨h.ty, h.fn, h.name, h.mixed, orcB_sound hf, h.zv, h.fix⟩
/-- memos upon memos, with unknown numbers that have bounds -/
theorem Memo.nextB {P : Program} {C : Ctx} (hC : ∀ E : Env, @Ctx.Ok E C P) (bs : Bounds) {ms : List Memo} (hms : ∀ m, m ∈ ms → m.Ok P Any) {m : Memo} {n : Nat} (hf : m.facts = bnds bs) (hs : (m.static && m.named P) = true) (h : m.says (evFun (C.withB bs) (memoA (orcB bs) ms) n) = true) : m.Ok P Any := by
  simp only [Bool.and_eq_true] at hs
  exact Memo.ok hs.1 hs.2 h fun E _ hE => @evFun_sound E _ P ((hC E).withB (hf ▸ hE)) _ (memoA_sound (orcB_sound (hf ▸ hE)) (fun _ => trivial) hms) (memoA_heap fun m hm => (hms m hm).1) n
end
end Go.Ev
/-! The evaluator once more, in a form that the kernel takes in small steps: it is the same one. -/
namespace Go.Ev
noncomputable section
open Go Go.RowKit
noncomputable section

def fbind {α β : Type} (o : Option α) (k : α → Option β) : Option β := Option.rec none k o
theorem fbind_eq {α β : Type} (o : Option α) (k : α → Option β) : fbind o k = o.bind k := by cases o <;> rfl
def fsame (H : Heap) (o : Option AV) : Option (AV × Heap) := Option.rec none (fun v => some (v, H)) o
theorem fsame_eq (H : Heap) (o : Option AV) : fsame H o = same H o := by cases o <;> rfl

def fevF : Operand → Tr AV → Option AV := fun x => Operand.rec (motive := fun _ => Tr AV → Option AV) (fun t T => T.get t) (fun v _ => ofValue v) (fun _ _ => none) (fun f _ => some (.fn (.func f) [] [])) x
def fev (T : Tr AV) (x : Operand) : Option AV := fevF x T
theorem fev_eq (T : Tr AV) (x : Operand) : fev T x = ev T x := by cases x <;> rfl
def fcons {α : Type} (o : Option α) (r : Option (List α)) : Option (List α) := Option.rec none (fun v => Option.rec none (fun vs => some (v :: vs)) r) o
def fevs (T : Tr AV) (l : List Operand) : Option (List AV) := List.rec (some []) (fun x _ ih => fcons (fev T x) ih) l
theorem fevs_eq (T : Tr AV) : ∀ l : List Operand, fevs T l = evs T l
  | [] => rfl
  | x :: l => by
    show fcons (fev T x) (fevs T l) = _
    rw [fevs_eq T l, fev_eq]; simp only [evs]
    cases ev T x <;> cases evs T l <;> rfl
def ftag (i : Nat) (o : Option AV) : Option (Nat × AV) := Option.rec none (fun v => some (i, v)) o
def fpart (T : Tr AV) (p : Nat × Operand) : Option (Nat × AV) := Prod.rec (fun i x => ftag i (fev T x)) p
def fparts (T : Tr AV) (l : List (Nat × Operand)) : Option (List (Nat × AV)) := List.rec (some []) (fun x _ ih => fcons (fpart T x) ih) l
theorem fparts_eq (T : Tr AV) : ∀ l : List (Nat × Operand), fparts T l = evParts T l
  | [] => rfl
  | (i, x) :: l => by
    show fcons (ftag i (fev T x)) (fparts T l) = _
    rw [fparts_eq T l, fev_eq]; simp only [evParts]
    cases ev T x <;> cases evParts T l <;> rfl

/-! ### numbers -/
abbrev NArm := IntKind → Int → Int → Option AV
def nAdd : NArm := fun k x y => some (.int k (k.wrap (x + y)))
def nSub : NArm := fun k x y => some (.int k (k.wrap (x - y)))
def nEql : NArm := fun _ x y => some (.bool (x == y))
def nNeq : NArm := fun _ x y => some (.bool (x != y))
def nLss : NArm := fun _ x y => some (.bool (x < y))
def nLeq : NArm := fun _ x y => some (.bool (x ≤ y))
def nGtr : NArm := fun _ x y => some (.bool (x > y))
def nGeq : NArm := fun _ x y => some (.bool (x ≥ y))
def nOther (op : BinOp) : NArm := fun k x y => intArithA op k x y
def narm (op : BinOp) : NArm := match op with
  | .add => nAdd | .sub => nSub | .eql => nEql | .neq => nNeq | .lss => nLss | .leq => nLeq | .gtr => nGtr | .geq => nGeq | op => nOther op
theorem narm_eq (op : BinOp) (k : IntKind) (x y : Int) : narm op k x y = intArithA op k x y := by cases op <;> rfl
def fnum2 (op : BinOp) (k : IntKind) (a : Int) (k' : IntKind) (b : Int) : Option AV :=
  match op with
  | .shl | .shr => shiftA op k a b
  | _ => if k = k' then narm op k a b else none
def numPart : AV → Option (IntKind × Int)
  | .int k n => some (k, n)
  | _ => none
def fbin (C : Ctx) (op : BinOp) (t : TypeId) (x y : AV) : Option AV :=
  Option.rec (binOpA C op t x y) (fun p => Option.rec (binOpA C op t x y) (fun q => fnum2 op p.1 p.2 q.1 q.2) (numPart y)) (numPart x)
theorem fbin_eq (C : Ctx) (op : BinOp) (t : TypeId) (x y : AV) : fbin C op t x y = binOpA C op t x y := by
  cases x <;> try rfl
  cases y <;> try rfl
  rename_i k a k' b
  show fnum2 op k a k' b = _
  unfold fnum2 binOpA
  cases op <;> simp only [narm_eq]

/-! ### operations -/
abbrev Arm := Ctx → CallA → Heap → Nat → Tr AV → Option (AV × Heap)
def boolOf : AV → Option Bool
  | .bool b => some b
  | _ => none
def aMove (x : Operand) : Arm := fun _ _ H _ T => fsame H (fev T x)
def aPick (c a b : Operand) : Arm := fun _ _ H _ T => fbind (fev T c) fun v => fbind (boolOf v) fun t => Bool.rec (motive := fun _ => Option (AV × Heap)) (fsame H (fev T b)) (fsame H (fev T a)) t
def aAlloc (t : TypeId) : Arm := fun C _ H id _ => allocA C H id t
def aBox (_ : TypeId) (x : Operand) : Arm := fun _ _ H id T => fbind (fev T x) fun v => boxA H id v
def aBuild (t : TypeId) (ps : Array (Nat × Operand)) : Arm := fun C _ H _ T => fbind (fparts T ps.toList) fun l => fsame H (buildA C t l)
def aBuildSlice (t : TypeId) (len : Nat) (ps : Array (Nat × Operand)) : Arm := fun C _ H id T => fbind (fparts T ps.toList) fun l => buildSliceA C H id t len l
def aLoad (t : TypeId) (a : Operand) : Arm := fun C _ H _ T => fbind (fev T a) fun v => fsame H (evLoad C H t v)
def unitA (H : Option Heap) : Option (AV × Heap) := Option.rec none (fun H' => some (undefA, H')) H
def aStore (t : TypeId) (a x : Operand) : Arm := fun C _ H _ T => fbind (fev T a) fun v => fbind (fev T x) fun u => unitA (evStore C H t u v)
def nilB (H : Heap) : AV → Option (AV × Heap)
  | .ptr b o => some (.ptr b o, H)
  | .fn (.func f) a c => some (.fn (.func f) a c, H)
  | _ => none
def aNil (x : Operand) : Arm := fun _ _ H _ T => fbind (fev T x) fun v => nilB H v
def aBin (op : BinOp) (t : TypeId) (x y : Operand) (_ : TypeId) : Arm := fun C _ H _ T => fbind (fev T x) fun a => fbind (fev T y) fun b => fsame H (fbin C op t a b)
def aUn (op : UnOp) (_ : TypeId) (x : Operand) : Arm := fun _ _ H _ T => fbind (fev T x) fun a => fsame H (unOpA op a)
def aConv (s d : TypeId) (x : Operand) : Arm := fun C _ H _ T => fbind (fev T x) fun a => fsame H (convertHA C H s d a)
def aField (t : TypeId) (x : Operand) (f : Nat) : Arm := fun C _ H _ T => fbind (fev T x) fun a => fsame H (fieldA C t f a)
def aFieldAddr (t : TypeId) (x : Operand) (f : Nat) : Arm := fun C _ H _ T => fbind (fev T x) fun a => fsame H (fieldAddrA C t f a)
def aIndexAddr (t : TypeId) (x i : Operand) : Arm := fun C _ H _ T => fbind (fev T x) fun a => fbind (fev T i) fun b => fsame H (indexAddrA C t a b)
def aIndex (t : TypeId) (x i : Operand) : Arm := fun C _ H _ T => fbind (fev T x) fun a => fbind (fev T i) fun b => fsame H (indexA C t a b)
def fsomeO (o : Option AV) : Option (Option AV) := Option.rec none (fun v => some (some v)) o
def fevOpt (T : Tr AV) (x : Option Operand) : Option (Option AV) := Option.rec (some none) (fun x => fsomeO (fev T x)) x
theorem fevOpt_eq (T : Tr AV) (x : Option Operand) : fevOpt T x = evOpt T x := by
  cases x with
  | none => rfl
  | some x => show fsomeO (fev T x) = _; rw [fev_eq]; simp only [evOpt]; cases ev T x <;> rfl
def aSlice2 (t : TypeId) (x : Operand) (lo hi : Option Operand) : Arm := fun C _ H _ T => fbind (fev T x) fun a => fbind (fevOpt T lo) fun l => fbind (fevOpt T hi) fun h => fsame H (sliceA C H t a l h)
def aNone : Arm := fun _ _ _ _ _ => none
def aSlice (t : TypeId) (x : Operand) (lo hi m : Option Operand) : Arm := Option.rec (aSlice2 t x lo hi) (fun _ => aNone) m
def tupOf : AV → Option (List AV)
  | .tup vs => some vs
  | _ => none
def aExtract (x : Operand) (i : Nat) : Arm := fun _ _ H _ T => fbind (fev T x) fun v => fbind (tupOf v) fun vs => fsame H vs[i]?
def aMakeSlice (t : TypeId) (l c : Operand) : Arm := fun C _ H id T => fbind (fev T l) fun a => fbind (fev T c) fun b => makeSliceA C H id t a b
def aMakeFunc (f : Fn) (first captured : Array Operand) : Arm := fun _ _ H _ T => fbind (fevs T first.toList) fun a => fbind (fevs T captured.toList) fun c => some (.fn f a c, H)
def aMakeMap (_ : TypeId) (r : Option Operand) : Arm := Option.rec (fun _ _ H id _ => makeMapA H id) (fun _ => aNone) r
def aLookup (t : TypeId) (m k : Operand) (ok : Bool) : Arm := fun C _ H _ T => fbind (fev T m) fun a => fbind (fev T k) fun b => fsame H (lookupA C H t a b ok)
def aMapUpdate (t : TypeId) (m k x : Operand) : Arm := fun C _ H _ T => fbind (fev T m) fun a => fbind (fev T k) fun b => fbind (fev T x) fun c => unitA (mapUpdateA C H t a b c)
def aMakeIface (t : TypeId) (x : Operand) : Arm := fun C _ H _ T => fbind (fev T x) fun a => fsame H (makeInterfaceA C t a)
def aAssert (x : Operand) (_ t : TypeId) (ok : Bool) : Arm := fun C _ H _ T => fbind (fev T x) fun a => fsame H (typeAssertA C a t ok)
def panB (H : Heap) : AV → Option (AV × Heap)
  | .iface t v => some (.pan (.iface t v), H)
  | _ => none
def aPanic (x : Operand) : Arm := fun _ _ H _ T => fbind (fev T x) fun v => panB H v

/-! calls -/
abbrev CArm := Call → Ctx → CallA → Heap → Nat → Tr AV → List AV → Option (AV × Heap)
def valB (call : CallA) (H : Heap) (vs : List AV) : AV → Option (AV × Heap)
  | .fn (.func f) first captured => call H f (first ++ vs ++ captured)
  | _ => none
def cVal (f : Operand) : CArm := fun _ _ call H _ T vs => fbind (fev T f) fun v => valB call H vs v
def cOther (b : Builtin) : CArm := fun c C _call H id _T vs =>
    match b with
    | .len => match c.argTypes[0]?, vs with
      | some t, x :: _ => match C.ty t with
        | some i => same H (lenHA H i.desc x)
        | none => none
      | _, _ => none
    | .append => match c.argTypes.toList, vs with
      | [t, xt], [s, x] => appendHA C H id t xt s x
      | _, _ => none
    | .min => match vs with
      | [x, y] => same H (minMaxA C true x y)
      | _ => none
    | .max => match vs with
      | [x, y] => same H (minMaxA C false x y)
      | _ => none
    | _ => none
def cNone : CArm := fun _ _ _ _ _ _ _ => none
def carm (c : Callee) : CArm := Callee.rec cVal (fun _ _ => cNone) cOther c
def aCall (c : Call) : Arm := fun C call H id T => fbind (fevs T c.args.toList) fun vs => carm c.callee c C call H id T vs
theorem aCall_eq (c : Call) (C : Ctx) (call : CallA) (H : Heap) (id : Nat) (T : Tr AV) : aCall c C call H id T = callA C call H id T c := by
  unfold aCall callA
  rw [fevs_eq, fbind_eq]
  cases evs T c.args.toList with
  | none => rfl
  | some vs =>
    show carm c.callee c C call H id T vs = _
    cases c.callee with
    | value f =>
      show fbind (fev T f) (fun v => valB call H vs v) = match ev T f with | some (.fn (.func f) first captured) => call H f (first ++ vs ++ captured) | _ => none
      rw [fev_eq, fbind_eq]
      cases ev T f with
      | none => rfl
      | some v =>
        cases v <;> try rfl
        rename_i g a d
        cases g <;> rfl
    | invoke r m => rfl
    | builtin b => cases b <;> rfl

def farm (op : Op) : Arm :=
  Op.rec (motive := fun _ => Arm) aMove aMove aPick aAlloc aBox aBuild aBuildSlice (fun _ _ _ _ => aNone) aLoad aStore (fun _ => aNone) (fun _ => aNone) aNil aBin aUn aConv (fun _ _ => aNone) aMakeIface aMakeFunc aMakeMap
    (fun _ _ => aNone) aMakeSlice aSlice aFieldAddr aField aIndexAddr aIndex aLookup aMapUpdate (fun _ _ _ => aNone) (fun _ _ _ _ => aNone) (fun _ _ => aNone) (fun _ _ => aNone) (fun _ => aNone) aAssert aExtract aCall (fun _ => aNone) (fun _ => aNone) aPanic
    (fun _ _ => aNone) (fun _ _ _ => aNone) (fun _ _ => aNone) op
def fevOp (C : Ctx) (call : CallA) (H : Heap) (id : Nat) (T : Tr AV) (o : Oper) : Option (AV × Heap) := farm o.op C call H id T
theorem unitA_eq (o : Option Heap) : unitA o = match o with | some H' => some (undefA, H') | none => none := by cases o <;> rfl
theorem fevOp_eq (C : Ctx) (call : CallA) (H : Heap) (id : Nat) (T : Tr AV) (o : Oper) : fevOp C call H id T o = evOp C call H id T o := by
  unfold fevOp evOp
  cases o.op
  case call c => exact aCall_eq c C call H id T
  case move x => show fsame H (fev T x) = _; rw [fsame_eq, fev_eq]
  case assign x => show fsame H (fev T x) = _; rw [fsame_eq, fev_eq]
  case pick c a b =>
    show aPick c a b C call H id T = _
    unfold aPick; simp only [fev_eq, fsame_eq, fbind_eq]
    cases ev T c with
    | none => rfl
    | some v => cases v <;> try rfl
                rename_i t; cases t <;> rfl
  case slice t x lo hi m =>
    cases m with
    | some m => rfl
    | none =>
      show aSlice2 t x lo hi C call H id T = _
      unfold aSlice2; simp only [fev_eq, fevOpt_eq, fsame_eq, fbind_eq]
      cases ev T x <;> cases evOpt T lo <;> cases evOpt T hi <;> rfl
  case makeMap t r => cases r <;> rfl
  case nilCheck x =>
    show aNil x C call H id T = _
    unfold aNil; simp only [fev_eq, fbind_eq]
    cases ev T x with
    | none => rfl
    | some v => cases v <;> try rfl
                rename_i g a d; cases g <;> rfl
  case extract x i =>
    show aExtract x i C call H id T = _
    unfold aExtract; simp only [fev_eq, fsame_eq, fbind_eq]
    cases ev T x with
    | none => rfl
    | some v => cases v <;> rfl
  case panic x =>
    show aPanic x C call H id T = _
    unfold aPanic; simp only [fev_eq, fbind_eq]
    cases ev T x with
    | none => rfl
    | some v => cases v <;> rfl
  case alloc t => rfl
  case box t x => show aBox t x C call H id T = _; unfold aBox; simp only [fev_eq, fbind_eq]; cases ev T x <;> rfl
  case build t ps => show aBuild t ps C call H id T = _; unfold aBuild; simp only [fparts_eq, fsame_eq, fbind_eq]; cases evParts T ps.toList <;> rfl
  case buildSlice t n ps => show aBuildSlice t n ps C call H id T = _; unfold aBuildSlice; simp only [fparts_eq, fbind_eq]; cases evParts T ps.toList <;> rfl
  case load t a => show aLoad t a C call H id T = _; unfold aLoad; simp only [fev_eq, fsame_eq, fbind_eq]; cases ev T a <;> rfl
  case store t a x =>
    show aStore t a x C call H id T = _; unfold aStore; simp only [fev_eq, fbind_eq, unitA_eq]
    cases ev T a <;> cases ev T x <;> rfl
  case binOp op t x y u => show aBin op t x y u C call H id T = _; unfold aBin; simp only [fev_eq, fsame_eq, fbind_eq, fbin_eq]; cases ev T x <;> cases ev T y <;> rfl
  case unOp op t x => show aUn op t x C call H id T = _; unfold aUn; simp only [fev_eq, fsame_eq, fbind_eq]; cases ev T x <;> rfl
  case convert s d x => show aConv s d x C call H id T = _; unfold aConv; simp only [fev_eq, fsame_eq, fbind_eq]; cases ev T x <;> rfl
  case field t x f => show aField t x f C call H id T = _; unfold aField; simp only [fev_eq, fsame_eq, fbind_eq]; cases ev T x <;> rfl
  case fieldAddr t x f => show aFieldAddr t x f C call H id T = _; unfold aFieldAddr; simp only [fev_eq, fsame_eq, fbind_eq]; cases ev T x <;> rfl
  case indexAddr t x i => show aIndexAddr t x i C call H id T = _; unfold aIndexAddr; simp only [fev_eq, fsame_eq, fbind_eq]; cases ev T x <;> cases ev T i <;> rfl
  case index t x i => show aIndex t x i C call H id T = _; unfold aIndex; simp only [fev_eq, fsame_eq, fbind_eq]; cases ev T x <;> cases ev T i <;> rfl
  case makeSlice t l c => show aMakeSlice t l c C call H id T = _; unfold aMakeSlice; simp only [fev_eq, fbind_eq]; cases ev T l <;> cases ev T c <;> rfl
  case makeFunc f a c => show aMakeFunc f a c C call H id T = _; unfold aMakeFunc; simp only [fevs_eq, fbind_eq]; cases evs T a.toList <;> cases evs T c.toList <;> rfl
  case lookup t m k ok => show aLookup t m k ok C call H id T = _; unfold aLookup; simp only [fev_eq, fsame_eq, fbind_eq]; cases ev T m <;> cases ev T k <;> rfl
  case mapUpdate t m k x => show aMapUpdate t m k x C call H id T = _; unfold aMapUpdate; simp only [fev_eq, fbind_eq, unitA_eq]; cases ev T m <;> cases ev T k <;> cases ev T x <;> rfl
  case makeInterface t x => show aMakeIface t x C call H id T = _; unfold aMakeIface; simp only [fev_eq, fsame_eq, fbind_eq]; cases ev T x <;> rfl
  case typeAssert x u t ok => show aAssert x u t ok C call H id T = _; unfold aAssert; simp only [fev_eq, fsame_eq, fbind_eq]; cases ev T x <;> rfl
  all_goals rfl
/-! ### regions -/
abbrev R := Option (X × St)
def fputK (T : Tr AV) (N : Nat) (H : Heap) (dst : Option Tmp) (v : AV) (k : St → R) : R :=
  Option.rec (k ⟨T, N, H⟩) (fun d => Bool.rec (motive := fun _ => R) none (k ⟨T.set d v, N, H⟩) (Nat.blt d N)) dst
theorem fputK_eq (T : Tr AV) (N : Nat) (H : Heap) (dst : Option Tmp) (v : AV) (k : St → R) : fputK T N H dst v k = match putA T N H dst v with | some s' => k s' | none => none := by
  unfold fputK putA
  cases dst with
  | none => rfl
  | some d => simp only; cases Nat.blt d N <;> rfl
def wantB (want : Bool) : AV → Option Bool
  | .bool b => some (b == want)
  | .tup [] => some false
  | _ => none
def guardOf (ops : Array Oper) (o : Oper) : Option (Option (Tmp × Bool)) :=
  match o.guard with
  | none => some none
  | some (j, want) => match (ops[j]?).bind (·.dst) with
    | some d => some (some (d, want))
    | none => none
def fguard (T : Tr AV) (g : Option (Tmp × Bool)) : Option Bool := Option.rec (some true) (fun p => fbind (T.get p.1) fun v => wantB p.2 v) g
def fwanted (ops : Array Oper) (T : Tr AV) (o : Oper) : Option Bool := fbind (guardOf ops o) fun g => fguard T g
theorem fwanted_eq (ops : Array Oper) (T : Tr AV) (o : Oper) : fwanted ops T o = wantedA ops T o := by
  unfold fwanted wantedA guardOf
  rw [fbind_eq]
  cases o.guard with
  | none => rfl
  | some p =>
    obtain ⟨j, want⟩ := p
    simp only
    cases (ops[j]?).bind (·.dst) with
    | none => rfl
    | some d =>
      show fbind (T.get d) _ = _
      rw [fbind_eq]
      simp only
      cases T.get d with
      | none => rfl
      | some v =>
        cases v <;> try rfl
        rename_i vs; cases vs <;> rfl
def yieldAt (o : Oper) : Option (Operand × List Operand) :=
  match o.op with
  | .call c => match c.callee with
    | .value f => some (f, c.args.toList)
    | _ => none
  | _ => none
def yldOf : AV → Option Nat
  | .yld b => some b
  | _ => none
def fyield (T : Tr AV) (o : Oper) : Option (Nat × List AV) := fbind (yieldAt o) fun p => fbind (fev T p.1) fun v => fbind (yldOf v) fun b => fbind (fevs T p.2) fun vs => some (b, vs)
theorem fyield_eq (T : Tr AV) (o : Oper) : fyield T o = yieldOf T o := by
  unfold fyield yieldOf yieldAt
  simp only [fbind_eq, fev_eq, fevs_eq]
  cases o.op <;> try rfl
  rename_i c
  simp only
  cases c.callee <;> try rfl
  rename_i f
  simp only [Option.bind_some]
  cases ev T f with
  | none => rfl
  | some v =>
    cases v <;> try rfl
    simp only [Option.bind_some, yldOf]
    cases evs T c.args.toList <;> rfl
def fdone (T : Tr AV) (N : Nat) (dst : Option Tmp) (k : St → R) (v : AV) (H' : Heap) : R :=
  Option.rec (fputK T N H' dst v k) (fun x => some (.panic x, ⟨T, N, H'⟩)) v.panics
def fplain (C : Ctx) (call : CallA) (id : Nat) (o : Oper) (k : St → R) (T : Tr AV) (N : Nat) (H : Heap) : R :=
  Option.rec none (fun p => Prod.rec (fun v H' => fdone T N o.dst k v H') p) (fevOp C call H id T o)
def fround (yc : YCall) (dst : Option Tmp) (k : St → R) (T : Tr AV) (N : Nat) (H : Heap) (p : Nat × List AV) : R :=
  fbind (yc H p.1 p.2) fun H' => fputK T N H' dst (.bool true) k
def fwant (C : Ctx) (call : CallA) (yc : YCall) (id : Nat) (o : Oper) (k : St → R) (T : Tr AV) (N : Nat) (H : Heap) : R :=
  Option.rec (fplain C call id o k T N H) (fun p => fround yc o.dst k T N H p) (fyield T o)
def fone (C : Ctx) (call : CallA) (yc : YCall) (ops : Array Oper) (base : Nat) (o : Oper) (ih : Nat → St → R) (i : Nat) (T : Tr AV) (N : Nat) (H : Heap) : R :=
  fbind (fwanted ops T o) fun b => Bool.rec (motive := fun _ => R) (fputK T N H o.dst undefA (ih (Nat.succ i))) (fwant C call yc (Nat.add base i) o (ih (Nat.succ i)) T N H) b
def fops (C : Ctx) (call : CallA) (yc : YCall) (ops : Array Oper) (base : Nat) (l : List Oper) : Nat → St → R :=
  List.rec (motive := fun _ => Nat → St → R) (fun _ s => some (.normal, s)) (fun o _ ih i s => St.rec (fun T N H => fone C call yc ops base o ih i T N H) s) l
theorem fops_eq (C : Ctx) (call : CallA) (yc : YCall) (ops : Array Oper) (base : Nat) : ∀ (l : List Oper) (i : Nat) (s : St), fops C call yc ops base l i s = evOps C call yc ops base i l s
  | [], i, s => by simp only [evOps]; rfl
  | o :: l, i, ⟨T, N, H⟩ => by
    show fone C call yc ops base o (fops C call yc ops base l) i T N H = _
    have ih : fops C call yc ops base l (Nat.succ i) = evOps C call yc ops base (i + 1) l := funext fun s => fops_eq C call yc ops base l (i + 1) s
    simp only [evOps, St.cut_eq]
    unfold fone
    rw [fwanted_eq, fbind_eq, ih]
    cases wantedA ops T o with
    | none => rfl
    | some b =>
      cases b with
      | false => show fputK _ _ _ _ _ _ = _; rw [fputK_eq]; rfl
      | true =>
        show fwant _ _ _ _ _ _ _ _ _ = _
        unfold fwant
        rw [fyield_eq]
        cases yieldOf T o with
        | some p =>
          obtain ⟨b, vs⟩ := p
          show fbind (yc H b vs) _ = _
          rw [fbind_eq]
          simp only
          cases yc H b vs with
          | none => rfl
          | some H' => show fputK _ _ _ _ _ _ = _; rw [fputK_eq]; rfl
        | none =>
          show fplain _ _ _ _ _ _ _ _ = _
          unfold fplain
          rw [fevOp_eq]
          show Option.rec (motive := fun _ => R) none (fun p => Prod.rec (motive := fun _ => R) (fun v H' => fdone T N o.dst (evOps C call yc ops base (i + 1) l) v H') p) (evOp C call H (base + i) T o) = _
          simp only
          cases evOp C call H (base + i) T o with
          | none => rfl
          | some p =>
            obtain ⟨v, H'⟩ := p
            show fdone _ _ _ _ _ _ = _
            unfold fdone
            cases v <;> first | rfl | (show fputK _ _ _ _ _ _ = _; rw [fputK_eq]; rfl)

/-! ### code -/
abbrev CF := Code → St → R
abbrev SArm := Ctx → CallA → CF → CF → St → R
def fthen (k : St → R) (r : R) : R := Option.rec none (fun p => Prod.rec (fun x s => X.rec (motive := fun _ => R) (k s) (fun id => some (.exit id, s)) (some (.ret, s)) (fun v => some (.panic v, s)) x) p) r
theorem fthen_eq (k : St → R) (r : R) : fthen k r = match r with | some (.normal, s') => k s' | r => r := by
  cases r with
  | none => rfl
  | some p => obtain ⟨x, s⟩ := p; cases x <;> rfl
def sSkip : SArm := fun _ _ _ _ s => some (.normal, s)
def fdrawn (C : Ctx) (call : CallA) (ops : Array Oper) (s : St) : R := match coinA C ops s with
  | some s' => some (.normal, s')
  | none => evDraw C call ops s
def fstraight (C : Ctx) (call : CallA) (fC : CF) (ops : Array Oper) (s : St) : R :=
  St.rec (fun T N H => fops C call (roundA fC) ops H.next ops.toList 0 ⟨T, N, { H with next := Nat.add H.next ops.size }⟩) s
def sRegion (_ : Nat) (ops : Array Oper) (draw : Bool) : SArm := fun C call fC _ s =>
  Bool.rec (motive := fun _ => R) none (Bool.rec (motive := fun _ => R) (fstraight C call fC ops s) (fdrawn C call ops s) draw) (noDefer ops)
def sSeq (a b : Code) : SArm := fun _ _ fC _ s => fthen (fC b) (fC a s)
def fboth (fC : CF) (a b : Code) (s : St) : R := match fC a { s with H := { s.H with next := s.H.next + (aheadIn b - aheadIn a), log := [] } }, fC b { s with H := { s.H with log := [] } } with
        | some (.normal, sa), some (.normal, sb) => (match joinSt s sa sb with
          | some s' => some (.normal, s')
          | none => none)
        | _, _ => none
def fany (fC : CF) (a b : Code) (s : St) (v : AV) : R := match v with
  | .anyb => fboth fC a b s
  | _ => none
def sCond (x : Operand) (a b : Code) : SArm := fun _ _ fC _ s => fbind (fev s.T x) fun v => Option.rec (fany fC a b s v) (fun t => Bool.rec (motive := fun _ => R) (fC b s) (fC a s) t) (boolOf v)
def fblock (id : Nat) (r : R) : R := Option.rec none (fun p => Prod.rec (fun x s => X.rec (motive := fun _ => R) (some (.normal, s)) (fun i => some (cond (Nat.beq i id) .normal (.exit i), s)) (some (.ret, s)) (fun v => some (.panic v, s)) x) p) r
theorem fblock_eq (id : Nat) (r : R) : fblock id r = match r with | some (.exit i, s') => some (cond (Nat.beq i id) .normal (.exit i), s') | r => r := by
  cases r with
  | none => rfl
  | some p => obtain ⟨x, s⟩ := p; cases x <;> rfl
def sBlock (id : Nat) (b : Code) : SArm := fun _ _ fC _ s => fblock id (fC b s)
def sLoop (b : Code) : SArm := fun _ _ _ fL s => fL b s
def sExit (id : Nat) : SArm := fun _ _ _ _ s => some (.exit id, s)
def sRet : SArm := fun _ _ _ _ s => some (.ret, s)
def sNone : SArm := fun _ _ _ _ _ => none
def sRange (f : Operand) (ps : Array Tmp) (assign body : Code) : SArm := fun C call _ _ s =>
  cond C.loops (match ev s.T f with
      | some (.fn (.func g) first captured) => (match ({ s.H with next := s.H.next + 1 } : Heap).add s.H.next { cs := [], es := 0, kind := .loop .ready ⟨s.T, s.N, ps.toList, assign, body⟩ } with
        | some H1 => (match call H1 g (first ++ [.yld s.H.next] ++ captured) with
          | some (.pan _, _) => none
          | some (_, H2) => (match setLoop H2 s.H.next .ready .dead with
            | some H3 => some (.normal, { s with H := H3 })
            | none => none)
          | none => none)
        | none => none)
      | _ => none) none
def sarm (c : Code) : SArm :=
  Code.rec (motive := fun _ => SArm) sSkip sRegion (fun a b _ _ => sSeq a b) (fun x a b _ _ => sCond x a b) (fun id b _ => sBlock id b) (fun b _ => sLoop b) (fun f ps a b _ _ => sRange f ps a b) sExit (fun _ _ => sNone) (fun _ => sSkip) (fun _ => sNone) sRet (fun _ => sNone) c
def fcl (C : Ctx) (call : CallA) (n : Nat) : CF × CF :=
  Nat.rec (fun _ _ => none, fun _ _ => none) (fun _ ih => (fun c s => sarm c C call ih.1 ih.2 s, fun b s => fthen (ih.2 b) (ih.1 b s))) n
theorem fcl_eq (C : Ctx) (call : CallA) : ∀ n : Nat, fcl C call n = (evCode C call n, evLoop C call n)
  | 0 => by
    show ((fun _ _ => none, fun _ _ => none) : CF × CF) = _
    refine Prod.ext (funext fun c => funext fun s => ?_) (funext fun c => funext fun s => ?_)
    · simp only [evCode]
    · simp only [evLoop]
  | n + 1 => by
    have ih := fcl_eq C call n
    show ((fun c s => sarm c C call (fcl C call n).1 (fcl C call n).2 s, fun b s => fthen ((fcl C call n).2 b) ((fcl C call n).1 b s)) : CF × CF) = _
    rw [ih]
    refine Prod.ext (funext fun c => funext fun s => ?_) (funext fun b => funext fun s => ?_)
    · show sarm c C call (evCode C call n) (evLoop C call n) s = evCode C call (n + 1) c s
      cases c <;> simp only [evCode] <;> try rfl
      case region id ops draw =>
        show sRegion id ops draw C call (evCode C call n) (evLoop C call n) s = _
        unfold sRegion
        cases noDefer ops with
        | false => rfl
        | true =>
          cases draw with
          | true => rfl
          | false =>
            obtain ⟨T, N, H⟩ := s
            show fops _ _ _ _ _ _ _ _ = _
            rw [fops_eq]; rfl
      case seq a b =>
        show fthen _ _ = _; rw [fthen_eq]
        generalize evCode C call n a s = r
        cases r with
        | none => rfl
        | some p => obtain ⟨x, s⟩ := p; cases x <;> rfl
      case cond x a b =>
        show fbind (fev s.T x) _ = _
        rw [fbind_eq, fev_eq]
        cases ev s.T x with
        | none => rfl
        | some v =>
          cases v <;> try rfl
          rename_i t; cases t <;> rfl
      case block id b =>
        show fblock _ _ = _; rw [fblock_eq]
        generalize evCode C call n b s = r
        cases r with
        | none => rfl
        | some p => obtain ⟨x, s⟩ := p; cases x <;> rfl
    · show fthen (evLoop C call n b) (evCode C call n b s) = evLoop C call (n + 1) b s
      rw [fthen_eq]; simp only [evLoop]
      generalize evCode C call n b s = r
      cases r with
      | none => rfl
      | some p => obtain ⟨x, s⟩ := p; cases x <;> rfl
def fbody (C : Ctx) (call : CallA) (n : Nat) (H : Heap) (fn : Func) (code : Code) (args : List AV) : Option (AV × Heap) :=
  match (fcl C call n).1 code { T := enterT 0 args .nil, N := fn.ntmps, H := { H with log := [] } } with
            | some (.exit _, _) => none
            | some (.panic x, s) => some (.pan x, H.back s.H)
            | some (_, s) => match resultsA C s fn.results.toList with
              | some vs => some (shut vs, H.back s.H)
              | none => none
            | none => none
def fenter (C : Ctx) (call : CallA) (n : Nat) (H : Heap) (f : FuncId) (args : List AV) : Option (AV × Heap) :=
  fbind (C.fn f) fun fn => fbind fn.body fun code => Bool.rec (motive := fun _ => Option (AV × Heap)) none
    (Option.rec (fbody C call n H fn code args) (fun F => evDefer { C with loops := false } call n H fn args F) (lateForm code)) (Nat.ble args.length fn.ntmps)
def fcall1 (C : Ctx) (prim : CallA) (n : Nat) (call : CallA) (H : Heap) (f : FuncId) (args : List AV) : Option (AV × Heap) :=
  Option.rec (fenter C call n H f args) (fun r => some r) (prim H f args)
/-- the same as evFun -/
def fFun (C : Ctx) (prim : CallA) (n : Nat) : CallA := Nat.rec (motive := fun _ => CallA) (fun _ _ _ => none) (fun n ih H f args => fcall1 C prim n ih H f args) n
theorem fFun_eq (C : Ctx) (prim : CallA) : ∀ n : Nat, fFun C prim n = evFun C prim n
  | 0 => by
    refine funext fun H => funext fun f => funext fun args => ?_
    simp only [evFun]; rfl
  | n + 1 => by
    refine funext fun H => funext fun f => funext fun args => ?_
    show fcall1 C prim n (fFun C prim n) H f args = _
    rw [fFun_eq C prim n]
    unfold fcall1
    simp only [evFun]
    cases prim H f args with
    | some r => rfl
    | none =>
      show fenter _ _ _ _ _ _ = _
      unfold fenter
      simp only [fbind_eq]
      cases C.fn f with
      | none => rfl
      | some fn =>
        simp only [Option.bind_some]
        cases fn.body with
        | none => rfl
        | some code =>
          simp only [Option.bind_some]
          cases Nat.ble args.length fn.ntmps with
          | false => rfl
          | true =>
            simp only [cond_true]
            cases lateForm code with
            | some F => rfl
            | none =>
              show fbody _ _ _ _ _ _ _ = _
              unfold fbody
              rw [fcl_eq]
              rfl
theorem Memo.nextF {P : Program} {C : Ctx} (hC : ∀ E : Env, @Ctx.Ok E C P) (bs : Bounds) {ms : List Memo} (hms : ∀ m, m ∈ ms → m.Ok P Any) {m : Memo} {n : Nat} (hf : m.facts = bnds bs) (hs : (m.static && m.named P) = true) (h : m.says (fFun (C.withB bs) (memoA (orcB bs) ms) n) = true) : m.Ok P Any :=
  Memo.nextB hC bs hms hf hs (by rw [← fFun_eq]; exact h)
end
end
end Go.Ev
/-! strconv.FormatInt at base 10, by its contract: the table that it reads lies in block 0. -/
namespace Go.Ev
noncomputable section
open Go Go.RowKit
variable [Env]

def decF : Nat → Nat → Option (List UInt8)
  | 0, _ => none
  | k + 1, u => cond (Nat.blt u 10) (some [UInt8.ofNat (48 + u)]) (match decF k (u / 10) with
    | some l => some (l ++ [UInt8.ofNat (48 + u % 10)])
    | none => none)
omit [Env] in
theorem decF_sound : ∀ {k u : Nat} {l : List UInt8}, decF k u = some l → Lib.decDigits u = l
  | 0, u, l, h => by simp only [decF] at h; cases h
  | k + 1, u, l, h => by
    simp only [decF] at h
    rw [Lib.decDigits]
    cases e : Nat.blt u 10 with
    | true =>
      rw [e] at h; cases h
      rw [dif_pos (by simpa [Nat.blt_eq] using e)]
    | false =>
      rw [e] at h
      have hn : ¬ u < 10 := by rw [← Nat.blt_eq, e]; simp
      simp only [cond_false] at h
      rw [dif_neg hn]
      split at h
      · rename_i l' e1
        cases h
        rw [decF_sound e1]
      · cases h
/-- the table as a block -/
def tabObj : Go.Ev.Obj := ⟨[.int .u64 1, .int .u64 10, .int .u64 100, .int .u64 1000, .int .u64 10000, .int .u64 100000, .int .u64 1000000, .int .u64 10000000, .int .u64 100000000, .int .u64 1000000000, .int .u64 10000000000, .int .u64 100000000000, .int .u64 1000000000000, .int .u64 10000000000000, .int .u64 100000000000000, .int .u64 1000000000000000, .int .u64 10000000000000000, .int .u64 100000000000000000, .int .u64 1000000000000000000, .int .u64 10000000000000000000], 1, .old⟩
omit [Env] in
theorem tabObj_cs : tabObj.cs = Lib.pow10Tab.map fun z => AV.int .u64 z := by kernel_rfl
def fmtP (H : Heap) : List AV → Option (AV × Heap)
  | [.int .i64 (.ofNat u), .int .i64 (.ofNat b)] => match H.get 0, decF 19 u with
    | some o, some l => cond (objBe o tabObj && Nat.beq b 10 && Nat.ble u 1000000000) (some (.str l, H)) none
    | _, _ => none
  | _ => none
def fmtAt (f : FuncId) : CallA := fun H g args => cond (Nat.beq g f) (fmtP H args) none
omit [Env] in
theorem fmtP_inv {H H' : Heap} {args : List AV} {v : AV} (h : fmtP H args = some (v, H')) : H' = H ∧ H.get 0 = some tabObj ∧ ∃ u l, args = [.int .i64 (u : Nat), .int .i64 10] ∧ v = .str l ∧ Lib.itoa (u : Nat) = l ∧ u ≤ 1000000000 := by
  unfold fmtP at h
  split at h
  · rename_i u b
    split at h
    · rename_i o l e1 e2
      obtain ⟨hc, h⟩ := bound_of_cond h
      cases h
      simp only [Bool.and_eq_true, Tr.nbeq, decide_eq_true_eq, Nat.ble_eq] at hc
      obtain ⟨⟨h1, h2⟩, h3⟩ := hc
      subst h2
      exact ⟨rfl, by rw [e1, objBe_sound h1], u, l, rfl, rfl, by rw [Lib.itoa_nonneg, decF_sound e2], h3⟩
    · cases h
  · cases h
omit [Env] in
theorem fmt_heap (f : FuncId) : CallHeap (fmtAt f) := by
  intro H g args v H' h
  obtain ⟨_, h⟩ := bound_of_cond h
  rw [(fmtP_inv h).1]; exact HRel.refl _
/-- where the table lies -/
def tabLoc (g : Nat) : Loc := ⟨g, 0, 20, 1⟩
theorem tab_of {P : Program} {name : String} {g : Nat} (hg : P.globalNamed name = some g) (hgl : Env.gl 0 = some (tabLoc g)) {ι : Map} {H : Heap} {w : World} (hw : WR ι H w) (ho : H.get 0 = some tabObj) : Lib.TabIs P w name .u64 Lib.pow10Tab := by
  have hι := hw.glob 0 _ hgl
  have hoc : H.cells 0 = some tabObj := by unfold Heap.cells; rw [ho]; rfl
  obtain ⟨c, et, lo, hi, h1, h2, h3, h4, h5, h6⟩ := hw.cells hι hoc
  unfold Lib.TabIs World.var?
  rw [hg]
  have h1' : w.heap[g]? = some (.cells c et (lo, hi)) := h1
  show (match w.heap[g]? with | some (.cells cs _ _) => some cs | _ => none) = _
  rw [h1']
  simp only [Option.some.injEq]
  have hlen : c.size = 20 := h2
  apply Array.ext
  · simp [hlen, Lib.pow10Tab_length]
  · intro i hi1 hi2
    have hi' : i < 20 := by omega
    have hx : tabObj.cs[i]? = some (AV.int .u64 (Lib.pow10Tab[i]'(by rw [Lib.pow10Tab_length]; exact hi'))) := by
      rw [tabObj_cs, List.getElem?_map, List.getElem?_eq_getElem (by rw [Lib.pow10Tab_length]; exact hi')]; rfl
    obtain ⟨v, hv, hr⟩ := h6 i _ hx
    simp only [VR] at hr
    have hv' : c[0 + i]? = some v := hv
    rw [Nat.zero_add, Array.getElem?_eq_getElem hi1] at hv'
    cases hv'
    rw [hr]; simp
theorem fmt_sound {P : Program} {f : FuncId} {name : String} {g : Nat} (hfn : ∃ fn, P.funcs[f]? = some fn ∧ fn.body.isSome = true ∧ fn.name ≠ "runtime.NumGoroutine") (hg : P.globalNamed name = some g) (hgl : Env.gl 0 = some (tabLoc g))
    (hF : ∀ (n : Int), -9223372036854775808 ≤ n → n ≤ 9223372036854775807 → ∀ w : World, Lib.TabIs P w name .u64 Lib.pow10Tab → Calls P f #[.int .i64 n, .int .i64 10] w fun e w' => e = .returned (.string ⟨(Lib.itoa n).toArray⟩) ∧ Below w.heap.size w w') : CallSound P (fmtAt f) := by
  intro H g' args v H' h
  replace h := bound_of_cond h
  obtain ⟨hg', h2⟩ := h
  simp only [Tr.nbeq, decide_eq_true_eq] at hg'
  subst hg'
  obtain ⟨rfl, ho, u, l, rfl, rfl, hl, hu⟩ := fmtP_inv h2
  refine ⟨hfn, fun ι w args' hw ha => ?_⟩
  simp only [VRs, VR] at ha
  obtain ⟨_, _, rfl, ⟨_, _, rfl, rfl, rfl⟩, rfl⟩ := ha
  refine (hF (u : Nat) (by omega) (by omega) w (tab_of hg hgl hw ho)).mono ?_
  rintro e w' ⟨rfl, hb⟩
  exact ⟨ι, EndsAs.of (by simp only [VR]; rw [hl]), step_below hw hb⟩
end
end Go.Ev
/-! Memos by levels: each leans on the one below. -/
namespace Go.Ev
noncomputable section
open Go Go.RowKit
noncomputable section
def Memo.levCk (P : Program) (C : Ctx) (B : Nat → Bounds) (L : Nat → Memo) (n : Nat) : Bool :=
  (L (n + 1)).says (fFun (C.withB (B (n + 1))) (memoA (orcB (B (n + 1))) [L n]) 2000) && ((L (n + 1)).static && (L (n + 1)).named P)
def Memo.lev0 (P : Program) (C : Ctx) (B : Nat → Bounds) (L : Nat → Memo) : Bool :=
  (L 0).says (fFun (C.withB (B 0)) (memoA (orcB (B 0)) []) 2000) && ((L 0).static && (L 0).named P)
theorem Memo.levels {P : Program} {C : Ctx} (hC : ∀ E : Env, @Ctx.Ok E C P) {B : Nat → Bounds} {L : Nat → Memo} (hf : ∀ n, (L n).facts = bnds (B n)) {top : Nat} (h0 : Memo.lev0 P C B L = true)
    (hs : ∀ n, n < top → Memo.levCk P C B L n = true) : ∀ n, n ≤ top → (L n).Ok P Any
  | 0, _ => by
    simp only [Memo.lev0, Bool.and_eq_true] at h0
    exact Memo.nextF hC (B 0) (ms := []) Memo.none' (hf 0) (by rw [Bool.and_eq_true]; exact h0.2) h0.1
  | n + 1, h => by
    have hk := hs n (by omega)
    simp only [Memo.levCk, Bool.and_eq_true] at hk
    exact Memo.nextF hC (B (n + 1)) (ms := [L n]) (fun m hm => by rw [List.mem_singleton.1 hm]; exact Memo.levels hC hf h0 hs n (by omega)) (hf (n + 1)) (by rw [Bool.and_eq_true]; exact hk.2) hk.1
theorem all_range {p : Nat → Bool} {a k n : Nat} (h : (List.range' a k).all p = true) (h1 : a ≤ n) (h2 : n < a + k) : p n = true :=
  List.all_eq_true.1 h n (by rw [List.mem_range'_1]; omega)
end
end
end Go.Ev
/-! Families of memos as known calls. -/
namespace Go.Ev
noncomputable section
open Go Go.RowKit
/-- a family of memos: which one, the arguments say -/
def famA (orc : BinOp → Exp → Exp → Option Bool) (f : FuncId) (sel : List AV → Nat) (low top : Nat) (L : Nat → Memo) : CallA := fun H g args =>
  cond (Nat.beq g f) (cond (Nat.ble low (sel args) && Nat.ble (sel args) top) (memoA orc [L (sel args)] H g args) none) none
theorem famA_sound {P : Program} {E : Env} {orc : BinOp → Exp → Exp → Option Bool} (horc : ∀ o a b r, orc o a b = some r → cmpVal o (@Exp.eval E a) (@Exp.eval E b) = r) {f : FuncId} {sel : List AV → Nat} {low top : Nat} {L : Nat → Memo}
    (hL : ∀ k, low ≤ k → k ≤ top → (L k).Ok P Any) : @CallSound E P (famA orc f sel low top L) := fun H g args v H' h => by
  obtain ⟨_, h⟩ := bound_of_cond h
  obtain ⟨hc, h⟩ := bound_of_cond h
  simp only [Bool.and_eq_true, Nat.ble_eq] at hc
  exact memoA_sound horc (D := Any) (fun _ => trivial) (fun m hm => by rw [List.mem_singleton.1 hm]; exact hL _ hc.1 hc.2) H g args v H' h
theorem famA_heap {orc : BinOp → Exp → Exp → Option Bool} {f : FuncId} {sel : List AV → Nat} {low top : Nat} {L : Nat → Memo} (hL : ∀ k, low ≤ k → k ≤ top → (L k).static = true) : CallHeap (famA orc f sel low top L) := fun H g args v H' h => by
  obtain ⟨_, h⟩ := bound_of_cond h
  obtain ⟨hc, h⟩ := bound_of_cond h
  simp only [Bool.and_eq_true, Nat.ble_eq] at hc
  exact memoA_heap (fun m hm => by rw [List.mem_singleton.1 hm]; exact hL _ hc.1 hc.2) H g args v H' h
/-- a memo upon any known calls -/
theorem Memo.nextG {P : Program} {C : Ctx} (hC : ∀ E : Env, @Ctx.Ok E C P) (bs : Bounds) {prim : CallA} (hp : ∀ E : Env, E.Holds (bnds bs) → @CallSound E P prim) (hh : CallHeap prim) {m : Memo} {n : Nat} (hf : m.facts = bnds bs) (hs : (m.static && m.named P) = true) (h : m.says (fFun (C.withB bs) prim n) = true) : m.Ok P Any := by
  simp only [Bool.and_eq_true] at hs
  rw [fFun_eq] at h
  exact Memo.ok hs.1 hs.2 h fun E _ hE => @evFun_sound E _ P ((hC E).withB (hf ▸ hE)) _ (hp E (hf ▸ hE)) hh n
end
end Go.Ev
