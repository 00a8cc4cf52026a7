import Derived.Test.YtldgccbiikahgabGreatEvFin
import Derived.Lib.Join
namespace Go.Ev
open Go Go.RowKit
variable [Env]

/-- a world that is as it was below its end -/
theorem step_below {ids : Nat → Prop} {ι : Map} {H : Heap} {w w' : World} (h : WR ι H w) (hb : Below w.heap.size w w') : Step ids ι H w ι H w' := by
  have hlt : ∀ b l, ι b = some l → l.blk < w.heap.size := fun b l e => by
    cases g : H.get b with
    | none => exact (h.vis b l e g).elim
    | some o =>
      exact (h.obj b l o e g).lt
  refine ⟨Ext.refl _, ⟨fun b l o e g => ?_, h.apart, h.new, h.vis⟩, Nat.le_refl _, fun _ h k => (k h).elim, fun _ h => h, fun b l e _ => h.vis b l e, hb.os, hb.tape, hb.output, hb.size, fun c hc _ => hb.block c hc, fun _ _ h k => by rw [h] at k; cases k⟩
  exact (h.obj b l o e g).mono (Ext.refl _) (hb.block l.blk (hlt b l e))

def strsA : List AV → Option (List (List UInt8))
  | [] => some []
  | .str s :: xs => match strsA xs with
    | some r => some (s :: r)
    | none => none
  | _ :: _ => none
theorem strsA_sound {ι : Map} : ∀ {cs : List AV} {vs : List Value} {xs : List (List UInt8)}, strsA cs = some xs → VRs ι cs vs → vs = xs.map fun s => Value.string ⟨⟨s⟩⟩
  | [], vs, xs, h, r => by simp only [strsA] at h; cases h; simp only [VRs] at r; subst r; rfl
  | x :: cs, vs, xs, h, r => by
    simp only [VRs] at r
    obtain ⟨y, ys, hy, hys, rfl⟩ := r
    cases x <;> simp only [strsA] at h <;> try (cases h; done)
    split at h
    · rename_i r e
      cases h
      simp only [VR] at hy; subst hy
      rw [strsA_sound e hys]; rfl
    · cases h

/-- strings.Join, by its contract -/
def joinP (H : Heap) : List AV → Option (AV × Heap)
  | [.sl0, .str _] => some (.str [], H)
  | [.sl b o n, .str sep] => match H.cells b with
    | some ob => cond (Nat.ble (o + n) ob.cs.length && Nat.beq ob.es 1)
      (match strsA ((ob.cs.drop o).take n) with
        | some xs => cond (Nat.ble (Lib.join xs sep).length 140737488355328 && Nat.ble n 140737488355328) (some (.str (Lib.join xs sep), H)) none
        | none => none) none
    | none => none
  | _ => none
def joinAt (f : FuncId) : CallA := fun H g args => cond (Nat.beq g f) (joinP H args) none

omit [Env] in
theorem joinP_heap {H H' : Heap} {args : List AV} {v : AV} (h : joinP H args = some (v, H')) : H' = H := by
  unfold joinP at h
  split at h
  · cases h; rfl
  · split at h
    · obtain ⟨_, h⟩ := bound_of_cond h
      split at h
      · obtain ⟨_, h⟩ := bound_of_cond h; cases h; rfl
      · cases h
    · cases h
  · cases h

omit [Env] in
theorem join_heap (f : FuncId) : CallHeap (joinAt f) := by
  intro H g args v H' h
  obtain ⟨_, h⟩ := bound_of_cond h
  rw [joinP_heap h]; exact HRel.refl _

theorem join_sound {P : Program} {f : FuncId} (hfn : ∃ fn, P.funcs[f]? = some fn ∧ fn.body.isSome = true ∧ fn.name ≠ "runtime.NumGoroutine")
    (h0 : ∀ (a : Option Addr) (c : Nat) (sep : ByteArray) (w : World), Calls P f #[.slice a 0 c, .string sep] w fun e w' => e = .returned (.string ⟨#[]⟩) ∧ w' = w)
    (hJ : ∀ (bk o c : Nat) (xs : List ByteArray) (sep : ByteArray) (w : World), (∀ (j : Nat) x, xs[j]? = some x → w.cell? ⟨bk, o + j, none⟩ = some (.string x)) → bk < w.heap.size → xs.length ≤ 140737488355328 → xs.length ≤ c →
      (Lib.join (xs.map (·.data.toList)) sep.data.toList).length ≤ 140737488355328 →
      Calls P f #[.slice (some ⟨bk, o, none⟩) xs.length c, .string sep] w fun e w' => e = .returned (.string ⟨(Lib.join (xs.map (·.data.toList)) sep.data.toList).toArray⟩) ∧ Below w.heap.size w w') :
    CallSound P (joinAt f) := by
  intro H g args v H' h
  replace h := bound_of_cond h
  obtain ⟨hg, h⟩ := h
  simp only [Tr.nbeq, decide_eq_true_eq] at hg
  subst hg
  refine ⟨hfn, fun ι w args' hw ha => ?_⟩
  have hh := joinP_heap h
  subst hh
  unfold joinP at h
  split at h
  · cases h
    simp only [VRs, VR] at ha
    obtain ⟨_, _, rfl, ⟨_, _, rfl, rfl, rfl⟩, rfl⟩ := ha
    refine (h0 none 0 _ w).mono ?_
    rintro e w' ⟨rfl, rfl⟩
    exact ⟨_, ι, rfl, by simp only [VR], Step.refl hw⟩
  · rename_i b o n sep
    split at h
    · rename_i ob e1
      obtain ⟨hc, h⟩ := bound_of_cond h
      split at h
      · rename_i xs e2
        obtain ⟨hlen, h⟩ := bound_of_cond h
        cases h
        simp only [Bool.and_eq_true, Nat.ble_eq, Tr.nbeq, decide_eq_true_eq] at hc hlen
        simp only [VRs, VR] at ha
        obtain ⟨_, _, ⟨l, cap, hb, hcap, _, rfl⟩, ⟨_, _, rfl, rfl, rfl⟩, rfl⟩ := ha
        obtain ⟨vs, k1, k2, k3⟩ := cells_at hw hb e1 o n hc.1
        have hvs := strsA_sound e2 k2
        obtain ⟨c, et, lo, hi, q1, _⟩ := hw.cells hb e1
        have hxl : xs.length = n := by rw [← k1, hvs]; simp
        have := hJ l.blk (l.shift + o) cap (xs.map fun s => ⟨⟨s⟩⟩) ⟨⟨sep⟩⟩ w (fun j x hx => by
          refine k3 j _ ?_
          rw [hvs]
          simp only [List.getElem?_map, Option.map_eq_some_iff] at hx ⊢
          obtain ⟨s, hs, rfl⟩ := hx
          exact ⟨s, hs, rfl⟩) (Array.getElem?_eq_some_iff.1 q1).1 (by simp; omega) (by simp; omega) (by simp only [List.map_map, Function.comp_def, List.map_id']; exact hlen.1)
        simp only [List.length_map, hxl, List.map_map, Function.comp_def, List.map_id'] at this
        refine this.mono ?_
        rintro e w' ⟨rfl, hbel⟩
        exact ⟨_, ι, rfl, by simp only [VR], step_below hw hbel⟩
      · cases h
    · cases h
  · cases h

/-- the one, or else the other -/
def orP (p q : CallA) : CallA := fun H f args => match p H f args with
  | some r => some r
  | none => q H f args
theorem orP_sound {P : Program} {p q : CallA} (hp : CallSound P p) (hq : CallSound P q) : CallSound P (orP p q) := by
  intro H f args v H' h
  unfold orP at h
  split at h
  · rename_i r e; cases h; exact hp H f args v H' e
  · exact hq H f args v H' h
omit [Env] in
theorem orP_heap {p q : CallA} (hp : CallHeap p) (hq : CallHeap q) : CallHeap (orP p q) := by
  intro H f args v H' h
  unfold orP at h
  split at h
  · rename_i r e; cases h; exact hp H f args v H' e
  · exact hq H f args v H' h
def noP : CallA := fun _ _ _ => none
theorem noP_sound (P : Program) : CallSound P noP := fun _ _ _ _ _ h => by cases h
omit [Env] in
theorem noP_heap : CallHeap noP := fun _ _ _ _ _ h => by cases h

/-! ### what an evaluation at the empty heap says -/
def H0 : Heap := { tr := .nil, next := 0, log := [] }
def noMap : Map := fun _ => none
theorem wr0 (w : World) : WR noMap H0 w := ⟨fun _ _ _ h => (by cases h), fun _ _ _ _ _ _ _ h => (by cases h), fun _ _ => rfl, fun _ _ h => (by cases h)⟩

theorem calls_of {P : Program} {call : CallA} (hcall : CallSound P call) {f : FuncId} {args : List AV} {v : AV} (h : (call H0 f args).map (·.1) = some v) {args' : List Value} (ha : VRs noMap args args') (w : World) :
    Calls P f args'.toArray w fun e w' => ∃ v' ι', e = .returned v' ∧ VR ι' v v' ∧ Below w.heap.size w w' := by
  cases e : call H0 f args with
  | none => rw [e] at h; cases h
  | some r =>
    obtain ⟨u, H'⟩ := r
    rw [e] at h; cases h
    refine ((hcall H0 f args u H' e).2 noMap w args' (wr0 w) ha).mono ?_
    rintro e' w' ⟨v', ι', h1, h2, h3⟩
    exact ⟨v', ι', h1, h2, ⟨h3.os, h3.tape, h3.output, h3.size, fun c hc => h3.frame c hc (fun b l hb => (by cases hb))⟩⟩

/-- the constants of the program are what a context says of it -/
theorem ctx_ok {P : Program} (hm : P.follows .mixedOrders = true) (hn : ∀ (f : Nat) (x : Func), P.funcs[f]? = some x → x.name ≠ "runtime.NumGoroutine") : (Ctx.of P).Ok P := by
  refine ⟨fun t i h => ?_, fun f x h => h, hn, hm, fun _ _ _ _ h => (by cases h), fun t i v h hv => ?_⟩
  simp only [Ctx.of] at h
  split at h
  · rename_i j d e1 e2
    cases h
    refine ⟨e2, j, e1, rfl, rfl, fun zs hz => ?_⟩
    cases ez : j.zero with
    | none => rw [ez] at hz; cases hz
    | some z => rw [ez] at hz; exact ⟨z, rfl, fun ι => ofCells_sound hz ι⟩
  · cases h
  · simp only [Ctx.of] at h
    split at h
    · rename_i j d e1 e2
      cases h
      simp only at hv
      cases ez : j.zero with
      | none => rw [ez] at hv; cases hv
      | some z => rw [ez] at hv; exact ⟨j, z, e1, ez, fun ι => ofValue_sound hv ι⟩
    · cases h

/-- facts on comparisons of numbers that are not known -/
structure Fact where
  o : BinOp
  a : Exp
  b : Exp
  r : Bool
def Fact.holds (f : Fact) : Prop := cmpVal f.o f.a.eval f.b.eval = f.r
def factOf : List Fact → BinOp → Exp → Exp → Option Bool
  | [], _, _, _ => none
  | f :: fs, o, a, b => cond (f.o == o && f.a.beq a && f.b.beq b) (some f.r) (factOf fs o a b)
theorem factOf_sound : ∀ {fs : List Fact}, (∀ f ∈ fs, f.holds) → ∀ o a b r, factOf fs o a b = some r → cmpVal o a.eval b.eval = r
  | [], _, _, _, _, _, h => by cases h
  | f :: fs, hf, o, a, b, r, h => by
    simp only [factOf] at h
    cases e : (f.o == o && f.a.beq a && f.b.beq b) with
    | true =>
      rw [e] at h; cases h
      simp only [Bool.and_eq_true, beq_iff_eq] at e
      have := hf f (by simp)
      unfold Fact.holds at this
      rw [← e.1.1, ← Exp.beq_sound e.1.2, ← Exp.beq_sound e.2]; exact this
    | false =>
      rw [e] at h
      exact factOf_sound (fun g hg => hf g (by simp [hg])) o a b r h
def Ctx.withFacts (C : Ctx) (fs : List Fact) : Ctx := { C with orc := factOf fs }
theorem Ctx.Ok.withFacts {C : Ctx} {P : Program} (h : C.Ok P) {fs : List Fact} (hf : ∀ f ∈ fs, f.holds) : (C.withFacts fs).Ok P :=
  ⟨h.ty, h.fn, h.name, h.mixed, factOf_sound hf, h.zv⟩
end Go.Ev
