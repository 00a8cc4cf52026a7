import Derived.Test.YtcbdmlpfepdblaaGreatDoorMtLt
import Derived.Test.YtcbdmlpfepdblaaGreatDoorMtGc
import Derived.Test.YtcbdmlpfepdblaaGreatDoorMtGd
import Derived.Test.YtcbdmlpfepdblaaGreatDoorMtGe
import Derived.Test.YtcbdmlpfepdblaaGreatDoorMtGf
import Derived.Test.YtcbdmlpfepdblaaGreatDoorMtGg
import Derived.Test.YtcbdmlpfepdblaaGreatDoorMtFl1
import Derived.Test.YtcbdmlpfepdblaaGreatDoorMtFl2
import Derived.Test.YtcbdmlpfepdblaaGreatDoorMtFg1
import Derived.Test.YtcbdmlpfepdblaaGreatDoorMtFg2
import Derived.Test.YtcbdmlpfepdblaaGreatDoorMtFt1
import Derived.Test.YtcbdmlpfepdblaaGreatDoorMtFt2
import Derived.Test.YtcbdmlpfepdblaaGreatDoorMtFa1
import Derived.Test.YtcbdmlpfepdblaaGreatDoorMtFa2
import Derived.Test.YtcbdmlpfepdblaaGreatDoorMtA4
import Derived.Test.YtcbdmlpfepdblaaGreatDoorShelf
namespace Go.Proofs
noncomputable section
open Go Go.Ev Go.RowKit

/-! ### the runs of the second text -/
theorem Tryz.cm_ok (x : Nat) (h : x ≤ 49) : (Tryz.cm x).Ok Tryz.prog Any := by
  refine Tryz.cm_of ?_
  rcases Nat.lt_or_ge x 18 with h1 | h1
  · exact Tryz.gc_all0 x (by omega) (by omega)
  rcases Nat.lt_or_ge x 28 with h2 | h2
  · exact Tryz.gd_all18 x h1 (by omega)
  rcases Nat.lt_or_ge x 37 with h3 | h3
  · exact Tryz.ge_all28 x h2 (by omega)
  rcases Nat.lt_or_ge x 44 with h4 | h4
  · exact Tryz.gf_all37 x h3 (by omega)
  · exact Tryz.gg_all44 x h4 h

/-! ### what is known of the calls of one input -/
noncomputable def Tryz.front (x : Nat) (a b : Memo) : Memo := cond (Nat.blt x 10) a b
noncomputable def Tryz.tops (x : Nat) : Nat → List Memo
  | 0 => [Tryz.front x Tryz.fla6 Tryz.flb6, Tryz.ls x, Tryz.w0]
  | 1 => [Tryz.front x Tryz.fga6 Tryz.fgb6, Tryz.cm x, Tryz.w0]
  | 2 => [Tryz.front x Tryz.fta6 Tryz.ftb6, Tryz.lb x, Tryz.lt x, Tryz.w0]
  | _ => [Tryz.front x Tryz.faa6 Tryz.fab6, Tryz.w0]
theorem Tryz.front_ok {x : Nat} {a b : Memo} (ha : a.Ok Tryz.prog Any) (hb : b.Ok Tryz.prog Any) : (Tryz.front x a b).Ok Tryz.prog Any := by
  unfold Tryz.front
  cases Nat.blt x 10 with
  | true => exact ha
  | false => exact hb
theorem mem7 {a b c d e f g : Memo} : g ∈ [a, b, c, d, e, f, g] := .tail _ (.tail _ (.tail _ (.tail _ (.tail _ (.tail _ (.head _))))))
theorem Tryz.tops_ok (x : Nat) (hx : x ≤ 49) : ∀ i, ∀ m, m ∈ Tryz.tops x i → m.Ok Tryz.prog Any
  | 0, m, h => by
    simp only [Tryz.tops, List.mem_cons, List.not_mem_nil, or_false] at h
    rcases h with rfl | rfl | rfl
    · exact Tryz.front_ok (Tryz.fla6_all _ mem7) (Tryz.flb6_all _ mem7)
    · exact Tryz.ls_ok x hx
    · exact Tryz.w0_ok
  | 1, m, h => by
    simp only [Tryz.tops, List.mem_cons, List.not_mem_nil, or_false] at h
    rcases h with rfl | rfl | rfl
    · exact Tryz.front_ok (Tryz.fga6_all _ mem7) (Tryz.fgb6_all _ mem7)
    · exact Tryz.cm_ok x hx
    · exact Tryz.w0_ok
  | 2, m, h => by
    simp only [Tryz.tops, List.mem_cons, List.not_mem_nil, or_false] at h
    rcases h with rfl | rfl | rfl | rfl
    · exact Tryz.front_ok (Tryz.fta6_all _ mem7) (Tryz.ftb6_all _ mem7)
    · exact Tryz.lb_ok x hx
    · exact Tryz.lt_ok x hx
    · exact Tryz.w0_ok
  | i + 3, m, h => by
    simp only [Tryz.tops, List.mem_cons, List.not_mem_nil, or_false] at h
    rcases h with rfl | rfl
    · exact Tryz.front_ok (Tryz.faa6_all _ mem7) (Tryz.fab6_all _ mem7)
    · exact Tryz.w0_ok

/-! ### the remainder of k by 4 -/
def fixAt (e0 : Exp) (r : Int) : Exp → Option Int := fun e => cond (e.beq e0) (some r) none
theorem fixAt_ok {E : Env} {e0 : Exp} {r : Int} (h : @Exp.eval E e0 = r) (e : Exp) (n : Int) (hf : fixAt e0 r e = some n) : @Exp.eval E e = n := by
  obtain ⟨h1, h2⟩ := bound_of_cond hf
  cases h2
  rw [Exp.beq_sound h1, h]
def ctxFix (C : Ctx) (f : Exp → Option Int) : Ctx := { C with fix := f }
theorem ctxFix_ok {E : Env} {C : Ctx} {P : Program} (h : @Ctx.Ok E C P) {f : Exp → Option Int} (hf : ∀ e n, f e = some n → @Exp.eval E e = n) : @Ctx.Ok E (ctxFix C f) P :=
  ⟨h.ty, h.fn, h.name, h.mixed, h.orc, h.zv, hf⟩
noncomputable def Tryz.modC (r : Int) : Ctx := ctxFix ((Ctx.of Tryz.prog).withB []) (fixAt (.op .rem .i64 (.var 0) (.lit 4)) r)
theorem noFacts (E : Env) : E.Holds (bnds []) := fun x hx => by simp [bnds] at hx
theorem Tryz.modC_ok {E : Env} {r : Int} (h : (E.rho 0).tmod 4 = r) : @Ctx.Ok E (Tryz.modC r) Tryz.prog :=
  ctxFix_ok (@Ctx.Ok.withB E _ _ (@Tryz.ctxOk E) [] (noFacts E)) (fixAt_ok (by simp only [Exp.eval, opVal]; exact h))
noncomputable def Tryz.modAt (r : Int) : Option AV := (fFun (Tryz.modC r) noP 50 H0 5 [.sx .i64 (.var 0), .int .i64 4]).map (·.1)
theorem Tryz.mod_m3 : Tryz.modAt (-3) = some (.int .i64 1) := by kernel_rfl
theorem Tryz.mod_m2 : Tryz.modAt (-2) = some (.int .i64 2) := by kernel_rfl
theorem Tryz.mod_m1 : Tryz.modAt (-1) = some (.int .i64 3) := by kernel_rfl
theorem Tryz.mod_0 : Tryz.modAt 0 = some (.int .i64 0) := by kernel_rfl
theorem Tryz.mod_1 : Tryz.modAt 1 = some (.int .i64 1) := by kernel_rfl
theorem Tryz.mod_2 : Tryz.modAt 2 = some (.int .i64 2) := by kernel_rfl
theorem Tryz.mod_3 : Tryz.modAt 3 = some (.int .i64 3) := by kernel_rfl
theorem Tryz.mod_run {r : Int} {i : Nat} (h : Tryz.modAt r = some (.int .i64 (Int.ofNat i))) (k : Int) (hk : k.tmod 4 = r) (w : World) :
    Calls Tryz.prog 5 #[.int .i64 k, .int .i64 4] w fun e w' => e = .returned (.int .i64 (Int.ofNat i)) ∧ Below w.heap.size w w' := by
  letI E : Env := { rho := fun _ => k }
  unfold Tryz.modAt at h
  rw [fFun_eq] at h
  refine (calls_of (fun _ => rfl) (evFun_sound (Tryz.modC_ok (E := E) hk) (noP_sound _) noP_heap 50) h (args' := [.int .i64 k, .int .i64 4]) (VRs_cons (by simp only [VR, Exp.eval]; rfl) (VRs_cons (by simp only [VR]) VRs_nil)) w).mono ?_
  rintro e w' ⟨ι', ⟨v', rfl, hv⟩, hb⟩
  simp only [VR] at hv
  exact ⟨by rw [hv], hb⟩
/-- what Mod(k, 4) is -/
def Tryz.modIs (k : Int) (i : Nat) : Prop := ∀ w : World, Calls Tryz.prog 5 #[.int .i64 k, .int .i64 4] w fun e w' => e = .returned (.int .i64 (Int.ofNat i)) ∧ Below w.heap.size w w'
theorem Tryz.mod_some (k : Int) : ∃ i, i < 4 ∧ Tryz.modIs k i := by
  have h := Int.tmod_lt_of_pos k (show (0 : Int) < 4 by decide)
  have h' : -4 < k.tmod 4 := by have := Int.lt_tmod_of_pos k (show (0 : Int) < 4 by decide); omega
  have hc : k.tmod 4 = -3 ∨ k.tmod 4 = -2 ∨ k.tmod 4 = -1 ∨ k.tmod 4 = 0 ∨ k.tmod 4 = 1 ∨ k.tmod 4 = 2 ∨ k.tmod 4 = 3 := by omega
  rcases hc with h | h | h | h | h | h | h
  · exact ⟨1, by decide, Tryz.mod_run (i := 1) Tryz.mod_m3 k h⟩
  · exact ⟨2, by decide, Tryz.mod_run (i := 2) Tryz.mod_m2 k h⟩
  · exact ⟨3, by decide, Tryz.mod_run (i := 3) Tryz.mod_m1 k h⟩
  · exact ⟨0, by decide, Tryz.mod_run (i := 0) Tryz.mod_0 k h⟩
  · exact ⟨1, by decide, Tryz.mod_run (i := 1) Tryz.mod_1 k h⟩
  · exact ⟨2, by decide, Tryz.mod_run (i := 2) Tryz.mod_2 k h⟩
  · exact ⟨3, by decide, Tryz.mod_run (i := 3) Tryz.mod_3 k h⟩

/-! ### the whole function at one input -/
noncomputable def Tryz.modP (i : Nat) : CallA := fun H f args => cond (Nat.beq f 5 && beqs args [.sx .i64 (.var 1), .int .i64 4]) (some (.int .i64 (Int.ofNat i), H)) none
noncomputable def Tryz.topC (x : Nat) : Ctx := ctxFix ((Ctx.of Tryz.prog).withB []) (fixAt (.op .rem .u8 (.var 0) (.lit 50)) (Int.ofNat x))
noncomputable def Tryz.topH : Heap := ⟨Tr.tab [(0, tabObj)], 1, []⟩
noncomputable def Tryz.topP (i x : Nat) : CallA := orP (fmtAt 54) (orP (Tryz.modP i) (memoA (orcB []) (Tryz.tops x i)))
noncomputable def Tryz.topR (i x : Nat) : Option (AV × Heap) := fFun (Tryz.topC x) (Tryz.topP i x) 2000 Tryz.topH 3 [.sx .u8 (.var 0), .sx .i64 (.var 1)]
noncomputable def Tryz.topCk (i x : Nat) : Bool := match Tryz.topR i x with
  | some (v, _) => v.beq (.bool true)
  | none => false
abbrev Tryz.env (n k : Int) : Env := { rho := fun j => match j with | 0 => n | _ => k, gl := fun b => cond (Nat.beq b 0) (some (tabLoc 0)) none }
def Tryz.topM : Map := fun b => cond (Nat.beq b 0) (some (tabLoc 0)) none
theorem Tryz.topM_inv {b : Nat} {l : Go.Ev.Loc} (h : Tryz.topM b = some l) : b = 0 ∧ l = tabLoc 0 := by
  obtain ⟨h1, h2⟩ := bound_of_cond h
  cases h2
  exact ⟨Nat.eq_of_beq_eq_true h1, rfl⟩
theorem Tryz.topM_0 : Tryz.topM 0 = some (tabLoc 0) := rfl
/-- the table as it lies at the start -/
def Tryz.tabAt (w : World) : Prop := ∃ t, w.heap[0]? = some (.cells (Lib.pow10Tab.map fun z => Value.int .u64 z).toArray t (0, 0))
theorem Tryz.topW {n k : Int} {w : World} (h : Tryz.tabAt w) : @WR (Tryz.env n k) Tryz.topM Tryz.topH w := by
  obtain ⟨t, h⟩ := h
  have hg : ∀ b o, Tryz.topH.get b = some o → b = 0 ∧ o = tabObj := fun b o e => by
    have := Tr.tab_mem (show (Tr.tab [(0, tabObj)]).get b = some o from e)
    simp only [List.mem_singleton, Prod.mk.injEq] at this
    exact this
  refine @WR.mk (Tryz.env n k) _ _ _ (fun b l o e1 e2 => ?_) (fun b1 b2 l1 l2 o1 o2 hne e1 e2 _ _ _ => ?_) (fun b hb => ?_) (fun b l e => ?_) (fun b l e => e)
  · obtain ⟨rfl, rfl⟩ := Tryz.topM_inv e1
    obtain ⟨_, rfl⟩ := hg _ _ e2
    refine @Blk.of_cells (Tryz.env n k) _ _ _ _ rfl ⟨_, t, 0, 0, h, ?_, fun i _ => by omega, rfl, ?_, fun i x hx => ?_⟩
    · simp [tabLoc, Lib.pow10Tab_length]
    · show 0 + tabObj.cs.length ≤ 20
      rw [tabObj_cs]; simp [Lib.pow10Tab_length]
    · rw [tabObj_cs, List.getElem?_map] at hx
      cases e : Lib.pow10Tab[i]? with
      | none => rw [e] at hx; cases hx
      | some z =>
        rw [e] at hx; cases hx
        refine ⟨.int .u64 z, ?_, by simp only [VR]⟩
        show (Lib.pow10Tab.map fun z => Value.int .u64 z).toArray[0 + i]? = _
        rw [Nat.zero_add]; simp [e]
  · obtain ⟨rfl, _⟩ := Tryz.topM_inv e1
    obtain ⟨rfl, _⟩ := Tryz.topM_inv e2
    exact (hne rfl).elim
  · unfold Tryz.topM
    cases e : Nat.beq b 0 with
    | true => have := Nat.eq_of_beq_eq_true e; subst this; exact absurd hb (by decide)
    | false => rfl
  · obtain ⟨rfl, rfl⟩ := Tryz.topM_inv e
    intro e2; cases e2
theorem Tryz.modP_heap (i : Nat) : CallHeap (Tryz.modP i) := by
  intro H g args v H' h
  obtain ⟨_, h⟩ := bound_of_cond h
  cases h; exact HRel.refl _
theorem Tryz.mod_is : ∃ fn, Tryz.prog.funcs[5]? = some fn ∧ fn.body.isSome = true ∧ fn.name ≠ "runtime.NumGoroutine" := ⟨_, Tryz.func5, by kernel_rfl, by decide +kernel⟩
theorem Tryz.fmt_is : ∃ fn, Tryz.prog.funcs[54]? = some fn ∧ fn.body.isSome = true ∧ fn.name ≠ "runtime.NumGoroutine" := ⟨_, Tryz.func54, by kernel_rfl, by decide +kernel⟩
theorem Tryz.modP_sound {n k : Int} {i : Nat} (hi : Tryz.modIs k i) : @CallSound (Tryz.env n k) Tryz.prog (Tryz.modP i) := by
  intro H g args v H' h
  replace h := bound_of_cond h
  obtain ⟨hc, h2⟩ := h
  simp only [Bool.and_eq_true, Tr.nbeq, decide_eq_true_eq] at hc
  obtain ⟨hg, ha⟩ := hc
  subst hg
  have ha := beqs_eq ha
  subst ha
  cases h2
  refine ⟨Tryz.mod_is, fun ι w args' hw ha => ?_⟩
  simp only [VRs, VR, Exp.eval] at ha
  obtain ⟨_, _, rfl, ⟨_, _, rfl, rfl, rfl⟩, rfl⟩ := ha
  refine (hi w).mono ?_
  rintro e w' ⟨rfl, hb⟩
  exact ⟨ι, @EndsAs.of (Tryz.env n k) _ _ _ (by simp only [VR]), @step_below (Tryz.env n k) _ _ _ _ _ hw hb⟩
theorem Tryz.fmtP_sound (n k : Int) : @CallSound (Tryz.env n k) Tryz.prog (fmtAt 54) :=
  @fmt_sound (Tryz.env n k) Tryz.prog 54 "internal/strconv.uint64pow10" 0 Tryz.fmt_is (by kernel_rfl) rfl fun n h0 h1 w htab => (Tryz.strconv_FormatInt_10 n h0 h1 w htab).mono fun e w' h => by
    obtain ⟨rfl, j, os, rfl⟩ := h
    exact ⟨rfl, Lib.below_grow _ w (Nat.le_refl _) j os⟩
theorem Tryz.topC_ok {n k : Int} {x : Nat} (h : n.tmod 50 = Int.ofNat x) : @Ctx.Ok (Tryz.env n k) (Tryz.topC x) Tryz.prog :=
  ctxFix_ok (@Ctx.Ok.withB (Tryz.env n k) _ _ (@Tryz.ctxOk (Tryz.env n k)) [] (noFacts _)) (fixAt_ok (by simp only [Exp.eval, opVal]; exact h))
theorem Tryz.top_of {i x : Nat} (hx : x ≤ 49) (ck : Tryz.topCk i x = true) (n k : Int) (hn : n.tmod 50 = Int.ofNat x) (hk : Tryz.modIs k i) (w : World) (hw : Tryz.tabAt w) :
    Calls Tryz.prog 3 #[.int .u8 n, .int .i64 k] w fun e w' => e = .returned (.bool true) ∧ Below w.heap.size w w' := by
  have hp : @CallSound (Tryz.env n k) Tryz.prog (Tryz.topP i x) := @orP_sound (Tryz.env n k) _ _ _ (Tryz.fmtP_sound n k) (@orP_sound (Tryz.env n k) _ _ _ (Tryz.modP_sound hk)
    (memoA_sound (orcB_sound (noFacts _)) (D := Any) (fun _ => trivial) (Tryz.tops_ok x hx i)))
  have hh : CallHeap (Tryz.topP i x) := orP_heap (fmt_heap 54) (orP_heap (Tryz.modP_heap i) (memoA_heap fun m hm => (Tryz.tops_ok x hx i m hm).1))
  unfold Tryz.topCk at ck
  split at ck
  · rename_i v K e
    have hv := AV.beq_sound ck
    subst hv
    unfold Tryz.topR at e
    rw [fFun_eq] at e
    have := (@evFun_sound (Tryz.env n k) _ _ (Tryz.topC_ok hn) _ hp hh 2000 _ _ _ _ _ e).2 Tryz.topM w [.int .u8 n, .int .i64 k] (Tryz.topW hw)
      (@VRs_cons (Tryz.env n k) _ _ _ _ _ (by simp only [VR, Exp.eval]; rfl) (@VRs_cons (Tryz.env n k) _ _ _ _ _ (by simp only [VR, Exp.eval]; rfl) (@VRs_nil (Tryz.env n k) _)))
    letI E : Env := Tryz.env n k
    refine this.mono ?_
    rintro e' w' ⟨ι', ⟨v', rfl, hv⟩, hs⟩
    simp only [VR] at hv
    refine ⟨by rw [hv], ⟨hs.os, hs.tape, hs.output, hs.size, fun c hc => hs.frame c hc fun b l o e1 e2 ho => ?_⟩⟩
    obtain ⟨rfl, rfl⟩ := Tryz.topM_inv e1
    have : o = tabObj := by cases e2; rfl
    subst this
    cases ho
  · cases ck
end
end Go.Proofs
