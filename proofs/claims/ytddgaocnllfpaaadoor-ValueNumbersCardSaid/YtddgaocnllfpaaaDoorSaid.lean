/-
  ValueNumbers: whatever the three numbers, the call returns true and the input reads as it did. No condition.
-/
import Derived.Test.YtddgaocnllfpaaaDoorLaw
import Derived.Test.YtddgaocnllfpaaaDoorRows
import Derived.Test.YtddgaocnllfpaaaDoorTie
import Derived.Test.YtddgaocnllfpaaaDoorCards
import Derived.WalkKit
import Derived.ProofKit
import Derived.OpenShut
import Derived.LaidMore
import Derived.Stop.Joined
namespace Go.Proofs.YtddgaocnllfpaaaDoor
open Go Go.Ev Go.ChangeShapes Go.WideShapes Go.ChangeAt Go.RowKit

theorem own : ownKnob Tryd.prog.godebug = none := by kernel_rfl

theorem join_is : ∃ fn, Tryd.prog.funcs[23]? = some fn ∧ fn.body.isSome = true ∧ fn.name ≠ "runtime.NumGoroutine" :=
  ⟨_, Tryd.func23, by kernel_rfl, by decide +kernel⟩
theorem prim_sound [Env] : CallSound Tryd.prog Tryd.prim := join_sound join_is Tryd.strings_Join_none Tryd.strings_Join
theorem prim_heap [Env] : CallHeap Tryd.prim := join_heap 23

theorem of_wf {x : Int} (h : (Lit.int .i64 x).wf = true) : Tryd.P64 x := by
  simp only [Lit.wf, Bool.and_eq_true, decide_eq_true_eq, IntKind.min, IntKind.max, IntKind.signed, IntKind.bits] at h
  simpa [Tryd.P64] using h

theorem walk (x y z : Int) (wx : (Lit.int .i64 x).wf = true) (wy : (Lit.int .i64 y).wf = true) (wz : (Lit.int .i64 z).wf = true) (w : World) :
    Calls Tryd.prog 3 #[.int .i64 x, .int .i64 y, .int .i64 z] w fun e w' => e = .returned (.bool true) ∧ Below w.heap.size w w' := by
  replace wx := of_wf wx; replace wy := of_wf wy; replace wz := of_wf wz
  letI E : Env := ⟨fun i => match i with | 0 => x | 1 => y | _ => z⟩
  have fin : ∀ {e : Ending} {w' : World}, (∃ v' ι', e = Ending.returned v' ∧ VR ι' (.bool true) v' ∧ Below w.heap.size w w') → e = .returned (.bool true) ∧ Below w.heap.size w w' := by
    rintro e w' ⟨v', ι', rfl, hv, hb⟩
    simp only [VR] at hv
    exact ⟨by rw [hv], hb⟩
  by_cases h0 : y = 0
  · subst h0
    exact (calls_of (evFun_sound Tryd.ctxOk prim_sound prim_heap 60) Tryd.zero (args' := [.int .i64 x, .int .i64 0, .int .i64 z]) (by simp only [VRs, VR, Exp.eval, Tryd.x, Tryd.z]; exact ⟨_, _, rfl, ⟨_, _, rfl, ⟨_, _, rfl, rfl, rfl⟩, rfl⟩, rfl⟩) w).mono fun e w' => fin
  · exact (calls_of (evFun_sound (Tryd.ctxOk.withFacts (Tryd.facts_hold x y z wx wy wz h0 rfl rfl rfl)) prim_sound prim_heap 60) (Tryd.said_any x y z h0) (args' := [.int .i64 x, .int .i64 y, .int .i64 z]) (by simp only [VRs, VR, Exp.eval, Tryd.x, Tryd.y, Tryd.z]; exact ⟨_, _, rfl, ⟨_, _, rfl, ⟨_, _, rfl, rfl, rfl⟩, rfl⟩, rfl⟩) w).mono fun e w' => fin

/-- the door's own heap meets the condition -/
theorem door_met (os : Os) (args : Array Value) : laidMetH Tryd.prog Rows.valueNumbersRow.laid ((World.doorLaid Tryd.prog 65 os).forCall (fun _ _ => 0) ⟨#[], args, []⟩).memory :=
  laidMetH_of_parts3 (fuel := 8) (laidMet_of_run' 8 (by kernel_rfl) (by kernel_rfl)) (by kernel_rfl) (by kernel_rfl)

set_option maxRecDepth 100000 in
theorem lifted (os : Os) (started : os.Started) (H : Type) (enc : TypeId × Value → H) :
    ReturnsInHanded {} Tryd.checked os 3 .any (fun w args => (Rows.valueNumbersSpec.pre enc Tryd.prog Tryd.f3 [] false w args ∧ laidMetH Tryd.prog Rows.valueNumbersRow.laid w) ∧ sizedMet enc Tryd.prog Tryd.f3 (OpenSpec.ofChange Rows.valueNumbersSpec) false w args)
      (Rows.valueNumbersSpec.post enc Tryd.prog Tryd.f3 false true false false) := by
  refine returnsInHanded_of_change_and (C := Tryd.checked) (X := fun w _ => laidMetH Tryd.prog Rows.valueNumbersRow.laid w) (fun _ _ _ hh h => h.of_heap hh) own started (by kernel_rfl) Tryd.func3
    (ChangeSpec.witness_shaped (enc := enc) (C := Tryd.checked) (os := os) (X := fun w _ => laidMetH Tryd.prog Rows.valueNumbersRow.laid w) false (World.doorLaid Tryd.prog 65 os) #[.int .i64 0, .int .i64 0, .int .i64 0] 8 rfl (World.shaped_of_RefB (by kernel_rfl) (by kernel_rfl)) (by kernel_rfl) (by kernel_rfl) (by kernel_rfl) (door_met os _)) ?_
  intro W base args ds gs before hval0 hW _ _ _ _
  have hval : ∀ (j : Nat) t v, Tryd.f3.params[j]? = some t → args[j]? = some v → Value.okWide Tryd.prog W .any base t v := hval0
  have hW' := hW
  obtain ⟨p, q, hA0, hV, rfl, hfz, hnd⟩ := hW
  have hA : DataW.TrodAll enc Tryd.prog W 0 (fun _ => true) true Tryd.f3.params.toList args.toList ds p := hA0
  rw [Tryd.params3] at hA hval
  obtain ⟨v0, vs0, d0, ds0, p0, q0, hargs, rfl, rfl, h0, r0⟩ := trodAll_cons hA
  obtain ⟨v1, vs1, d1, ds1, p1, q1, rfl, rfl, rfl, h1, r1⟩ := trodAll_cons r0
  obtain ⟨v2, vs2, d2, ds2, p2, q2, rfl, rfl, rfl, h2, r2⟩ := trodAll_cons r1
  obtain ⟨rfl, rfl, rfl⟩ := trodAll_nil r2
  obtain rfl : args = #[v0, v1, v2] := by cases args; simp_all
  obtain ⟨rfl, rfl⟩ := trodVars_none hV
  obtain ⟨a0, rfl, rfl, rfl, w0⟩ := open_int Tryd.underlying2 (hval 0 2 v0 rfl rfl) h0
  obtain ⟨a1, rfl, rfl, rfl, w1⟩ := open_int Tryd.underlying2 (hval 1 2 v1 rfl rfl) h1
  obtain ⟨a2, rfl, rfl, rfl, w2⟩ := open_int Tryd.underlying2 (hval 2 2 v2 rfl rfl) h2
  clear hA0 hval0
  simp only [List.append_nil] at hW'
  refine (walk a0 a1 a2 w0 w1 w2 W).mono fun e W' ⟨he, hg⟩ => ?_
  subst he
  refine ⟨_, rfl, _, _, _, [], [], [], hW', (trodAll_cons_mk (shut_bool Tryd.underlying4 _) trodAll_mk0), (trodAll_cons_mk (shut_int Tryd.underlying2 w0) (trodAll_cons_mk (shut_int Tryd.underlying2 w1) (trodAll_cons_mk (shut_int Tryd.underlying2 w2) trodAll_mk0))), rfl, hg.frame _, fun h => by cases h⟩

theorem over : Rows.valueNumbersRow.holds Tryd.pinned (OpenSpec.ofChange Rows.valueNumbersSpec) :=
  OpenClaim.holds_of_wide 3 Tryd.f3 rfl rfl rfl rfl rfl rfl rfl ⟨rfl, rfl, rfl, rfl, rfl⟩ rfl rfl rfl rfl rfl (by kernel_rfl) Tryd.func3 (by kernel_rfl)
    (of_decide_eq_true (by kernel_rfl)) (by unfold Func.isWrapper; first | (rw [if_pos (by decide +kernel)]; kernel_rfl) | (rw [if_neg (by decide +kernel)]; exact ⟨rfl, rfl⟩))
    (fun os started H enc _ => lifted os started H enc)

theorem valueNumbers_holds : Rows.ValueNumbersCardSaid :=
  Claim7.holds_tied_plain_at .later [] [.data, .data, .data] true (true, "ec40dc8ca9d5bfefba33ab1af27c4ca172a5816a4c6890faad1d3c6ab3b7da99") false
    over (fun _ h => by cases h) (by kernel_rfl) (fun _ h => by cases h) valueNumbers_row_tie rfl ⟨rfl, rfl⟩ (by kernel_rfl) rfl
    (fun f fn hf hfn => by
      obtain rfl : f = 3 := Option.some.inj ((show Tryd.prog.funcNamed "libevolution/libevolutionlaw11.ValueNumbers" = some 3 by kernel_rfl).symm.trans hf) |>.symm
      obtain rfl : fn = Tryd.f3 := (Option.some.inj (Tryd.func3.symm.trans hfn)).symm
      exact ⟨by kernel_rfl, fun j t ht => by
        rw [Tryd.params3] at ht
        have h3 : t = 2 := by
          rcases j with _ | _ | _ | j
          · simpa using ht.symm
          · simpa using ht.symm
          · simpa using ht.symm
          · simp at ht
        subst h3
        exact (show Tryd.prog.wantsStandIn 2 = false by kernel_rfl)⟩)
    (by kernel_rfl)
#print axioms valueNumbers_holds
end Go.Proofs.YtddgaocnllfpaaaDoor
