/-
  MeaningText: whatever the two numbers, the call returns true and the input reads as it did. The condition: the row's own, that three tables of the library hold what the program's text lays in them; one of them, that of the powers of ten, is read.
-/
import Derived.Test.YtcbdmlpfepdblaaGreatDoorMtLaw
import Derived.Test.YtcbdmlpfepdblaaGreatDoorMtFacts
import Derived.Test.YtcbdmlpfepdblaaGreatDoorRows
import Derived.Test.YtcbdmlpfepdblaaGreatDoorTie
import Derived.Test.YtcbdmlpfepdblaaGreatDoorCards
import Derived.WalkKit
import Derived.ProofKit
import Derived.OpenShut
import Derived.LaidMore
import Derived.LaidSub
import Derived.Stop.Joined
namespace Go.Proofs.YtcbdmlpfepdblaaGreatDoor
open Go Go.Ev Go.ChangeShapes Go.WideShapes Go.ChangeAt Go.RowKit

theorem own : ownKnob Tryz.prog.godebug = none := by kernel_rfl

/-- the table of powers of ten, as the row lists it -/
theorem tab_of {w : World} (h : laidMetH Tryz.prog Rows.meaningTextRow.laid w) : Tryz.tabAt w := by
  have h1 := laidMetH.filter (fun x => x.1 == "internal/strconv.uint64pow10") h
  have e : (Rows.meaningTextRow.laid.filter fun x => x.1 == "internal/strconv.uint64pow10") = [("internal/strconv.uint64pow10", Lib.tabData .u64 Lib.pow10Tab)] := by kernel_rfl
  rw [e] at h1
  replace h1 := (laidMetH_iff.1 h1).1
  have e2 : ([("internal/strconv.uint64pow10", Lib.tabData .u64 Lib.pow10Tab)].filter fun x : String × DataW Unit => x.2.handleName?.isNone) = [("internal/strconv.uint64pow10", Lib.tabData .u64 Lib.pow10Tab)] := by kernel_rfl
  rw [e2] at h1
  have hg : Tryz.prog.globalNamed "internal/strconv.uint64pow10" = some 0 := by kernel_rfl
  have ht := Lib.tabIs_of_head (g := 0) (t := 289) (n := 20) (e := 33) hg (by kernel_rfl) (by kernel_rfl) (by kernel_rfl) (by kernel_rfl) (by kernel_rfl) h1
  obtain ⟨ps, ⟨g', t', cs, fuel, p, q, hg', _, hvar, _, _, hps⟩, _, hc⟩ := h1
  obtain rfl := Option.some.inj (hg.symm.trans hg')
  unfold Lib.TabIs at ht
  rw [hvar] at ht
  have hcs := Option.some.inj ht
  have hm : MemPlace.cell 0 0 ∈ ps := by
    rw [hps, List.append_assoc, List.mem_append]
    left
    unfold MemPlace.row
    rw [List.mem_map]
    exact ⟨0, by rw [List.mem_range, hcs]; simp [Lib.pow10Tab_length], rfl⟩
  obtain ⟨c, t, hh⟩ := (hc 0 0 hm).1
  refine ⟨t, ?_⟩
  unfold World.var? at hvar
  rw [hg] at hvar
  have hv : (match w.heap[0]? with | some (Go.Obj.cells cs _ _) => some cs | _ => none) = some cs := hvar
  rw [hh] at hv
  rw [hh, Option.some.inj hv, hcs]

/-- the door's own heap meets the condition -/
theorem door_met (os : Os) (args : Array Value) : laidMetH Tryz.prog Rows.meaningTextRow.laid ((World.doorLaid Tryz.prog 65 os).forCall (fun _ _ => 0) ⟨#[], args, []⟩).memory :=
  laidMetH_of_parts3 (fuel := 8) (laidMet_of_run' 8 (by kernel_rfl) (by kernel_rfl)) (by kernel_rfl) (by kernel_rfl)

set_option maxRecDepth 100000 in
theorem lifted (os : Os) (started : os.Started) (H : Type) (enc : TypeId × Value → H) :
    ReturnsInHanded {} Tryz.checked os 3 .any (fun w args => (Rows.meaningTextSpec.pre enc Tryz.prog Tryz.f3 [] false w args ∧ laidMetH Tryz.prog Rows.meaningTextRow.laid w) ∧ sizedMet enc Tryz.prog Tryz.f3 (OpenSpec.ofChange Rows.meaningTextSpec) false w args)
      (Rows.meaningTextSpec.post enc Tryz.prog Tryz.f3 false true false false) := by
  refine returnsInHanded_of_change_and (C := Tryz.checked) (X := fun w _ => laidMetH Tryz.prog Rows.meaningTextRow.laid w) (fun _ _ _ hh h => h.of_heap hh) own started (by kernel_rfl) Tryz.func3
    (ChangeSpec.witness_shaped (enc := enc) (C := Tryz.checked) (os := os) (X := fun w _ => laidMetH Tryz.prog Rows.meaningTextRow.laid w) false (World.doorLaid Tryz.prog 65 os) #[.int .u8 0, .int .i64 0] 8 rfl (World.shaped_of_RefB (by kernel_rfl) (by kernel_rfl)) (by kernel_rfl) (by kernel_rfl) (by kernel_rfl) (door_met os _)) ?_
  intro W base args ds gs before hval0 hW _ _ hX _
  have hval : ∀ (j : Nat) t v, Tryz.f3.params[j]? = some t → args[j]? = some v → Value.okWide Tryz.prog W .any base t v := hval0
  have hW' := hW
  obtain ⟨p, q, hA0, hV, rfl, hfz, hnd⟩ := hW
  have hA : DataW.TrodAll enc Tryz.prog W 0 (fun _ => true) true Tryz.f3.params.toList args.toList ds p := hA0
  rw [Tryz.params3] at hA hval
  obtain ⟨v0, vs0, d0, ds0, p0, q0, hargs, rfl, rfl, h0, r0⟩ := trodAll_cons hA
  obtain ⟨v1, vs1, d1, ds1, p1, q1, rfl, rfl, rfl, h1, r1⟩ := trodAll_cons r0
  obtain ⟨rfl, rfl, rfl⟩ := trodAll_nil r1
  obtain rfl : args = #[v0, v1] := by cases args; simp_all
  obtain ⟨rfl, rfl⟩ := trodVars_none hV
  obtain ⟨a0, rfl, rfl, rfl, w0⟩ := open_int Tryz.underlying5 (hval 0 5 v0 rfl rfl) h0
  obtain ⟨a1, rfl, rfl, rfl, w1⟩ := open_int Tryz.underlying3 (hval 1 3 v1 rfl rfl) h1
  clear hA0 hval0
  simp only [List.append_nil] at hW'
  refine (Tryz.walk a0 a1 w0 W (tab_of hX)).mono fun e W' ⟨he, hg⟩ => ?_
  subst he
  refine ⟨_, rfl, _, _, _, [], [], [], hW', (trodAll_cons_mk (shut_bool Tryz.underlying4 _) trodAll_mk0), (trodAll_cons_mk (shut_int Tryz.underlying5 w0) (trodAll_cons_mk (shut_int Tryz.underlying3 w1) trodAll_mk0)), rfl, hg.frame _, fun h => by cases h⟩

theorem over : Rows.meaningTextRow.holds Tryz.pinned (OpenSpec.ofChange Rows.meaningTextSpec) :=
  OpenClaim.holds_of_wide 3 Tryz.f3 rfl rfl rfl rfl rfl rfl rfl ⟨rfl, rfl, rfl, rfl, rfl⟩ rfl rfl rfl rfl rfl (by kernel_rfl) Tryz.func3 closed
    (of_decide_eq_true (by kernel_rfl)) (by unfold Func.isWrapper; first | (rw [if_pos (by decide +kernel)]; kernel_rfl) | (rw [if_neg (by decide +kernel)]; exact ⟨rfl, rfl⟩))
    (fun os started H enc _ => lifted os started H enc)

theorem meaningText_holds : Rows.MeaningTextCardSaid :=
  Claim7.holds_tied_plain_at .later [] [.data, .data, .data] true (true, "20d522e31f1febcd7f0e12300ee6f6c8608f8db373124d28f143f38d301fb452") true
    over (fun _ h => by cases h) (by kernel_rfl) (fun _ h => by cases h) meaningText_row_tie rfl ⟨rfl, rfl⟩ (by kernel_rfl) rfl
    (fun f fn hf hfn => by
      obtain rfl : f = 3 := Option.some.inj ((show Tryz.prog.funcNamed "libevolution/libevolutionlaw12.MeaningText" = some 3 by kernel_rfl).symm.trans hf) |>.symm
      obtain rfl : fn = Tryz.f3 := (Option.some.inj (Tryz.func3.symm.trans hfn)).symm
      exact ⟨by kernel_rfl, fun j t ht => by
        rw [Tryz.params3] at ht
        have h3 : t = 5 ∨ t = 3 := by
          rcases j with _ | _ | j
          · left; simpa using ht.symm
          · right; simpa using ht.symm
          · simp at ht
        rcases h3 with rfl | rfl
        · exact (show Tryz.prog.wantsStandIn 5 = false by kernel_rfl)
        · exact (show Tryz.prog.wantsStandIn 3 = false by kernel_rfl)⟩)
    (by kernel_rfl)
#print axioms meaningText_holds
end Go.Proofs.YtcbdmlpfepdblaaGreatDoor
