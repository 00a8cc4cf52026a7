import Derived.Test.YtldgccbiikahgabGreatCnLow
import Derived.Test.YtldgccbiikahgabGreatCnOne
import Derived.Test.YtldgccbiikahgabGreatCnTwo
/-! What the law asks of its numbers holds, whatever they are. -/
namespace Go.Proofs.Tryz
open Go Go.Ev Go.RowKit
section
variable [E : Env] {n : Nat} (hn : n < 18446744073709551616) (e0 : E.rho 0 = (n : Int))
include hn e0
theorem at_hold {k : Nat} (hk : k ≤ 8) : ∀ f ∈ factsAt k, f.holds := by
  have h1 := some8_eval n hn e0 k hk
  have hlt : n % 2 ^ (8 * k) < 18446744073709551616 := Nat.lt_of_le_of_lt (Nat.mod_le _ _) hn
  have h2 := behind_eval (some8 k) _ hlt h1 (8 - k)
  have h3 := masked n hn k hk
  intro f hf
  simp only [factsAt, List.mem_cons, List.not_mem_nil, or_false] at hf
  rcases hf with rfl | rfl
  · simp only [Fact.holds, cmpVal, h1, Exp.eval, e0, h3, beq_self_eq_true]
  · simp only [Fact.holds, cmpVal, h2, Exp.eval, e0, h3, beq_self_eq_true]
theorem hold8 : ∀ f ∈ facts8, f.holds := by
  have h1 := some8_eval n hn e0 8 (Nat.le_refl _)
  have h2 : n % 2 ^ (8 * 8) = n := Nat.mod_eq_of_lt hn
  intro f hf
  simp only [facts8, List.mem_cons, List.not_mem_nil, or_false] at hf
  subst hf
  simp only [Fact.holds, cmpVal, h1, h2, Exp.eval, e0, beq_self_eq_true]
theorem holdUp {m : Int} (e1 : E.rho 1 = m) (hm : 8 < m) : ∀ f ∈ factsUp, f.holds := by
  intro f hf
  rcases List.mem_cons.1 hf with rfl | hf
  · simp [Fact.holds, cmpVal, Exp.eval, e1, hm]
  · exact hold8 hn e0 f hf
theorem holdLow {m : Int} (e1 : E.rho 1 = m) (hm : m ≤ 0) : ∀ f ∈ factsLow, f.holds := by
  have h3 := masked n hn 0 (by omega)
  have h3' : opVal .and .u64 (n : Int) 0 = 0 := by
    have : n % 2 ^ (8 * 0) = 0 := by simp [Nat.mod_one]
    rw [this] at h3; simpa using h3
  intro f hf
  simp only [factsLow, List.mem_cons, List.not_mem_nil, or_false] at hf
  rcases hf with rfl | rfl | rfl
  · simp only [Fact.holds, cmpVal, Exp.eval, e1, decide_eq_false_iff_not]; omega
  · simp only [Fact.holds, cmpVal, Exp.eval, e1, decide_eq_false_iff_not]; omega
  · simp only [Fact.holds, cmpVal, Exp.eval, e0, h3', beq_self_eq_true]
end

theorem walk (a0 a1 : Int) (w0 : (Lit.int .u64 a0).wf = true) (w1 : (Lit.int .i64 a1).wf = true) (w : World) :
    Calls Tryz.prog 3 #[.int .u64 a0, .int .i64 a1] w fun e w' => e = .returned (.bool true) ∧ Below w.heap.size w w' := by
  have b0 : 0 ≤ a0 ∧ a0 < 18446744073709551616 := by
    simp only [Lit.wf, Bool.and_eq_true, decide_eq_true_eq, IntKind.min, IntKind.max, IntKind.signed, IntKind.bits] at w0
    simp at w0; omega
  obtain ⟨n, rfl⟩ : ∃ n : Nat, a0 = n := ⟨a0.toNat, by omega⟩
  have hn : n < 18446744073709551616 := by omega
  letI E : Env := ⟨fun i => match i with | 0 => (n : Int) | _ => a1⟩
  have fin : ∀ {e : Ending} {w' : World}, (∃ v' ι', e = Ending.returned v' ∧ VR ι' (.bool true) v' ∧ Below w.heap.size w w') → e = .returned (.bool true) ∧ Below w.heap.size w w' := by
    rintro e w' ⟨v', ι', rfl, hv, hb⟩
    simp only [VR] at hv
    exact ⟨by rw [hv], hb⟩
  have run : ∀ (fs : List Fact) (v : AV), (∀ f ∈ fs, f.holds) → said fs v = some (.bool true) → VR noMap v (.int .i64 a1) →
      Calls Tryz.prog 3 #[.int .u64 n, .int .i64 a1] w fun e w' => e = .returned (.bool true) ∧ Below w.heap.size w w' := fun fs v hf hs hv =>
    (calls_of (evFun_sound (Tryz.ctxOk.withFacts hf) (noP_sound _) noP_heap 200) hs (args' := [.int .u64 n, .int .i64 a1]) (VRs_cons (by simp only [VR, Exp.eval]; rfl) (VRs_cons hv VRs_nil)) w).mono fun e w' => fin
  by_cases hlow : a1 ≤ 0
  · exact run factsLow _ (holdLow (m := a1) hn rfl rfl hlow) low (by simp only [VR, Exp.eval]; rfl)
  · by_cases hup : 8 < a1
    · exact run factsUp _ (holdUp (m := a1) hn rfl rfl hup) up (by simp only [VR, Exp.eval]; rfl)
    · have hk : a1 = 1 ∨ a1 = 2 ∨ a1 = 3 ∨ a1 = 4 ∨ a1 = 5 ∨ a1 = 6 ∨ a1 = 7 ∨ a1 = 8 := by omega
      rcases hk with rfl | rfl | rfl | rfl | rfl | rfl | rfl | rfl
      · exact run _ _ (at_hold hn rfl (by omega)) at1 (by simp only [VR])
      · exact run _ _ (at_hold hn rfl (by omega)) at2 (by simp only [VR])
      · exact run _ _ (at_hold hn rfl (by omega)) at3 (by simp only [VR])
      · exact run _ _ (at_hold hn rfl (by omega)) at4 (by simp only [VR])
      · exact run _ _ (at_hold hn rfl (by omega)) at5 (by simp only [VR])
      · exact run _ _ (at_hold hn rfl (by omega)) at6 (by simp only [VR])
      · exact run _ _ (at_hold hn rfl (by omega)) at7 (by simp only [VR])
      · exact run _ _ (hold8 hn rfl) at8 (by simp only [VR])
end Go.Proofs.Tryz
