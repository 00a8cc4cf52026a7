import Derived.Test.YtcbdmlpfepdblaaGreatDoorMtTa
import Derived.Test.YtcbdmlpfepdblaaGreatDoorMtTb
import Derived.Test.YtcbdmlpfepdblaaGreatDoorMtTc
import Derived.Test.YtcbdmlpfepdblaaGreatDoorMtTd
namespace Go.Proofs
noncomputable section
open Go Go.Ev Go.RowKit
theorem Tryz.all_top : ∀ i, i < 4 → ∀ x, x ≤ 49 → Tryz.topCk i x = true
  | 0, _, x, h => Tryz.ta_all x h
  | 1, _, x, h => Tryz.tb_all x h
  | 2, _, x, h => Tryz.tc_all x h
  | 3, _, x, h => Tryz.td_all x h
  | _ + 4, h, _, _ => absurd h (by omega)
/-- whatever the two numbers, the function returns true -/
theorem Tryz.walk (a0 a1 : Int) (w0 : (Lit.int .u8 a0).wf = true) (w : World) (hw : Tryz.tabAt w) :
    Calls Tryz.prog 3 #[.int .u8 a0, .int .i64 a1] w fun e w' => e = .returned (.bool true) ∧ Below w.heap.size w w' := by
  have b0 : 0 ≤ a0 ∧ a0 < 256 := by
    simp only [Lit.wf, Bool.and_eq_true, IntKind.min, IntKind.max, IntKind.signed, IntKind.bits] at w0
    simp at w0; omega
  obtain ⟨i, hi, hk⟩ := Tryz.mod_some a1
  have h1 : a0.tmod 50 = a0 % 50 := Int.tmod_eq_emod_of_nonneg b0.1
  have hx : (a0 % 50).toNat ≤ 49 := by omega
  have hn : a0.tmod 50 = Int.ofNat (a0 % 50).toNat := by rw [h1]; show _ = (((a0 % 50).toNat : Nat) : Int); omega
  exact Tryz.top_of hx (Tryz.all_top i hi _ hx) a0 a1 hn hk w hw
end
end Go.Proofs
