import Derived.Test.YtcbdmlpfepdblaaGreatDoorMtGa
import Derived.Test.YtcbdmlpfepdblaaGreatDoorEvH
namespace Go.Proofs
noncomputable section
open Go Go.Ev Go.RowKit
/-- the condition, n from 1 to 49 -/
def Tryz.ec : Memo := ⟨30, [.any, .agg [.sl0, .sl0], .ptr 0 0, .agg [.int .i64 (8), .str [60], .str [], .int .i64 (0), .sl0, .sl0, .sl0, .sl 1 0 2, .str [66, 111, 111, 108], .sl0, .int .i64 (62)]], [(0, ⟨[.str [110], .str [73, 110, 116], .sl0, .sx .i64 (.var 0), .str [], .sl0, .any], 7, .old⟩), (1, ⟨[.int .i64 (3), .str [110], .str [], .int .i64 (0), .sl0, .sl0, .sl0, .sl0, .str [73, 110, 116], .sl0, .int .i64 (62), .int .i64 (1), .str [], .str [], .int .i64 (1), .sl0, .sl0, .sl0, .sl0, .str [73, 110, 116], .sl0, .int .i64 (66)], 11, .old⟩)], 2, .agg [.str [66, 111, 111, 108], .sl0, .int .i64 (0), .str [], .sl0], [], 325, bnds Tryz.nB⟩
/-- the condition, n = 0 -/
def Tryz.e0 : Memo := ⟨30, [.any, .agg [.sl0, .sl0], .ptr 0 0, .agg [.int .i64 (8), .str [60], .str [], .int .i64 (0), .sl0, .sl0, .sl0, .sl 1 0 2, .str [66, 111, 111, 108], .sl0, .int .i64 (62)]], [(0, ⟨[.str [110], .str [73, 110, 116], .sl0, .int .i64 (0), .str [], .sl0, .any], 7, .old⟩), (1, ⟨[.int .i64 (3), .str [110], .str [], .int .i64 (0), .sl0, .sl0, .sl0, .sl0, .str [73, 110, 116], .sl0, .int .i64 (62), .int .i64 (1), .str [], .str [], .int .i64 (1), .sl0, .sl0, .sl0, .sl0, .str [73, 110, 116], .sl0, .int .i64 (66)], 11, .old⟩)], 2, .agg [.str [66, 111, 111, 108], .sl0, .int .i64 (1), .str [], .sl0], [], 327, bnds []⟩
/-- n - 1 -/
def Tryz.en : Memo := ⟨30, [.any, .agg [.sl0, .sl0], .ptr 0 0, .agg [.int .i64 (8), .str [45], .str [], .int .i64 (0), .sl0, .sl0, .sl0, .sl 1 0 2, .str [73, 110, 116], .sl0, .int .i64 (99)]], [(0, ⟨[.str [110], .str [73, 110, 116], .sl0, .sx .i64 (.var 0), .str [], .sl0, .any], 7, .old⟩), (1, ⟨[.int .i64 (3), .str [110], .str [], .int .i64 (0), .sl0, .sl0, .sl0, .sl0, .str [73, 110, 116], .sl0, .int .i64 (99), .int .i64 (1), .str [], .str [], .int .i64 (1), .sl0, .sl0, .sl0, .sl0, .str [73, 110, 116], .sl0, .int .i64 (103)], 11, .old⟩)], 2, .agg [.str [73, 110, 116], .sl0, .sx .i64 (.op .sub .i64 (.var 0) (.lit 1)), .str [], .sl0], [], 272, bnds Tryz.nB⟩
def Tryz.elv (i : Nat) : AV := .sx .i64 (.var (i + 1))
/-- append(a, n), a of k numbers -/
def Tryz.ea (k : Nat) : Memo := ⟨30, [.any, .agg [.sl0, .sl0], .ptr 0 0, .agg [.int .i64 (19), .str [], .str [], .int .i64 (0), .sl0, .sl0, .sl0, .sl 1 0 2, .str [65, 114, 114, 97, 121], .sl 2 0 1, .int .i64 (85)]],
 [(0, ⟨[.str [110], .str [73, 110, 116], .sl0, .sx .i64 (.var 0), .str [], .sl0, .ptr 3 0], 7, .old⟩), (1, ⟨[.int .i64 (3), .str [97], .str [], .int .i64 (0), .sl0, .sl0, .sl0, .sl0, .str [65, 114, 114, 97, 121], .sl 2 0 1, .int .i64 (92), .int .i64 (3), .str [110], .str [], .int .i64 (0), .sl0, .sl0, .sl0, .sl0, .str [73, 110, 116], .sl0, .int .i64 (95)], 11, .old⟩), (2, ⟨[.str [73, 110, 116], .sl0], 2, .old⟩),
  (3, ⟨[.str [97], .str [65, 114, 114, 97, 121], .sl 4 0 1, .int .i64 (0), .str [], .sl 5 0 k, .any], 7, .old⟩), (4, ⟨[.str [73, 110, 116], .sl0], 2, .old⟩), (5, ⟨Tryz.els Tryz.elv 0 k, 5, .old⟩)],
 6, .agg [.str [65, 114, 114, 97, 121], .sl 4 0 1, .int .i64 (0), .str [], .sl 200 0 (k + 1)], [(200, ⟨Tryz.els Tryz.elv 0 k ++ [.str [73, 110, 116], .sl0, .sx .i64 (.var 0), .str [], .sl0], 5, .tip (5 * k)⟩)], 252 + 22 * k, bnds []⟩
noncomputable def Tryz.xCk (m : Memo) (bs : Bounds) : Bool := m.says (fFun ((Ctx.of Tryz.prog).withB bs) (famA (orcB []) 96 Tryz.selC 1 49 Tryz.lc) 2000) && (m.static && m.named Tryz.prog)
noncomputable def Tryz.eaCk (k : Nat) : Bool := Tryz.xCk (Tryz.ea k) []
theorem Tryz.x_ok {m : Memo} {bs : Bounds} (hf : m.facts = bnds bs) (h : Tryz.xCk m bs = true) : m.Ok Tryz.prog Any :=
  Memo.nextG Tryz.ctxAll bs (fun E _ => famA_sound (E := E) (orcB_sound (fun x hx => by simp [bnds] at hx)) fun k h1 h2 => Tryz.lc_ok k h1 h2) (famA_heap fun k h1 h2 => (Tryz.lc_ok k h1 h2).1) hf (Bool.and_eq_true_iff.1 h).2 (Bool.and_eq_true_iff.1 h).1
theorem Tryz.ec_c : Tryz.xCk Tryz.ec Tryz.nB = true := by kernel_rfl
theorem Tryz.e0_c : Tryz.xCk Tryz.e0 [] = true := by kernel_rfl
theorem Tryz.en_c : Tryz.xCk Tryz.en Tryz.nB = true := by kernel_rfl
theorem Tryz.ea_a : (List.range' 1 24).all Tryz.eaCk = true := by kernel_rfl
theorem Tryz.ea_b : (List.range' 25 24).all Tryz.eaCk = true := by kernel_rfl
theorem Tryz.ea_ok (k : Nat) (h1 : 1 ≤ k) (h2 : k ≤ 48) : (Tryz.ea k).Ok Tryz.prog Any := by
  have ck : Tryz.eaCk k = true := by
    rcases Nat.lt_or_ge k 25 with h | h
    · exact all_range Tryz.ea_a h1 (by omega)
    · exact all_range Tryz.ea_b h (by omega)
  exact Tryz.x_ok (bs := []) rfl ck
/-- which expression is evaluated: 1 a comparison, 2 a difference, more than 3 an append to so many -/
def Tryz.evSel (H : Heap) : List AV → Nat
  | [_, _, .ptr b _, .agg (.int _ k :: .str s :: _)] => cond (k == 8) (match s with | c :: _ => cond (Nat.beq c.toNat 60) 1 (cond (Nat.beq c.toNat 45) 2 0) | [] => 0)
    (cond (k == 19) (match H.cells b with
      | some o => (match o.cs with
        | [_, _, _, _, _, _, .ptr a _] => (match H.cells a with
          | some p => (match p.cs with
            | [_, _, _, _, _, .sl _ _ n, _] => n + 3
            | _ => 0)
          | none => 0)
        | _ => 0)
      | none => 0) 0)
  | _ => 0
def Tryz.evL : Nat → List Memo
  | 1 => [Tryz.ec, Tryz.e0]
  | 2 => [Tryz.en]
  | k + 3 => cond (Nat.ble 1 k && Nat.ble k 48) [Tryz.ea k] []
  | _ => []
theorem Tryz.evL_ok : ∀ (i : Nat) (m : Memo), m ∈ Tryz.evL i → m.Ok Tryz.prog Any
  | 0, m, h => by have h' : m ∈ ([] : List Memo) := h; cases h'
  | 1, m, h => by
    have h' : m ∈ [Tryz.ec, Tryz.e0] := h
    rw [List.mem_cons, List.mem_singleton] at h'
    rcases h' with rfl | rfl
    · exact Tryz.x_ok rfl Tryz.ec_c
    · exact Tryz.x_ok (bs := []) rfl Tryz.e0_c
  | 2, m, h => by
    have h' : m ∈ [Tryz.en] := h
    rw [List.mem_singleton.1 h']; exact Tryz.x_ok rfl Tryz.en_c
  | k + 3, m, h => by
    replace h : m ∈ cond (Nat.ble 1 k && Nat.ble k 48) [Tryz.ea k] [] := h
    cases e : (Nat.ble 1 k && Nat.ble k 48) with
    | true =>
      rw [e] at h
      simp only [Bool.and_eq_true, Nat.ble_eq] at e
      rw [List.mem_singleton.1 h]; exact Tryz.ea_ok k e.1 e.2
    | false => rw [e] at h; simp at h
noncomputable def Tryz.evP : CallA := fun H f args => cond (Nat.beq f 30) (memoW (orcB []) (Tryz.evL (Tryz.evSel H args)) H f args) none
theorem Tryz.evP_sound (E : Env) : @CallSound E Tryz.prog Tryz.evP := fun H f args v H' h => by
  obtain ⟨_, h⟩ := bound_of_cond h
  exact memoW_sound (orcB_sound (fun x hx => by simp [bnds] at hx)) (D := Any) (fun _ => trivial) (Tryz.evL_ok _) H f args v H' h
theorem Tryz.evP_heap : CallHeap Tryz.evP := fun H f args v H' h => by
  obtain ⟨_, h⟩ := bound_of_cond h
  exact memoW_heap (fun m hm => (Tryz.evL_ok _ m hm).1) H f args v H' h
noncomputable def Tryz.gQ : CallA := orP Tryz.evP Tryz.gP
theorem Tryz.gQ_sound (E : Env) : @CallSound E Tryz.prog Tryz.gQ := @orP_sound E _ _ _ (Tryz.evP_sound E) (Tryz.gP_sound E)
theorem Tryz.gQ_heap : CallHeap Tryz.gQ := orP_heap Tryz.evP_heap Tryz.gP_heap
end
end Go.Proofs
