import Derived.Test.YtcbdmlpfepdblaaGreatDoorMtA3
namespace Go.Proofs
noncomputable section
open Go Go.Ev Go.RowKit
theorem Tryz.a0_all : ∀ m, m ∈ [Tryz.a0] → m.Ok Tryz.prog Any := Memo.more (ms := []) Memo.none' (Memo.nextF Tryz.ctxAll [] Memo.none' rfl Tryz.a0_shape Tryz.a0_says)
theorem Tryz.a1_all : ∀ m, m ∈ [Tryz.a0, Tryz.a1] → m.Ok Tryz.prog Any := Memo.more (ms := [Tryz.a0]) Tryz.a0_all (Memo.nextF Tryz.ctxAll [] Tryz.a0_all rfl Tryz.a1_shape Tryz.a1_says)
theorem Tryz.a2_all : ∀ m, m ∈ [Tryz.a0, Tryz.a1, Tryz.a2] → m.Ok Tryz.prog Any := Memo.more (ms := [Tryz.a0, Tryz.a1]) Tryz.a1_all (Memo.nextF Tryz.ctxAll [] Tryz.a1_all rfl Tryz.a2_shape Tryz.a2_says)
theorem Tryz.a3_all : ∀ m, m ∈ [Tryz.a0, Tryz.a1, Tryz.a2, Tryz.a3] → m.Ok Tryz.prog Any := Memo.more (ms := [Tryz.a0, Tryz.a1, Tryz.a2]) Tryz.a2_all (Memo.nextF Tryz.ctxAll [] Tryz.a2_all rfl Tryz.a3_shape Tryz.a3_says)
theorem Tryz.a4_all : ∀ m, m ∈ [Tryz.a0, Tryz.a1, Tryz.a2, Tryz.a3, Tryz.a4] → m.Ok Tryz.prog Any := Memo.more (ms := [Tryz.a0, Tryz.a1, Tryz.a2, Tryz.a3]) Tryz.a3_all (Memo.nextF Tryz.ctxAll [] Tryz.a3_all rfl Tryz.a4_shape Tryz.a4_says)
theorem Tryz.a5_all : ∀ m, m ∈ [Tryz.a0, Tryz.a1, Tryz.a2, Tryz.a3, Tryz.a4, Tryz.a5] → m.Ok Tryz.prog Any := Memo.more (ms := [Tryz.a0, Tryz.a1, Tryz.a2, Tryz.a3, Tryz.a4]) Tryz.a4_all (Memo.nextF Tryz.ctxAll [] Tryz.a4_all rfl Tryz.a5_shape Tryz.a5_says)
theorem Tryz.a6_all : ∀ m, m ∈ [Tryz.a0, Tryz.a1, Tryz.a2, Tryz.a3, Tryz.a4, Tryz.a5, Tryz.a6] → m.Ok Tryz.prog Any := Memo.more (ms := [Tryz.a0, Tryz.a1, Tryz.a2, Tryz.a3, Tryz.a4, Tryz.a5]) Tryz.a5_all (Memo.nextF Tryz.ctxAll [] Tryz.a5_all rfl Tryz.a6_shape Tryz.a6_says)
theorem Tryz.b0_all : ∀ m, m ∈ [Tryz.b0] → m.Ok Tryz.prog Any := Memo.more (ms := []) Memo.none' (Memo.nextF Tryz.ctxAll [] Memo.none' rfl Tryz.b0_shape Tryz.b0_says)
theorem Tryz.b1_all : ∀ m, m ∈ [Tryz.b0, Tryz.b1] → m.Ok Tryz.prog Any := Memo.more (ms := [Tryz.b0]) Tryz.b0_all (Memo.nextF Tryz.ctxAll [] Tryz.b0_all rfl Tryz.b1_shape Tryz.b1_says)
theorem Tryz.b2_all : ∀ m, m ∈ [Tryz.b0, Tryz.b1, Tryz.b2] → m.Ok Tryz.prog Any := Memo.more (ms := [Tryz.b0, Tryz.b1]) Tryz.b1_all (Memo.nextF Tryz.ctxAll [] Tryz.b1_all rfl Tryz.b2_shape Tryz.b2_says)
theorem Tryz.b3_all : ∀ m, m ∈ [Tryz.b0, Tryz.b1, Tryz.b2, Tryz.b3] → m.Ok Tryz.prog Any := Memo.more (ms := [Tryz.b0, Tryz.b1, Tryz.b2]) Tryz.b2_all (Memo.nextF Tryz.ctxAll [] Tryz.b2_all rfl Tryz.b3_shape Tryz.b3_says)
theorem Tryz.b4_all : ∀ m, m ∈ [Tryz.b0, Tryz.b1, Tryz.b2, Tryz.b3, Tryz.b4] → m.Ok Tryz.prog Any := Memo.more (ms := [Tryz.b0, Tryz.b1, Tryz.b2, Tryz.b3]) Tryz.b3_all (Memo.nextF Tryz.ctxAll [] Tryz.b3_all rfl Tryz.b4_shape Tryz.b4_says)
theorem Tryz.b5_all : ∀ m, m ∈ [Tryz.b0, Tryz.b1, Tryz.b2, Tryz.b3, Tryz.b4, Tryz.b5] → m.Ok Tryz.prog Any := Memo.more (ms := [Tryz.b0, Tryz.b1, Tryz.b2, Tryz.b3, Tryz.b4]) Tryz.b4_all (Memo.nextF Tryz.ctxAll [] Tryz.b4_all rfl Tryz.b5_shape Tryz.b5_says)
theorem Tryz.b6_all : ∀ m, m ∈ [Tryz.b0, Tryz.b1, Tryz.b2, Tryz.b3, Tryz.b4, Tryz.b5, Tryz.b6] → m.Ok Tryz.prog Any := Memo.more (ms := [Tryz.b0, Tryz.b1, Tryz.b2, Tryz.b3, Tryz.b4, Tryz.b5]) Tryz.b5_all (Memo.nextF Tryz.ctxAll [] Tryz.b5_all rfl Tryz.b6_shape Tryz.b6_says)
theorem Tryz.w0_ok : Tryz.w0.Ok Tryz.prog Any := Memo.nextF Tryz.ctxAll [] (ms := [Tryz.a0, Tryz.a1, Tryz.a2, Tryz.a3, Tryz.a4, Tryz.a5, Tryz.a6, Tryz.b0, Tryz.b1, Tryz.b2, Tryz.b3, Tryz.b4, Tryz.b5, Tryz.b6]) (fun m hm => by
  rcases List.mem_append.1 (show m ∈ [Tryz.a0, Tryz.a1, Tryz.a2, Tryz.a3, Tryz.a4, Tryz.a5, Tryz.a6] ++ [Tryz.b0, Tryz.b1, Tryz.b2, Tryz.b3, Tryz.b4, Tryz.b5, Tryz.b6] from hm) with h | h
  · exact Tryz.a6_all m h
  · exact Tryz.b6_all m h) rfl Tryz.w0_shape Tryz.w0_says
end
end Go.Proofs
