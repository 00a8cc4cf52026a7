import Derived.Test.YtldgccbiikahgabGreatEvMap
namespace Go.Ev
open Go Go.RowKit
section
variable {P : Program} {w : World}
theorem cond_some {c : Bool} {α : Type} {x : Option α} {z : α} (h : cond c x none = some z) : c = true ∧ x = some z := by
  cases c with
  | true => exact ⟨rfl, h⟩
  | false => cases h
theorem wrap_small {m : Int} (h0 : 0 < m) (h1 : m ≤ 1000000) : IntKind.i64.wrap m = m := IntWalk.i64_in m ⟨by omega, by omega⟩
theorem run_zeros_nil (t xt ty e : TypeId) (k q : IntKind) (i : TypeInfo) (z : Value) (ht : P.underlying t = some (.slice e)) (hxt : P.underlying xt = some (.int q)) (hi : P.info? e = some i) (hz : i.zero = some z)
    {m : Int} {n : Nat} (h0 : 0 < m) (h1 : m ≤ 1000000) (hn : m = n) (hsz : n * i.size ≠ 0) (h48 : n * i.bytes ≤ 281474976710656) :
    (Builtin.append_ #[t, xt] ty #[.slice none 0 0, .int k m]).run P w =
      .ok (.slice (some ⟨w.heap.size, 0, none⟩) n (grownCap w n 0 e)) (w.drew.alloc (.cells (Builtin.zeroCells z.cells n ++ Builtin.zeroCells z.cells (grownCap w n 0 e - n)) e)) := by
  have hw := wrap_small h0 h1
  subst hn
  have hn0 : n ≠ 0 := by omega
  have a1 : ¬ ((n : Int) < 0) := by omega
  have a2 : ¬ (281474976710656 < (n : Int) * (i.bytes : Int)) := by
    have : (n : Int) * (i.bytes : Int) = ((n * i.bytes : Nat) : Int) := by simp
    rw [this]; omega
  have h63' : ¬ (9223372036854775807 < (n : Int)) := by omega
  have h48' : ¬ (281474976710656 < Builtin.nextslicecap n 0 * i.bytes) := by rw [nextslicecap_zero (by omega)]; omega
  have hz0 : ¬ (n = 0 ∨ i.size = 0) := by simpa [Nat.mul_eq_zero] using hsz
  simp [Builtin.append_, Go.run_underlying ht, Go.run_underlying hxt, sizeOf, typeInfo, zeroValue, hi, hz, asInt, asIntOf, hw, a1, a2, hn0, h63', h48', hz0, Question.forced, run_firstCells_none, newRow, grownCap, Int.toNat_natCast]
  exact fun h => (hsz h).elim
theorem run_zeros_in (t xt ty e : TypeId) (k q : IntKind) (i : TypeInfo) (z : Value) (ht : P.underlying t = some (.slice e)) (hxt : P.underlying xt = some (.int q)) (hi : P.info? e = some i) (hz : i.zero = some z)
    {m : Int} {n : Nat} (h0 : 0 < m) (h1 : m ≤ 1000000) (hn : m = n) (hsz : n * i.size ≠ 0) (h48 : n * i.bytes ≤ 281474976710656) (g o sLen sCap : Nat) (hroom : sLen + n ≤ sCap)
    (hone : ∀ u ∈ (Builtin.zeroCells z.cells n).toList, u.oneCell' = true)
    (hc : ∀ j, j < (Builtin.zeroCells z.cells n).toList.length → (w.cell? ⟨g, o + sLen * i.size + j, none⟩).isSome = true) (hf : ∀ j, j < (Builtin.zeroCells z.cells n).toList.length → w.frozen? ⟨g, o + sLen * i.size + j, none⟩ = false) :
    (Builtin.append_ #[t, xt] ty #[.slice (some ⟨g, o, none⟩) sLen sCap, .int k m]).run P w =
      .ok (.slice (some ⟨g, o, none⟩) (sLen + n) sCap) (w.setCells g (o + sLen * i.size) (Builtin.zeroCells z.cells n).toList) := by
  have hw := wrap_small h0 h1
  subst hn
  have hst := run_storeCells_cells (P := P) g (o + sLen * i.size) (Builtin.zeroCells z.cells n).toList 0 w (by simpa using hc) (by simpa using hf) hone
  simp only [Nat.add_zero] at hst
  have a1 : ¬ ((n : Int) < 0) := by omega
  have a2 : ¬ (281474976710656 < (n : Int) * (i.bytes : Int)) := by
    have : (n : Int) * (i.bytes : Int) = ((n * i.bytes : Nat) : Int) := by simp
    rw [this]; omega
  simp [Builtin.append_, Go.run_underlying ht, Go.run_underlying hxt, sizeOf, typeInfo, zeroValue, hi, hz, asInt, asIntOf, hw, a1, a2, hroom, add_addr, Int.toNat_natCast]
  rw [if_neg (by simpa using hsz)]
  simp [hst]
theorem run_zeros_grow (t xt ty e : TypeId) (k q : IntKind) (i : TypeInfo) (z : Value) (ht : P.underlying t = some (.slice e)) (hxt : P.underlying xt = some (.int q)) (hi : P.info? e = some i) (hz : i.zero = some z)
    {m : Int} {n : Nat} (h0 : 0 < m) (h1 : m ≤ 1000000) (hn : m = n) (hsz : n * i.size ≠ 0) (h48 : n * i.bytes ≤ 281474976710656)
    (b : Addr) (sLen sCap : Nat) (olds : List Value) (hlo : olds.length = sLen * i.size) (holds : ∀ j v, olds[j]? = some v → w.cell? (b.add j) = some v)
    (hg : sCap < sLen + n) (h63 : ((sLen + n : Nat) : Int) ≤ 9223372036854775807) (hfit : Builtin.nextslicecap (sLen + n) sCap * i.bytes ≤ 281474976710656) :
    (Builtin.append_ #[t, xt] ty #[.slice (some b) sLen sCap, .int k m]).run P w =
      .ok (.slice (some ⟨w.heap.size, 0, none⟩) (sLen + n) (grownCap w (sLen + n) sCap e))
        (w.drew.alloc (.cells (olds.toArray ++ Builtin.zeroCells z.cells n ++ Builtin.zeroCells z.cells (grownCap w (sLen + n) sCap e - (sLen + n))) e)) := by
  have hw := wrap_small h0 h1
  subst hn
  have hn : ¬ (sLen + n ≤ sCap) := by omega
  have a1 : ¬ ((n : Int) < 0) := by omega
  have a2 : ¬ (281474976710656 < (n : Int) * (i.bytes : Int)) := by
    have : (n : Int) * (i.bytes : Int) = ((n * i.bytes : Nat) : Int) := by simp
    rw [this]; omega
  have h63' : ¬ (9223372036854775807 < ((sLen : Int) + (n : Int))) := by omega
  have h48' : ¬ (281474976710656 < Builtin.nextslicecap (sLen + n) sCap * i.bytes) := by omega
  have hfo := run_firstCells_some (P := P) w.drew i.size sLen b sLen sCap olds hlo (by simpa using holds)
  simp [Builtin.append_, Go.run_underlying ht, Go.run_underlying hxt, sizeOf, typeInfo, zeroValue, hi, hz, asInt, asIntOf, hw, a1, a2, hn, h63', h48', Question.forced, hfo, newRow, grownCap, Int.toNat_natCast]
  exact fun h => (hsz h).elim
end
section
variable [Env] {C : Ctx} {P : Program} (hC : C.Ok P) {ι : Map} {H : Heap} {w : World}
include hC
theorem appendZ_sound (hw : WR ι H w) {id : Nat} (hid : ι id = none) (hn : id < H.next) {t xt : TypeId} {s x : AV} {s' x' : Value} (hs : VR ι s s') (hx : VR ι x x') {v : AV} {H' : Heap}
    (h : appendZA C H id t xt s x = some (v, H')) (ty : TypeId) :
    ∃ v' ι' w', (Builtin.append_ #[t, xt] ty #[s', x']).run P w = .ok v' w' ∧ VR ι' v v' ∧ Step (· = id) ι H w ι' H' w' := by
  unfold appendZA at h
  split at h
  · rename_i i e2
    split at h
    · rename_i e hd
      obtain ⟨hu, _⟩ := hC.ty t i e2
      rw [hd] at hu
      split at h
      · rename_i j e4
        obtain ⟨_, jj, hi, hjs, hjb, hjz⟩ := hC.ty e j e4
        split at h
        · -- no elements
          rename_i bx ox
          replace h := cond_some h
          obtain ⟨e1, h⟩ := h
          simp only [Tr.nbeq, decide_eq_true_eq] at e1
          subst e1
          simp only [VR] at hx; obtain ⟨lx, cx, _, _, _, rfl⟩ := hx
          split at h
          · cases h; have hs0 := hs; simp only [VR] at hs; subst hs
            exact ⟨_, ι, w, run_append_zero hu hi none _ 0 0 cx (Nat.le_refl _), hs0, Step.refl hw⟩
          · cases h; have hs0 := hs; simp only [VR] at hs; obtain ⟨l, cap, hb, hcap, hroom, rfl⟩ := hs
            exact ⟨_, ι, w, run_append_zero hu hi _ _ _ cap cx hcap, hs0, Step.refl hw⟩
          · cases h
        · rename_i k m
          split at h
          · rename_i q e5
            split at h
            · rename_i kq z0 hq ez
              replace h := cond_some h
              obtain ⟨e6, h⟩ := h
              simp only [Bool.and_eq_true, decide_eq_true_eq, Tr.nbeq, Bool.not_eq_true', decide_eq_false_iff_not] at e6
              obtain ⟨⟨⟨⟨m0, m1⟩, hzl⟩, s0⟩, hflat⟩ := e6
              simp only [VR] at hx; subst hx
              obtain ⟨hxu, _⟩ := hC.ty xt q e5
              rw [hq] at hxu
              obtain ⟨z, hz, hzv⟩ := hjz z0 ez
              have hzs : z.cells.size = j.size := by have := (hzv ι).len; simp at this; omega
              obtain ⟨n, hn2⟩ : ∃ n : Nat, m = n := ⟨m.toNat, by omega⟩
              have hmn : m.toNat = n := by omega
              rw [hmn] at h hflat
              have k2 : VRs ι (repeatCells z0 n) (Builtin.zeroCells z.cells n).toList := repeat_sound (hzv ι) n (by omega)
              have hrest : ∀ c, (Builtin.zeroCells z.cells c).size = c * j.size := fun c => by rw [size_zeroCells, hzs]
              have hnl : (repeatCells z0 n).length = n * j.size := by rw [repeat_len, hzl]
              have hne : n * jj.size ≠ 0 := by rw [hjs]; exact Nat.mul_ne_zero (by omega) s0
              split at h
              · replace h := cond_some h
                obtain ⟨e9, h⟩ := h
                simp only [Nat.ble_eq] at e9
                split at h
                · rename_i H1 e10
                  cases h
                  simp only [VR] at hs; subst hs
                  have hr := run_zeros_nil (P := P) (w := w) t xt ty e k kq jj z hu hxu hi hz m0 m1 hn2 hne (by rw [hjb]; omega)
                  have hge := grown_ge w n 0 e
                  have hm : n * j.size + (grownCap w n 0 e - n) * j.size = grownCap w n 0 e * j.size := by rw [← Nat.add_mul]; congr 1; omega
                  have hst := step_new hw hid hn rfl e10 (Builtin.zeroCells z.cells n ++ Builtin.zeroCells z.cells (grownCap w n 0 e - n)) e (by simp [hnl, hrest]) (fun i x hx' => by
                    obtain ⟨u, hu', r⟩ := k2.get hx'
                    refine ⟨u, ?_, r⟩
                    have hlt := (List.getElem?_eq_some_iff.1 hu').1
                    rw [Array.getElem?_append_left (by simpa using hlt)]; simpa using hu') w.drew rfl rfl rfl rfl
                  refine ⟨_, _, _, hr, ?_, hst⟩
                  exact VR_sl ⟨w.heap.size, 0, (Builtin.zeroCells z.cells n ++ Builtin.zeroCells z.cells (grownCap w n 0 e - n)).size, j.size⟩ (by simp) rfl rfl hge (by simp [hrest]; omega)
                · cases h
              · rename_i b o len
                split at h
                · rename_i ob e9
                  replace h := cond_some h
                  obtain ⟨e10, h⟩ := h
                  simp only [Bool.and_eq_true, Tr.nbeq, decide_eq_true_eq, Nat.ble_eq, Bool.not_eq_true'] at e10
                  obtain ⟨⟨⟨⟨ho1, ho2⟩, ho3⟩, ho4⟩, ho5⟩ := e10
                  split at h
                  · rename_i H1 e11
                    cases h
                    simp only [VR] at hs
                    obtain ⟨l, cap, hb, hcap, hroom, rfl⟩ := hs
                    obtain ⟨c, et, lo, hi0, h1, h2, h3, h4, h5, h6⟩ := hw.cells hb e9
                    have hes : l.es = j.size := by omega
                    have hone := flatAll_sound k2 hflat
                    have hsmall : n * j.bytes ≤ 140737488355328 := Nat.le_trans (Nat.mul_le_mul_right _ (by omega)) ho4
                    by_cases hfit : len + n ≤ cap
                    · have hm : len * j.size + n * j.size ≤ cap * j.size := by rw [← Nat.add_mul]; exact Nat.mul_le_mul_right _ hfit
                      rw [hes] at hroom
                      have hzlen : (Builtin.zeroCells z.cells n).toList.length = n * j.size := by simp [hrest]
                      have hr := run_zeros_in (P := P) (w := w) t xt ty e k kq jj z hu hxu hi hz m0 m1 hn2 hne (by rw [hjb]; omega) l.blk (l.shift + o) len cap hfit hone
                        (fun j' hj' => by rw [hjs]; simp only [World.cell?, h1]; simp; omega)
                        (fun j' hj' => by
                          rw [hjs]
                          have := h3 (l.shift + o + len * j.size + j') (by omega)
                          simp only [World.frozen?, h1]
                          by_cases q : lo ≤ l.shift + o + len * j.size + j' <;> simp <;> omega)
                      have hst := (step_tail (H' := (H.put b { ob with kind := .old }).put id { cs := ob.cs.drop o ++ repeatCells z0 n, es := ob.es, kind := .tip (ob.cs.drop o).length }) hw hid hn hb e9 ho1 o (by omega) _ _ k2 (by rw [hnl]; omega) (add_write e11).1).cast (HEq2.refl _) (add_write e11).2
                      have hpl : l.shift + o + len * jj.size = l.shift + ob.cs.length := by rw [hjs]; omega
                      rw [hpl] at hr
                      refine ⟨_, _, _, hr, ?_, hst⟩
                      exact VR_sl ⟨l.blk, l.shift + o, l.room, l.es⟩ (by simp) rfl (by simp) hfit (by simp only [hes]; omega)
                    · obtain ⟨olds, q1, q2, q3⟩ := cells_at hw hb e9 o (len * j.size) (by omega)
                      have holds : ∀ j' u, olds[j']? = some u → w.cell? ((⟨l.blk, l.shift + o, none⟩ : Addr).add j') = some u := fun j' u hu' => by rw [add_addr]; exact q3 j' u hu'
                      have hr := run_zeros_grow (P := P) (w := w) t xt ty e k kq jj z hu hxu hi hz m0 m1 hn2 hne (by rw [hjb]; omega) ⟨l.blk, l.shift + o, none⟩ len cap olds (by rw [q1, hjs]) holds (by omega) (by omega)
                        (by rw [hjb]; exact growslice_fits (by omega) ho4)
                      have hge := grown_ge w (len + n) cap e
                      have hm : (len + n) * j.size + (grownCap w (len + n) cap e - (len + n)) * j.size = grownCap w (len + n) cap e * j.size := by rw [← Nat.add_mul]; congr 1; omega
                      have hm2 : (len + n) * j.size = len * j.size + n * j.size := Nat.add_mul _ _ _
                      have hold := step_old (ids := (· = id)) hw e9
                      have htake : (ob.cs.drop o).take (len * j.size) = ob.cs.drop o := by
                        apply List.take_of_length_le; simp; omega
                      rw [htake] at q2
                      have hst := step_new (hold.wr.cast (HEq2.write _ _ _)) hid (by exact hn) rfl e11 (olds.toArray ++ Builtin.zeroCells z.cells n ++ Builtin.zeroCells z.cells (grownCap w (len + n) cap e - (len + n))) e
                        (by simp [hnl, q1, hrest]; omega) (fun i x hx' => by
                          obtain ⟨u, hu', r⟩ := (q2.append k2).get hx'
                          refine ⟨u, ?_, r⟩
                          have hlt := (List.getElem?_eq_some_iff.1 hu').1
                          rw [Array.getElem?_append_left (by simpa using hlt)]
                          rw [← Array.getElem?_toList]
                          simpa using hu') w.drew rfl rfl rfl rfl
                      refine ⟨_, _, _, hr, ?_, (hold.cast (HEq2.refl _) (HEq2.write _ _ _)).trans (fun _ h => h) (fun _ h => h) hst⟩
                      refine VR_sl ⟨w.heap.size, 0, (olds.toArray ++ Builtin.zeroCells z.cells n ++ Builtin.zeroCells z.cells (grownCap w (len + n) cap e - (len + n))).size, ob.es⟩ (by simp) rfl rfl hge ?_
                      simp only [Array.size_append, hrest, ho3]
                      simp [q1]; omega
                  · cases h
                · cases h
              · cases h
            · cases h
          · cases h
        · cases h
      · cases h
    · cases h
  · cases h
theorem appendH_sound (hw : WR ι H w) {id : Nat} (hid : ι id = none) (hn : id < H.next) {t xt : TypeId} {s x : AV} {s' x' : Value} (hs : VR ι s s') (hx : VR ι x x') {v : AV} {H' : Heap}
    (h : appendHA C H id t xt s x = some (v, H')) (ty : TypeId) :
    ∃ v' ι' w', (Builtin.append_ #[t, xt] ty #[s', x']).run P w = .ok v' w' ∧ VR ι' v v' ∧ Step (· = id) ι H w ι' H' w' := by
  unfold appendHA at h
  split at h
  · rename_i e; cases h; exact append_sound hC hw hid hn hs hx e ty
  · exact appendZ_sound hC hw hid hn hs hx h ty
end
end Go.Ev
