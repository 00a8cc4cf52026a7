import Derived.Test.YtldgccbiikahgabGreatEvPure
import Derived.Laws.AppendOwn
import Derived.IntWalk
namespace Go.Ev
open Go Go.RowKit
variable [Env]

section
variable {C : Ctx} {P : Program} (hC : C.Ok P) {ι : Map} {H : Heap} {w : World}

/-- a bound that may be missing -/
def BR (ι : Map) : Option AV → Option Value → Prop
  | none, none => True
  | some x, some v => VR ι x v
  | _, _ => False

theorem bound_sound {x : AV} {v : Value} (hx : VR ι x v) {y d n : Nat} (h : sliceBoundA y (some x) d = some n) (code : BoundsCode) :
    (Instr.sliceBound v y code).run P w = .ok n w ∧ n ≤ y := by
  cases x <;> simp only [sliceBoundA] at h <;> try (cases h; done)
  simp only [VR] at hx; subst hx
  split at h
  · rename_i hin
    cases h
    exact ⟨by simp [Instr.sliceBound, asIntOf, hin], by omega⟩
  · cases h
theorem bounds_sound {lo hi : Option AV} {lo' hi' : Option Value} (hlo : BR ι lo lo') (hhi : BR ι hi hi') {len n h l : Nat} (cap : Nat) (hn : len ≤ cap) (hl : n = len) (e1 : sliceBoundA n hi n = some h) (e2 : sliceBoundA h lo 0 = some l) (isSlice : Bool) :
    (Instr.sliceBounds isSlice len cap lo' hi' none).run P w = .ok (l, h, cap) w ∧ l ≤ h ∧ h ≤ len := by
  subst hl
  have hmono : ∀ (x : AV) (v : Value) (code : BoundsCode), VR ι x v → ∀ m, sliceBoundA n (some x) n = some m → (Instr.sliceBound v cap code).run P w = .ok m w := by
    intro x v code hx m e
    cases x <;> simp only [sliceBoundA] at e <;> try (cases e; done)
    simp only [VR] at hx; subst hx
    split at e
    · rename_i hin
      cases e
      have : 0 ≤ ‹Int› ∧ ‹Int› ≤ (cap : Int) := by omega
      simp [Instr.sliceBound, asIntOf, this]
    · cases e
  have hh : h ≤ n := by
    cases hi with
    | none => simp only [sliceBoundA] at e1; cases e1; exact Nat.le_refl _
    | some x => cases hi' with
      | none => exact hhi.elim
      | some v => exact (bound_sound (P := P) (w := w) hhi e1 .index).2
  have hl : l ≤ h := by
    cases lo with
    | none => simp only [sliceBoundA] at e2; cases e2; exact Nat.zero_le _
    | some x => cases lo' with
      | none => exact hlo.elim
      | some v => exact (bound_sound (P := P) (w := w) hlo e2 .index).2
  refine ⟨?_, hl, hh⟩
  cases hi with
  | none =>
    cases hi' with
    | some v => exact hhi.elim
    | none =>
      simp only [sliceBoundA] at e1; cases e1
      cases lo with
      | none =>
        cases lo' with
        | some v => exact hlo.elim
        | none => simp only [sliceBoundA] at e2; cases e2; simp [Instr.sliceBounds]
      | some x =>
        cases lo' with
        | none => exact hlo.elim
        | some v => simp [Instr.sliceBounds, (bound_sound (P := P) (w := w) hlo e2 .sliceB).1]
  | some y =>
    cases hi' with
    | none => exact hhi.elim
    | some u =>
      have hu : ∀ code, (Instr.sliceBound u cap code).run P w = .ok h w := fun code => hmono y u code hhi h e1
      cases lo with
      | none =>
        cases lo' with
        | some v => exact hlo.elim
        | none => simp only [sliceBoundA] at e2; cases e2; simp [Instr.sliceBounds, hu]
      | some x =>
        cases lo' with
        | none => exact hlo.elim
        | some v => simp [Instr.sliceBounds, hu, (bound_sound (P := P) (w := w) hlo e2 .sliceB).1]

include hC
theorem slice_sound (hw : WR ι H w) {t : TypeId} {x : AV} {x' : Value} (hx : VR ι x x') {lo hi : Option AV} {lo' hi' : Option Value} (hlo : BR ι lo lo') (hhi : BR ι hi hi') {v : AV} (h : sliceA C H t x lo hi = some v) :
    ∃ v', (Instr.sliceAt t x' lo' hi' none).run P w = .ok v' w ∧ VR ι v v' := by
  unfold sliceA at h
  split at h
  · rename_i i s e1
    have h1 := run_underlying hC (w := w) e1
    split at h
    · rename_i hd
      rw [hd] at h1
      split at h
      · rename_i hh e2
        split at h
        · rename_i l e3
          cases h
          simp only [VR] at hx; subst hx
          obtain ⟨k1, k2, k3⟩ := bounds_sound (P := P) (w := w) hlo hhi s.length (Nat.le_refl _) rfl e2 e3 false
          have hext : (ByteArray.mk ⟨s⟩).extract l hh = ByteArray.mk ⟨(s.take hh).drop l⟩ := by
            apply ByteArray.ext
            simp [ByteArray.data_extract, List.extract_eq_take_drop]
            rw [List.drop_take]
          simp only [VR]
          refine ⟨_, ?_, rfl⟩
          have hsz : (ByteArray.mk ⟨s⟩).size = s.length := rfl
          simp [Instr.sliceAt, h1, Instr.slice, hsz, k1, hext]
        · cases h
      · cases h
    · cases h
  · rename_i i b o n e1
    have h1 := run_underlying hC (w := w) e1
    split at h
    · rename_i e hd
      rw [hd] at h1
      split at h
      · rename_i j hh e2 e3
        split at h
        · rename_i l ob e4 e5
          cases e6 : (Nat.blt l n && Nat.beq ob.es j.size) with
          | false => rw [e6] at h; cases h
          | true =>
            rw [e6] at h; cases h
            simp only [Bool.and_eq_true, Tr.nbeq, decide_eq_true_eq, Nat.blt_eq] at e6
            simp only [VR] at hx
            obtain ⟨lc, cap, hb, hcap, hroom, rfl⟩ := hx
            obtain ⟨c, et, lo0, hi0, _, _, _, hes, _, _⟩ := hw.cells hb e5
            obtain ⟨k1, k2, k3⟩ := bounds_sound (P := P) (w := w) hlo hhi cap hcap rfl e3 e4 true
            refine ⟨.slice (some ⟨lc.blk, lc.shift + o + l * j.size, none⟩) (hh - l) (cap - l), ?_, ?_⟩
            · have hne : ¬ cap = l := by omega
              simp [Instr.sliceAt, h1, Instr.slice, k1, run_sizeOf hC e2, hne, add_addr]
            · refine VR_sl lc hb rfl (by omega) (by omega) ?_
              have hm : l * j.size + (cap - l) * j.size = cap * j.size := by rw [← Nat.add_mul]; congr 1; omega
              rw [hes, e6.2] at hroom ⊢
              omega
        · cases h
      · cases h
    · cases h
  · rename_i i e1
    have h1 := run_underlying hC (w := w) e1
    split at h
    · rename_i e hd
      rw [hd] at h1
      split at h
      · rename_i j hh e0 e2
        split at h
        · rename_i l e3
          cases h
          simp only [VR] at hx; subst hx
          obtain ⟨k1, k2, k3⟩ := bounds_sound (P := P) (w := w) hlo hhi 0 (Nat.le_refl _) rfl e2 e3 true
          have hz : l = 0 ∧ hh = 0 := by omega
          obtain ⟨rfl, rfl⟩ := hz
          simp only [VR]
          exact ⟨_, by simp [Instr.sliceAt, h1, Instr.slice, k1, run_sizeOf hC e0], rfl⟩
        · cases h
      · cases h
    · cases h
  · cases h

omit hC
omit [Env] in
theorem growBy_le : ∀ (r c n : Nat), c < n → Builtin.growBy n r c ≤ n + (n + 768) / 4
  | 0, c, n, h => by simp only [Builtin.growBy]; omega
  | r + 1, c, n, h => by
    simp only [Builtin.growBy]
    rw [if_neg (by omega)]
    by_cases e : c + (c + 768) / 4 < n
    · exact growBy_le r _ n e
    · cases r with
      | zero => simp only [Builtin.growBy]; omega
      | succ r => simp only [Builtin.growBy]; rw [if_pos (by omega)]; omega
omit [Env] in
theorem nextcap_le (need old : Nat) (h : old < need) : Builtin.nextslicecap need old ≤ 4 * need := by
  unfold Builtin.nextslicecap
  split
  · omega
  · split
    · omega
    · have := growBy_le 4 old need h; omega

theorem first_sound (hw : WR ι H w) {size n : Nat} {x : AV} {x' : Value} (hx : VR ι x x') {cs : List AV} (h : firstA H size n x = some cs) :
    ∃ arr : Array Value, (Builtin.firstCells size n x').run P w = .ok arr w ∧ VRs ι cs arr.toList := by
  cases x <;> simp only [firstA] at h <;> try (cases h; done)
  case sl0 => cases h; simp only [VR] at hx; subst hx; exact ⟨#[], by simp [Builtin.firstCells], VRs_nil⟩
  case str s =>
    cases h; simp only [VR] at hx; subst hx
    refine ⟨((ByteArray.mk ⟨s⟩).extract 0 n).data.map fun b => .int .u8 b.toNat, by simp [Builtin.firstCells], ?_⟩
    have : ((ByteArray.mk ⟨s⟩).extract 0 n).data.toList = s.take n := by
      simp [ByteArray.data_extract, List.extract_eq_take_drop]
    rw [Array.toList_map, this]
    generalize s.take n = l
    induction l with
    | nil => exact VRs_nil
    | cons b l ih => exact VRs_cons (by simp only [VR]) ih
  case sl b o m =>
    split at h
    · rename_i ob e1
      cases e2 : Nat.ble (o + n * size) ob.cs.length with
      | false => rw [e2] at h; cases h
      | true =>
        rw [e2] at h; cases h
        simp only [VR] at hx
        obtain ⟨l, cap, hb, hcap, hroom, rfl⟩ := hx
        obtain ⟨vs, k1, k2, k3⟩ := cells_at hw hb e1 o (n * size) (Nat.le_of_ble_eq_true e2)
        have := run_loadCells_list (P := P) w ⟨l.blk, l.shift + o, none⟩ vs (fun j v hv => by rw [add_addr]; exact k3 j v hv)
        rw [k1] at this
        exact ⟨vs.toArray, by simp [Builtin.firstCells, this], k2⟩
    · cases h

omit [Env] in
theorem run_append_zero {t ty e : TypeId} {i : TypeInfo} (ht : P.underlying t = some (.slice e)) (hi : P.info? e = some i) (base a : Option Addr) (len cap c : Nat) (hle : len ≤ cap) :
    (Builtin.append_ #[t, t] ty #[.slice base len cap, .slice a 0 c]).run P w = .ok (.slice base len cap) w := by
  cases base <;> cases a <;> simp [Builtin.append_, Go.run_underlying ht, sizeOf, typeInfo, hi, Builtin.lenOf, hle, Builtin.firstCells, loadCells, loadCellsFrom, storeCells]

omit [Env] in
theorem run_append_in {t ty e : TypeId} {i : TypeInfo} (ht : P.underlying t = some (.slice e)) (hi : P.info? e = some i)
    (g o sLen sCap : Nat) (a : Addr) (m c : Nat) (news : List Value) (hl : news.length = m * i.size) (hnews : ∀ j u, news[j]? = some u → w.cell? (a.add j) = some u) (h1 : ∀ u ∈ news, u.oneCell' = true)
    (hroom : sLen + m ≤ sCap) (hc : ∀ j, j < news.length → (w.cell? ⟨g, o + sLen * i.size + j, none⟩).isSome = true) (hf : ∀ j, j < news.length → w.frozen? ⟨g, o + sLen * i.size + j, none⟩ = false) :
    (Builtin.append_ #[t, t] ty #[.slice (some ⟨g, o, none⟩) sLen sCap, .slice (some a) m c]).run P w =
      .ok (.slice (some ⟨g, o, none⟩) (sLen + m) sCap) (w.setCells g (o + sLen * i.size) news) := by
  have hf1 := run_firstCells_some (P := P) w i.size m a m c news hl hnews
  have hst := run_storeCells_cells (P := P) g (o + sLen * i.size) news 0 w (by simpa using hc) (by simpa using hf) h1
  simp only [Nat.add_zero] at hst
  simp [Builtin.append_, Go.run_underlying ht, sizeOf, typeInfo, hi, Builtin.lenOf, hroom, hf1, add_addr, hst]

theorem Step.draw {ids : Nat → Prop} {ι' : Map} {H' : Heap} {w' : World} {d : Nat} (h : Step ids ι H { w with drawn := d } ι' H' w') : Step ids ι H w ι' H' w' :=
  ⟨h.ext, h.wr, h.next, h.dom, h.keep, h.junk, h.os, h.tape, h.output, h.size, h.frame, h.fresh⟩
omit [Env] in
theorem grown_ge (w : World) (need old : Nat) (e : TypeId) : need ≤ grownCap w need old e := by
  simp only [grownCap, Question.cut]; omega

omit [Env] in
theorem add_write {b id : Nat} {o x : Obj} {H' : Heap} (h : (H.write b o).add id x = some H') : (H.put b o).add id x = some ((H.put b o).put id x) ∧ HEq2 ((H.put b o).put id x) H' := by
  obtain ⟨h1, rfl⟩ := Heap.add_eq h
  refine ⟨?_, ⟨fun j => ?_, rfl⟩⟩
  · unfold Heap.add
    have : (H.put b o).get id = none := h1
    rw [this]
  · rw [Heap.get_put, Heap.get_put, Heap.get_write, Heap.get_put]
include hC
theorem append_sound (hw : WR ι H w) {id : Nat} (hid : ι id = none) (hn : id < H.next) {t xt : TypeId} {s x : AV} {s' x' : Value} (hs : VR ι s s') (hx : VR ι x x') {v : AV} {H' : Heap}
    (h : appendA C H id t xt s x = some (v, H')) (ty : TypeId) :
    ∃ v' ι' w', (Builtin.append_ #[t, xt] ty #[s', x']).run P w = .ok v' w' ∧ VR ι' v v' ∧ Step (· = id) ι H w ι' H' w' := by
  unfold appendA at h
  split at h
  · rename_i i e1 e2
    simp only [Tr.nbeq, decide_eq_true_eq] at e1
    subst e1
    split at h
    · rename_i e hd
      obtain ⟨hu, _⟩ := hC.ty t i e2
      rw [hd] at hu
      split at h
      · rename_i j e4
        obtain ⟨_, jj, hi, hjs, hjb, hjz⟩ := hC.ty e j e4
        split at h
        · -- nothing is appended
          simp only [VR] at hx; subst hx
          split at h
          · cases h; have hs0 := hs; simp only [VR] at hs; subst hs
            exact ⟨_, ι, w, run_append_zero hu hi none none 0 0 0 (Nat.le_refl _), hs0, Step.refl hw⟩
          · cases h; have hs0 := hs; simp only [VR] at hs; obtain ⟨l, cap, hb, hcap, hroom, rfl⟩ := hs
            exact ⟨_, ι, w, run_append_zero hu hi _ none _ cap 0 hcap, hs0, Step.refl hw⟩
          · cases h
        · rename_i bx ox n
          split at h
          · rename_i new e5
            cases e6 : (Nat.beq n 0 || Nat.beq j.size 0 || !zeroFits j || !Nat.beq new.length (n * j.size)) with
            | true => rw [e6] at h; cases h
            | false =>
              rw [e6] at h
              simp only [cond_false] at h
              simp only [Bool.or_eq_false_iff, Tr.nbeq, decide_eq_false_iff_not, Bool.not_eq_false', decide_eq_true_eq] at e6
              obtain ⟨⟨⟨n0, s0⟩, hzf⟩, hnl⟩ := e6
              -- what is appended
              simp only [firstA] at e5
              cases e7 : H.cells bx with
              | none => rw [e7] at e5; cases e5
              | some obx =>
                rw [e7] at e5
                simp only at e5
                cases e8 : Nat.ble (ox + n * j.size) obx.cs.length with
                | false => rw [e8] at e5; cases e5
                | true =>
                  rw [e8] at e5; cases e5
                  have hx0 := hx
                  simp only [VR] at hx
                  obtain ⟨lx, cx, hbx, hcx, _, rfl⟩ := hx
                  obtain ⟨news, k1, k2, k3⟩ := cells_at hw hbx e7 ox (n * j.size) (Nat.le_of_ble_eq_true e8)
                  have hnews : ∀ j' u, news[j']? = some u → w.cell? ((⟨lx.blk, lx.shift + ox, none⟩ : Addr).add j') = some u := fun j' u hu' => by rw [add_addr]; exact k3 j' u hu'
                  have hl : news.length = n * jj.size := by rw [k1, hjs]
                  have hzz : ∃ z, jj.zero = some z ∧ z.cells.size = j.size := by
                    unfold zeroFits at hzf
                    split at hzf
                    · rename_i z0 ez
                      obtain ⟨z, hz1, hz2⟩ := hjz z0 ez
                      have := (hz2 ι).len
                      simp only [Tr.nbeq, decide_eq_true_eq] at hzf
                      exact ⟨z, hz1, by simp at this; omega⟩
                    · cases hzf
                  obtain ⟨z, hz, hzs⟩ := hzz
                  have hrest : ∀ c, (Builtin.zeroCells z.cells c).size = c * j.size := fun c => by rw [size_zeroCells, hzs]
                  split at h
                  · -- onto the nil slice
                    cases e9 : (Nat.ble (n * j.bytes) 140737488355328 && Nat.ble n 1000000000) with
                    | false => rw [e9] at h; cases h
                    | true =>
                      rw [e9] at h
                      simp only [cond_true] at h
                      simp only [Bool.and_eq_true, Nat.ble_eq] at e9
                      split at h
                      · rename_i H1 e10
                        cases h
                        simp only [VR] at hs; subst hs
                        have hr := run_append_nil (P := P) w t ty e jj z hu hi hz ⟨lx.blk, lx.shift + ox, none⟩ n cx news hl hnews (by omega) (by omega) (by rw [hjb]; omega)
                        have hge := grown_ge w n 0 e
                        have hm : n * j.size + (grownCap w n 0 e - n) * j.size = grownCap w n 0 e * j.size := by rw [← Nat.add_mul]; congr 1; omega
                        have hst := step_new hw hid hn rfl e10 (news.toArray ++ Builtin.zeroCells z.cells (grownCap w n 0 e - n)) e (by simp [hnl, k1]) (fun i x hx' => by
                          obtain ⟨u, hu', r⟩ := k2.get hx'
                          refine ⟨u, ?_, r⟩
                          have hlt := (List.getElem?_eq_some_iff.1 hu').1
                          rw [Array.getElem?_append_left (by simpa using hlt)]; simpa using hu') w.drew rfl rfl rfl rfl
                        refine ⟨_, _, _, hr, ?_, hst⟩
                        exact VR_sl ⟨w.heap.size, 0, (news.toArray ++ Builtin.zeroCells z.cells (grownCap w n 0 e - n)).size, j.size⟩ (by simp) rfl rfl hge (by simp [hrest, k1]; omega)
                      · cases h
                  · rename_i b o len
                    split at h
                    · rename_i ob e9
                      cases e10 : (!ob.kind.isOld && Nat.beq (o + len * j.size) ob.cs.length && Nat.beq ob.es j.size && Nat.ble ((len + n) * j.bytes) 140737488355328 && Nat.ble (len + n) 1000000000 && flatAll ((obx.cs.drop ox).take (n * j.size))) with
                      | false => rw [e10] at h; cases h
                      | true =>
                        rw [e10] at h
                        simp only [cond_true] at h
                        simp only [Bool.and_eq_true, Tr.nbeq, decide_eq_true_eq, Nat.ble_eq, Bool.not_eq_true'] at e10
                        obtain ⟨⟨⟨⟨⟨ho1, ho2⟩, ho3⟩, ho4⟩, ho5⟩, ho6⟩ := e10
                        split at h
                        · rename_i H1 e11
                          cases h
                          simp only [VR] at hs
                          obtain ⟨l, cap, hb, hcap, hroom, rfl⟩ := hs
                          obtain ⟨c, et, lo, hi0, h1, h2, h3, h4, h5, h6⟩ := hw.cells hb e9
                          have hes : l.es = j.size := by omega
                          have hone := flatAll_sound k2 ho6
                          by_cases hfit : len + n ≤ cap
                          · have hm : len * j.size + n * j.size ≤ cap * j.size := by rw [← Nat.add_mul]; exact Nat.mul_le_mul_right _ hfit
                            rw [hes] at hroom
                            have hr := run_append_in (P := P) (w := w) (ty := ty) hu hi l.blk (l.shift + o) len cap ⟨lx.blk, lx.shift + ox, none⟩ n cx news hl hnews hone hfit
                              (fun j' hj' => by rw [hjs]; simp [World.cell?, h1]; omega)
                              (fun j' hj' => by
                                rw [hjs]
                                have := h3 (l.shift + o + len * j.size + j') (by omega)
                                simp only [World.frozen?, h1]
                                by_cases q : lo ≤ l.shift + o + len * j.size + j' <;> simp <;> omega)
                            have hst := (step_tail (H' := (H.put b { ob with kind := .old }).put id { cs := ob.cs.drop o ++ (obx.cs.drop ox).take (n * j.size), es := ob.es, kind := .tip (ob.cs.drop o).length }) hw hid hn hb e9 ho1 o (by omega) _ news k2 (by rw [hnl]; omega) (add_write e11).1).cast (HEq2.refl _) (add_write e11).2
                            have hpl : l.shift + o + len * jj.size = l.shift + ob.cs.length := by rw [hjs]; omega
                            rw [hpl] at hr
                            refine ⟨_, _, _, hr, ?_, hst⟩
                            exact VR_sl ⟨l.blk, l.shift + o, l.room, l.es⟩ (by simp) rfl (by simp) hfit (by simp only [hes]; omega)
                          · obtain ⟨olds, q1, q2, q3⟩ := cells_at hw hb e9 o (len * j.size) (by omega)
                            have holds : ∀ j' u, olds[j']? = some u → w.cell? ((⟨l.blk, l.shift + o, none⟩ : Addr).add j') = some u := fun j' u hu' => by rw [add_addr]; exact q3 j' u hu'
                            have hr := run_append_grow (P := P) w t ty e jj z hu hi hz ⟨l.blk, l.shift + o, none⟩ len cap olds (by rw [q1, hjs]) holds ⟨lx.blk, lx.shift + ox, none⟩ n cx news hl hnews (by omega) (by omega)
                              (by rw [hjb]; exact growslice_fits (by omega) ho4)
                            have hge := grown_ge w (len + n) cap e
                            have hm : (len + n) * j.size + (grownCap w (len + n) cap e - (len + n)) * j.size = grownCap w (len + n) cap e * j.size := by rw [← Nat.add_mul]; congr 1; omega
                            have hm2 : (len + n) * j.size = len * j.size + n * j.size := Nat.add_mul _ _ _
                            have hold := step_old (ids := (· = id)) hw e9
                            have htake : (ob.cs.drop o).take (len * j.size) = ob.cs.drop o := by
                              apply List.take_of_length_le; simp; omega
                            rw [htake] at q2
                            have hst := step_new (hold.wr.cast (HEq2.write _ _ _)) hid (by exact hn) rfl e11 (olds.toArray ++ news.toArray ++ Builtin.zeroCells z.cells (grownCap w (len + n) cap e - (len + n))) e
                              (by simp [hnl, k1, q1]; omega) (fun i x hx' => by
                                obtain ⟨u, hu', r⟩ := (q2.append k2).get hx'
                                refine ⟨u, ?_, r⟩
                                have hlt := (List.getElem?_eq_some_iff.1 hu').1
                                rw [Array.getElem?_append_left (by simpa using hlt)]
                                simpa using hu') w.drew rfl rfl rfl rfl
                            refine ⟨_, _, _, hr, ?_, (hold.cast (HEq2.refl _) (HEq2.write _ _ _)).trans (fun _ h => h) (fun _ h => h) hst⟩
                            refine VR_sl ⟨w.heap.size, 0, (olds.toArray ++ news.toArray ++ Builtin.zeroCells z.cells (grownCap w (len + n) cap e - (len + n))).size, ob.es⟩ (by simp) rfl rfl hge ?_
                            simp only [Array.size_append, hrest, ho3]
                            simp [q1, k1]; omega
                        · cases h
                    · cases h
                  · cases h
          · cases h
        · cases h
      · cases h
    · cases h
  · cases h

theorem makeSlice_sound (hw : WR ι H w) {id : Nat} (hid : ι id = none) (hn : id < H.next) {t : TypeId} {x y : AV} {x' y' : Value} (hx : VR ι x x') (hy : VR ι y y') {v : AV} {H' : Heap}
    (h : makeSliceA C H id t x y = some (v, H')) :
    ∃ v' ι' w', (Instr.makeSlice t x' y').run P w = .ok v' w' ∧ VR ι' v v' ∧ Step (· = id) ι H w ι' H' w' := by
  cases x <;> cases y <;> simp only [makeSliceA] at h <;> try (cases h; done)
  rename_i k n k' c
  simp only [VR] at hx hy; subst hx hy
  split at h
  · rename_i hnc
    obtain ⟨rfl, h0, hle⟩ := hnc
    split at h
    · rename_i e si by_ ze zv0 e1
      have u1 := run_underlying hC (w := w) e1
      split at h
      · rename_i j e2
        obtain ⟨jj, hti, hjs, hjb⟩ := run_typeInfo hC (w := w) e2
        have hsz := run_sizeOf hC (w := w) e2
        split at h
        · rename_i z e3
          cases e4 : (Nat.beq z.length j.size && !Nat.beq j.size 0 && Nat.ble j.bytes 1000000 && Nat.ble (n.toNat * j.bytes) 140737488355328) with
          | false => rw [e4] at h; cases h
          | true =>
            rw [e4] at h
            simp only [cond_true] at h
            simp only [Bool.and_eq_true, Tr.nbeq, decide_eq_true_eq, Nat.ble_eq, Bool.not_eq_true', decide_eq_false_iff_not] at e4
            split at h
            · rename_i H1 e5
              cases h
              obtain ⟨zv, hz, hzr⟩ := run_zeroValue hC (w := w) e2 e3
              have hzl := (hzr ι).len
              simp only [Array.length_toList] at hzl
              have hs0 : zv.cells.size = j.size := by omega
              have hrep := repeat_sound (hzr ι) n.toNat (by omega)
              have hwrap : IntKind.i64.wrap n = n := IntWalk.i64_in n (by omega)
              have hlarge : ¬ (n < 0 ∨ (2 : Int) ^ 48 < (jj.bytes : Int) * n) := by
                rw [hjb]
                have : ((n.toNat * j.bytes : Nat) : Int) = (j.bytes : Int) * n := by
                  rw [Int.natCast_mul, Int.toNat_of_nonneg h0, Int.mul_comm]
                have h48 : (2 : Int) ^ 48 = 281474976710656 := by decide
                omega
              by_cases hz0 : n.toNat = 0
              · have hn0 : n = 0 := by omega
                subst hn0
                have hst := step_new hw hid hn rfl e5 #[] e (by simp [repeatCells]) (fun i x hx' => by simp [repeatCells] at hx') w rfl rfl rfl rfl
                refine ⟨.slice (some ⟨w.heap.size, 0, none⟩) 0 0, _, _, ?_, ?_, hst⟩
                · simp [Instr.makeSlice, u1, asInt, asIntOf, hti, hsz, run_newRow, hwrap]
                  congr 2
                  exact Array.eq_empty_of_size_eq_zero (by simp)
                · exact VR_sl ⟨w.heap.size, 0, 0, j.size⟩ (by simp) rfl rfl (Nat.le_refl _) (by simp)
              · have hst := step_new hw hid hn rfl e5 ((Array.range (n.toNat * zv.cells.size)).map (zv.cells[· % zv.cells.size]!)) e (by simp [repeat_len, hzl]) (fun i x hx' => by
                  obtain ⟨u, hu', r⟩ := hrep.get hx'
                  exact ⟨u, by rw [Array.getElem?_toList] at hu'; exact hu', r⟩) w rfl rfl rfl rfl
                refine ⟨.slice (some ⟨w.heap.size, 0, none⟩) n.toNat n.toNat, _, _, ?_, ?_, hst⟩
                · have hne : ¬ n.toNat * j.size = 0 := by
                    intro q; rcases Nat.mul_eq_zero.1 q with q | q
                    · exact hz0 q
                    · exact e4.1.1.2 q
                  have hlarge' : ¬ (n < 0 ∨ 281474976710656 < (jj.bytes : Int) * n) := by
                    have h48 : (2 : Int) ^ 48 = 281474976710656 := by decide
                    rw [h48] at hlarge; exact hlarge
                  simp [Instr.makeSlice, u1, asInt, asIntOf, hti, hsz, run_newRow, hwrap, hlarge', hz, hs0, hne]
                  intro hneg; omega
                · exact VR_sl ⟨w.heap.size, 0, ((Array.range (n.toNat * zv.cells.size)).map (zv.cells[· % zv.cells.size]!)).size, j.size⟩ (by simp) rfl rfl (Nat.le_refl _) (by simp [hs0])
            · cases h
        · cases h
      · cases h
    · cases h
  · cases h
end
end Go.Ev
