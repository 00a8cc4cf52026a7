import Derived.Test.YtcbdmlpfepdblaaGreatDoorEvB
import Derived.Laws.AppendOwn
import Derived.IntWalk
import Derived.MapKept
import Derived.Laws.BytesString
namespace Go.Ev
noncomputable section
open Go Go.RowKit
variable [Env]

section
variable {C : Ctx} {P : Program} (hC : C.Ok P) {ι : Map} {H : Heap} {w : World}

/-- a bound that may be missing -/
def BR (ι : Map) : Option AV → Option Value → Prop
  | none, none => True
  | some x, some v => VR ι x v
  | _, _ => False

theorem bound_sound {x : AV} {v : Value} (hx : VR ι x v) {y d n : Nat} (h : sliceBoundA y (some x) d = some n) (code : BoundsCode) :
    (Instr.sliceBound v y code).run P w = .ok n w ∧ n ≤ y := by
  cases x <;> simp only [sliceBoundA] at h <;> try (cases h; done)
  simp only [VR] at hx; subst hx
  split at h
  · rename_i hin
    cases h
    exact ⟨by simp [Instr.sliceBound, asIntOf, hin], by omega⟩
  · cases h
theorem bounds_sound {lo hi : Option AV} {lo' hi' : Option Value} (hlo : BR ι lo lo') (hhi : BR ι hi hi') {len n h l : Nat} (cap : Nat) (hn : len ≤ cap) (hl : n = len) (e1 : sliceBoundA n hi n = some h) (e2 : sliceBoundA h lo 0 = some l) (isSlice : Bool) :
    (Instr.sliceBounds isSlice len cap lo' hi' none).run P w = .ok (l, h, cap) w ∧ l ≤ h ∧ h ≤ len := by
  subst hl
  have hmono : ∀ (x : AV) (v : Value) (code : BoundsCode), VR ι x v → ∀ m, sliceBoundA n (some x) n = some m → (Instr.sliceBound v cap code).run P w = .ok m w := by
    intro x v code hx m e
    cases x <;> simp only [sliceBoundA] at e <;> try (cases e; done)
    simp only [VR] at hx; subst hx
    split at e
    · rename_i hin
      cases e
      have : 0 ≤ ‹Int› ∧ ‹Int› ≤ (cap : Int) := by omega
      simp [Instr.sliceBound, asIntOf, this]
    · cases e
  have hh : h ≤ n := by
    cases hi with
    | none => simp only [sliceBoundA] at e1; cases e1; exact Nat.le_refl _
    | some x => cases hi' with
      | none => exact hhi.elim
      | some v => exact (bound_sound (P := P) (w := w) hhi e1 .index).2
  have hl : l ≤ h := by
    cases lo with
    | none => simp only [sliceBoundA] at e2; cases e2; exact Nat.zero_le _
    | some x => cases lo' with
      | none => exact hlo.elim
      | some v => exact (bound_sound (P := P) (w := w) hlo e2 .index).2
  refine ⟨?_, hl, hh⟩
  cases hi with
  | none =>
    cases hi' with
    | some v => exact hhi.elim
    | none =>
      simp only [sliceBoundA] at e1; cases e1
      cases lo with
      | none =>
        cases lo' with
        | some v => exact hlo.elim
        | none => simp only [sliceBoundA] at e2; cases e2; simp [Instr.sliceBounds]
      | some x =>
        cases lo' with
        | none => exact hlo.elim
        | some v => simp [Instr.sliceBounds, (bound_sound (P := P) (w := w) hlo e2 .sliceB).1]
  | some y =>
    cases hi' with
    | none => exact hhi.elim
    | some u =>
      have hu : ∀ code, (Instr.sliceBound u cap code).run P w = .ok h w := fun code => hmono y u code hhi h e1
      cases lo with
      | none =>
        cases lo' with
        | some v => exact hlo.elim
        | none => simp only [sliceBoundA] at e2; cases e2; simp [Instr.sliceBounds, hu]
      | some x =>
        cases lo' with
        | none => exact hlo.elim
        | some v => simp [Instr.sliceBounds, hu, (bound_sound (P := P) (w := w) hlo e2 .sliceB).1]

include hC
theorem slice_sound (hw : WR ι H w) {t : TypeId} {x : AV} {x' : Value} (hx : VR ι x x') {lo hi : Option AV} {lo' hi' : Option Value} (hlo : BR ι lo lo') (hhi : BR ι hi hi') {v : AV} (h : sliceA C H t x lo hi = some v) :
    ∃ v', (Instr.sliceAt t x' lo' hi' none).run P w = .ok v' w ∧ VR ι v v' := by
  unfold sliceA at h
  split at h
  · rename_i i s e1
    have h1 := run_underlying hC (w := w) e1
    split at h
    · rename_i hd
      rw [hd] at h1
      split at h
      · rename_i hh e2
        split at h
        · rename_i l e3
          cases h
          simp only [VR] at hx; subst hx
          obtain ⟨k1, k2, k3⟩ := bounds_sound (P := P) (w := w) hlo hhi s.length (Nat.le_refl _) rfl e2 e3 false
          have hext : (ByteArray.mk ⟨s⟩).extract l hh = ByteArray.mk ⟨(s.take hh).drop l⟩ := by
            apply ByteArray.ext
            simp [ByteArray.data_extract, List.extract_eq_take_drop]
            rw [List.drop_take]
          simp only [VR]
          refine ⟨_, ?_, rfl⟩
          have hsz : (ByteArray.mk ⟨s⟩).size = s.length := rfl
          simp [Instr.sliceAt, h1, Instr.slice, hsz, k1, hext]
        · cases h
      · cases h
    · cases h
  · rename_i i s e1
    have h1 := run_underlying hC (w := w) e1
    split at h
    · rename_i hd
      rw [hd] at h1
      split at h
      · rename_i hh e2
        split at h
        · rename_i l e3
          cases h
          simp only [VR] at hx; subst hx
          obtain ⟨k1, k2, k3⟩ := bounds_sound (P := P) (w := w) hlo hhi s.length (Nat.le_refl _) rfl e2 e3 false
          have hext : (ByteArray.mk ⟨s.map Exp.byte⟩).extract l hh = ByteArray.mk ⟨((s.take hh).drop l).map Exp.byte⟩ := by
            apply ByteArray.ext
            simp [ByteArray.data_extract, List.extract_eq_take_drop]
            rw [List.drop_take]
          refine ⟨_, ?_, mkS_vr.2 rfl⟩
          have hsz : (ByteArray.mk ⟨s.map Exp.byte⟩).size = s.length := by show (s.map Exp.byte).length = _; simp
          simp [Instr.sliceAt, h1, Instr.slice, hsz, k1, hext]
        · cases h
      · cases h
    · cases h
  · rename_i i b o n e1
    have h1 := run_underlying hC (w := w) e1
    split at h
    · rename_i e hd
      rw [hd] at h1
      split at h
      · rename_i j hh e2 e3
        split at h
        · rename_i l ob e4 e5
          cases e6 : (Nat.blt l n && Nat.beq ob.es j.size) with
          | false => rw [e6] at h; cases h
          | true =>
            rw [e6] at h; cases h
            simp only [Bool.and_eq_true, Tr.nbeq, decide_eq_true_eq, Nat.blt_eq] at e6
            simp only [VR] at hx
            obtain ⟨lc, cap, hb, hcap, hroom, rfl⟩ := hx
            obtain ⟨c, et, lo0, hi0, _, _, _, hes, _, _⟩ := hw.cells hb e5
            obtain ⟨k1, k2, k3⟩ := bounds_sound (P := P) (w := w) hlo hhi cap hcap rfl e3 e4 true
            refine ⟨.slice (some ⟨lc.blk, lc.shift + o + l * j.size, none⟩) (hh - l) (cap - l), ?_, ?_⟩
            · have hne : ¬ cap = l := by omega
              simp [Instr.sliceAt, h1, Instr.slice, k1, run_sizeOf hC e2, hne, add_addr]
            · refine VR_sl lc hb rfl (by omega) (by omega) ?_
              have hm : l * j.size + (cap - l) * j.size = cap * j.size := by rw [← Nat.add_mul]; congr 1; omega
              rw [hes, e6.2] at hroom ⊢
              omega
        · cases h
      · cases h
    · cases h
  · rename_i i e1
    have h1 := run_underlying hC (w := w) e1
    split at h
    · rename_i e hd
      rw [hd] at h1
      split at h
      · rename_i j hh e0 e2
        split at h
        · rename_i l e3
          cases h
          simp only [VR] at hx; subst hx
          obtain ⟨k1, k2, k3⟩ := bounds_sound (P := P) (w := w) hlo hhi 0 (Nat.le_refl _) rfl e2 e3 true
          have hz : l = 0 ∧ hh = 0 := by omega
          obtain ⟨rfl, rfl⟩ := hz
          simp only [VR]
          exact ⟨_, by simp [Instr.sliceAt, h1, Instr.slice, k1, run_sizeOf hC e0], rfl⟩
        · cases h
      · cases h
    · cases h
  · cases h

omit hC
omit [Env] in
theorem growBy_le : ∀ (r c n : Nat), c < n → Builtin.growBy n r c ≤ n + (n + 768) / 4
  | 0, c, n, h => by simp only [Builtin.growBy]; omega
  | r + 1, c, n, h => by
    simp only [Builtin.growBy]
    rw [if_neg (by omega)]
    by_cases e : c + (c + 768) / 4 < n
    · exact growBy_le r _ n e
    · cases r with
      | zero => simp only [Builtin.growBy]; omega
      | succ r => simp only [Builtin.growBy]; rw [if_pos (by omega)]; omega
omit [Env] in
theorem nextcap_le (need old : Nat) (h : old < need) : Builtin.nextslicecap need old ≤ 4 * need := by
  unfold Builtin.nextslicecap
  split
  · omega
  · split
    · omega
    · have := growBy_le 4 old need h; omega

theorem first_sound (hw : WR ι H w) {size n : Nat} {x : AV} {x' : Value} (hx : VR ι x x') {cs : List AV} (h : firstA H size n x = some cs) :
    ∃ arr : Array Value, (Builtin.firstCells size n x').run P w = .ok arr w ∧ VRs ι cs arr.toList := by
  cases x <;> simp only [firstA] at h <;> try (cases h; done)
  case sl0 => cases h; simp only [VR] at hx; subst hx; exact ⟨#[], by simp [Builtin.firstCells], VRs_nil⟩
  case str s =>
    cases h; simp only [VR] at hx; subst hx
    refine ⟨((ByteArray.mk ⟨s⟩).extract 0 n).data.map fun b => .int .u8 b.toNat, by simp [Builtin.firstCells], ?_⟩
    have : ((ByteArray.mk ⟨s⟩).extract 0 n).data.toList = s.take n := by
      simp [ByteArray.data_extract, List.extract_eq_take_drop]
    rw [Array.toList_map, this]
    generalize s.take n = l
    induction l with
    | nil => exact VRs_nil
    | cons b l ih => exact VRs_cons (by simp only [VR]) ih
  case sl b o m =>
    split at h
    · rename_i ob e1
      cases e2 : Nat.ble (o + n * size) ob.cs.length with
      | false => rw [e2] at h; cases h
      | true =>
        rw [e2] at h; cases h
        simp only [VR] at hx
        obtain ⟨l, cap, hb, hcap, hroom, rfl⟩ := hx
        obtain ⟨vs, k1, k2, k3⟩ := cells_at hw hb e1 o (n * size) (Nat.le_of_ble_eq_true e2)
        have := run_loadCells_list (P := P) w ⟨l.blk, l.shift + o, none⟩ vs (fun j v hv => by rw [add_addr]; exact k3 j v hv)
        rw [k1] at this
        exact ⟨vs.toArray, by simp [Builtin.firstCells, this], k2⟩
    · cases h

omit [Env] in
theorem run_append_zero {t ty e : TypeId} {i : TypeInfo} (ht : P.underlying t = some (.slice e)) (hi : P.info? e = some i) (base a : Option Addr) (len cap c : Nat) (hle : len ≤ cap) :
    (Builtin.append_ #[t, t] ty #[.slice base len cap, .slice a 0 c]).run P w = .ok (.slice base len cap) w := by
  cases base <;> cases a <;> simp [Builtin.append_, Go.run_underlying ht, sizeOf, typeInfo, hi, Builtin.lenOf, hle, Builtin.firstCells, loadCells, loadCellsFrom, storeCells]

omit [Env] in
theorem run_append_in {t ty e : TypeId} {i : TypeInfo} (ht : P.underlying t = some (.slice e)) (hi : P.info? e = some i)
    (g o sLen sCap : Nat) (a : Addr) (m c : Nat) (news : List Value) (hl : news.length = m * i.size) (hnews : ∀ j u, news[j]? = some u → w.cell? (a.add j) = some u) (h1 : ∀ u ∈ news, u.oneCell' = true)
    (hroom : sLen + m ≤ sCap) (hc : ∀ j, j < news.length → (w.cell? ⟨g, o + sLen * i.size + j, none⟩).isSome = true) (hf : ∀ j, j < news.length → w.frozen? ⟨g, o + sLen * i.size + j, none⟩ = false) :
    (Builtin.append_ #[t, t] ty #[.slice (some ⟨g, o, none⟩) sLen sCap, .slice (some a) m c]).run P w =
      .ok (.slice (some ⟨g, o, none⟩) (sLen + m) sCap) (w.setCells g (o + sLen * i.size) news) := by
  have hf1 := run_firstCells_some (P := P) w i.size m a m c news hl hnews
  have hst := run_storeCells_cells (P := P) g (o + sLen * i.size) news 0 w (by simpa using hc) (by simpa using hf) h1
  simp only [Nat.add_zero] at hst
  simp [Builtin.append_, Go.run_underlying ht, sizeOf, typeInfo, hi, Builtin.lenOf, hroom, hf1, add_addr, hst]

theorem Step.draw {ids : Nat → Prop} {ι' : Map} {H' : Heap} {w' : World} {d : Nat} (h : Step ids ι H { w with drawn := d } ι' H' w') : Step ids ι H w ι' H' w' :=
  ⟨h.ext, h.wr, h.next, h.dom, h.keep, h.junk, h.os, h.tape, h.output, h.size, h.stay, h.frame, h.fresh⟩
omit [Env] in
theorem grown_ge (w : World) (need old : Nat) (e : TypeId) : need ≤ grownCap w need old e := by
  simp only [grownCap, Question.cut]; omega

omit [Env] in
theorem add_write {b id : Nat} {o x : Obj} {H' : Heap} (h : (H.write b o).add id x = some H') : (H.put b o).add id x = some ((H.put b o).put id x) ∧ HEq2 ((H.put b o).put id x) H' := by
  obtain ⟨h1, rfl⟩ := Heap.add_eq h
  refine ⟨?_, ⟨fun j => ?_, rfl⟩⟩
  · unfold Heap.add
    have : (H.put b o).get id = none := h1
    rw [this]
  · rw [Heap.get_put, Heap.get_put, Heap.get_write, Heap.get_put]
include hC
theorem append_sound (hw : WR ι H w) {id : Nat} (hid : ι id = none) (hn : id < H.next) {t xt : TypeId} {s x : AV} {s' x' : Value} (hs : VR ι s s') (hx : VR ι x x') {v : AV} {H' : Heap}
    (h : appendA C H id t xt s x = some (v, H')) (ty : TypeId) :
    ∃ v' ι' w', (Builtin.append_ #[t, xt] ty #[s', x']).run P w = .ok v' w' ∧ VR ι' v v' ∧ Step (· = id) ι H w ι' H' w' := by
  unfold appendA at h
  split at h
  · rename_i i e1 e2
    simp only [Tr.nbeq, decide_eq_true_eq] at e1
    subst e1
    split at h
    · rename_i e hd
      obtain ⟨hu, _⟩ := hC.ty t i e2
      rw [hd] at hu
      split at h
      · rename_i j e4
        obtain ⟨_, jj, hi, hjs, hjb, hjz⟩ := hC.ty e j e4
        split at h
        · -- nothing is appended
          simp only [VR] at hx; subst hx
          split at h
          · cases h; have hs0 := hs; simp only [VR] at hs; subst hs
            exact ⟨_, ι, w, run_append_zero hu hi none none 0 0 0 (Nat.le_refl _), hs0, Step.refl hw⟩
          · cases h; have hs0 := hs; simp only [VR] at hs; obtain ⟨l, cap, hb, hcap, hroom, rfl⟩ := hs
            exact ⟨_, ι, w, run_append_zero hu hi _ none _ cap 0 hcap, hs0, Step.refl hw⟩
          · cases h
        · rename_i bx ox n
          split at h
          · rename_i new e5
            cases e6 : (Nat.beq n 0 || Nat.beq j.size 0 || !zeroFits j || !Nat.beq new.length (n * j.size)) with
            | true => rw [e6] at h; cases h
            | false =>
              rw [e6] at h
              simp only [cond_false] at h
              simp only [Bool.or_eq_false_iff, Tr.nbeq, decide_eq_false_iff_not, Bool.not_eq_false', decide_eq_true_eq] at e6
              obtain ⟨⟨⟨n0, s0⟩, hzf⟩, hnl⟩ := e6
              -- what is appended
              simp only [firstA] at e5
              cases e7 : H.cells bx with
              | none => rw [e7] at e5; cases e5
              | some obx =>
                rw [e7] at e5
                simp only at e5
                cases e8 : Nat.ble (ox + n * j.size) obx.cs.length with
                | false => rw [e8] at e5; cases e5
                | true =>
                  rw [e8] at e5; cases e5
                  have hx0 := hx
                  simp only [VR] at hx
                  obtain ⟨lx, cx, hbx, hcx, _, rfl⟩ := hx
                  obtain ⟨news, k1, k2, k3⟩ := cells_at hw hbx e7 ox (n * j.size) (Nat.le_of_ble_eq_true e8)
                  have hnews : ∀ j' u, news[j']? = some u → w.cell? ((⟨lx.blk, lx.shift + ox, none⟩ : Addr).add j') = some u := fun j' u hu' => by rw [add_addr]; exact k3 j' u hu'
                  have hl : news.length = n * jj.size := by rw [k1, hjs]
                  have hzz : ∃ z, jj.zero = some z ∧ z.cells.size = j.size := by
                    unfold zeroFits at hzf
                    split at hzf
                    · rename_i z0 ez
                      obtain ⟨z, hz1, hz2⟩ := hjz z0 ez
                      have := (hz2 ι).len
                      simp only [Tr.nbeq, decide_eq_true_eq] at hzf
                      exact ⟨z, hz1, by simp at this; omega⟩
                    · cases hzf
                  obtain ⟨z, hz, hzs⟩ := hzz
                  have hrest : ∀ c, (Builtin.zeroCells z.cells c).size = c * j.size := fun c => by rw [size_zeroCells, hzs]
                  split at h
                  · -- onto the nil slice
                    cases e9 : (Nat.ble (n * j.bytes) 140737488355328 && Nat.ble n 1000000000) with
                    | false => rw [e9] at h; cases h
                    | true =>
                      rw [e9] at h
                      simp only [cond_true] at h
                      simp only [Bool.and_eq_true, Nat.ble_eq] at e9
                      split at h
                      · rename_i H1 e10
                        cases h
                        simp only [VR] at hs; subst hs
                        have hr := run_append_nil (P := P) w t ty e jj z hu hi hz ⟨lx.blk, lx.shift + ox, none⟩ n cx news hl hnews (by omega) (by omega) (by rw [hjb]; omega)
                        have hge := grown_ge w n 0 e
                        have hm : n * j.size + (grownCap w n 0 e - n) * j.size = grownCap w n 0 e * j.size := by rw [← Nat.add_mul]; congr 1; omega
                        have hst := step_new hw hid hn rfl e10 (news.toArray ++ Builtin.zeroCells z.cells (grownCap w n 0 e - n)) e (by simp [hnl, k1]) (fun i x hx' => by
                          obtain ⟨u, hu', r⟩ := k2.get hx'
                          refine ⟨u, ?_, r⟩
                          have hlt := (List.getElem?_eq_some_iff.1 hu').1
                          rw [Array.getElem?_append_left (by simpa using hlt)]; simpa using hu') w.drew rfl rfl rfl rfl
                        refine ⟨_, _, _, hr, ?_, hst⟩
                        exact VR_sl ⟨w.heap.size, 0, (news.toArray ++ Builtin.zeroCells z.cells (grownCap w n 0 e - n)).size, j.size⟩ (by simp) rfl rfl hge (by simp [hrest, k1]; omega)
                      · cases h
                  · rename_i b o len
                    split at h
                    · rename_i ob e9
                      cases e10 : (!ob.kind.isOld && Nat.beq (o + len * j.size) ob.cs.length && Nat.beq ob.es j.size && Nat.ble ((len + n) * j.bytes) 140737488355328 && Nat.ble (len + n) 1000000000 && flatAll ((obx.cs.drop ox).take (n * j.size))) with
                      | false => rw [e10] at h; cases h
                      | true =>
                        rw [e10] at h
                        simp only [cond_true] at h
                        simp only [Bool.and_eq_true, Tr.nbeq, decide_eq_true_eq, Nat.ble_eq, Bool.not_eq_true'] at e10
                        obtain ⟨⟨⟨⟨⟨ho1, ho2⟩, ho3⟩, ho4⟩, ho5⟩, ho6⟩ := e10
                        split at h
                        · rename_i H1 e11
                          cases h
                          simp only [VR] at hs
                          obtain ⟨l, cap, hb, hcap, hroom, rfl⟩ := hs
                          obtain ⟨c, et, lo, hi0, h1, h2, h3, h4, h5, h6⟩ := hw.cells hb e9
                          have hes : l.es = j.size := by omega
                          have hone := flatAll_sound k2 ho6
                          by_cases hfit : len + n ≤ cap
                          · have hm : len * j.size + n * j.size ≤ cap * j.size := by rw [← Nat.add_mul]; exact Nat.mul_le_mul_right _ hfit
                            rw [hes] at hroom
                            have hr := run_append_in (P := P) (w := w) (ty := ty) hu hi l.blk (l.shift + o) len cap ⟨lx.blk, lx.shift + ox, none⟩ n cx news hl hnews hone hfit
                              (fun j' hj' => by rw [hjs]; simp [World.cell?, h1]; omega)
                              (fun j' hj' => by
                                rw [hjs]
                                have := h3 (l.shift + o + len * j.size + j') (by omega)
                                simp only [World.frozen?, h1]
                                by_cases q : lo ≤ l.shift + o + len * j.size + j' <;> simp <;> omega)
                            have hst := (step_tail (H' := (H.put b { ob with kind := .old }).put id { cs := ob.cs.drop o ++ (obx.cs.drop ox).take (n * j.size), es := ob.es, kind := .tip (ob.cs.drop o).length }) hw hid hn hb e9 ho1 o (by omega) _ news k2 (by rw [hnl]; omega) (add_write e11).1).cast (HEq2.refl _) (add_write e11).2
                            have hpl : l.shift + o + len * jj.size = l.shift + ob.cs.length := by rw [hjs]; omega
                            rw [hpl] at hr
                            refine ⟨_, _, _, hr, ?_, hst⟩
                            exact VR_sl ⟨l.blk, l.shift + o, l.room, l.es⟩ (by simp) rfl (by simp) hfit (by simp only [hes]; omega)
                          · obtain ⟨olds, q1, q2, q3⟩ := cells_at hw hb e9 o (len * j.size) (by omega)
                            have holds : ∀ j' u, olds[j']? = some u → w.cell? ((⟨l.blk, l.shift + o, none⟩ : Addr).add j') = some u := fun j' u hu' => by rw [add_addr]; exact q3 j' u hu'
                            have hr := run_append_grow (P := P) w t ty e jj z hu hi hz ⟨l.blk, l.shift + o, none⟩ len cap olds (by rw [q1, hjs]) holds ⟨lx.blk, lx.shift + ox, none⟩ n cx news hl hnews (by omega) (by omega)
                              (by rw [hjb]; exact growslice_fits (by omega) ho4)
                            have hge := grown_ge w (len + n) cap e
                            have hm : (len + n) * j.size + (grownCap w (len + n) cap e - (len + n)) * j.size = grownCap w (len + n) cap e * j.size := by rw [← Nat.add_mul]; congr 1; omega
                            have hm2 : (len + n) * j.size = len * j.size + n * j.size := Nat.add_mul _ _ _
                            have hold := step_old (ids := (· = id)) hw e9
                            have htake : (ob.cs.drop o).take (len * j.size) = ob.cs.drop o := by
                              apply List.take_of_length_le; simp; omega
                            rw [htake] at q2
                            have hst := step_new (hold.wr.cast (HEq2.write _ _ _)) hid (by exact hn) rfl e11 (olds.toArray ++ news.toArray ++ Builtin.zeroCells z.cells (grownCap w (len + n) cap e - (len + n))) e
                              (by simp [hnl, k1, q1]; omega) (fun i x hx' => by
                                obtain ⟨u, hu', r⟩ := (q2.append k2).get hx'
                                refine ⟨u, ?_, r⟩
                                have hlt := (List.getElem?_eq_some_iff.1 hu').1
                                rw [Array.getElem?_append_left (by simpa using hlt)]
                                simpa using hu') w.drew rfl rfl rfl rfl
                            refine ⟨_, _, _, hr, ?_, (hold.cast (HEq2.refl _) (HEq2.write _ _ _)).trans (fun _ h => h) (fun _ h => h) hst⟩
                            refine VR_sl ⟨w.heap.size, 0, (olds.toArray ++ news.toArray ++ Builtin.zeroCells z.cells (grownCap w (len + n) cap e - (len + n))).size, ob.es⟩ (by simp) rfl rfl hge ?_
                            simp only [Array.size_append, hrest, ho3]
                            simp [q1, k1]; omega
                        · cases h
                    · cases h
                  · cases h
          · cases h
        · cases h
      · cases h
    · cases h
  · cases h

theorem makeSlice_sound (hw : WR ι H w) {id : Nat} (hid : ι id = none) (hn : id < H.next) {t : TypeId} {x y : AV} {x' y' : Value} (hx : VR ι x x') (hy : VR ι y y') {v : AV} {H' : Heap}
    (h : makeSliceA C H id t x y = some (v, H')) :
    ∃ v' ι' w', (Instr.makeSlice t x' y').run P w = .ok v' w' ∧ VR ι' v v' ∧ Step (· = id) ι H w ι' H' w' := by
  cases x <;> cases y <;> simp only [makeSliceA] at h <;> try (cases h; done)
  rename_i k n k' c
  simp only [VR] at hx hy; subst hx hy
  split at h
  · rename_i hnc
    obtain ⟨rfl, h0, hle⟩ := hnc
    split at h
    · rename_i e si by_ ze zv0 e1
      have u1 := run_underlying hC (w := w) e1
      split at h
      · rename_i j e2
        obtain ⟨jj, hti, hjs, hjb⟩ := run_typeInfo hC (w := w) e2
        have hsz := run_sizeOf hC (w := w) e2
        split at h
        · rename_i z e3
          cases e4 : (Nat.beq z.length j.size && !Nat.beq j.size 0 && Nat.ble j.bytes 1000000 && Nat.ble (n.toNat * j.bytes) 140737488355328) with
          | false => rw [e4] at h; cases h
          | true =>
            rw [e4] at h
            simp only [cond_true] at h
            simp only [Bool.and_eq_true, Tr.nbeq, decide_eq_true_eq, Nat.ble_eq, Bool.not_eq_true', decide_eq_false_iff_not] at e4
            split at h
            · rename_i H1 e5
              cases h
              obtain ⟨zv, hz, hzr⟩ := run_zeroValue hC (w := w) e2 e3
              have hzl := (hzr ι).len
              simp only [Array.length_toList] at hzl
              have hs0 : zv.cells.size = j.size := by omega
              have hrep := repeat_sound (hzr ι) n.toNat (by omega)
              have hwrap : IntKind.i64.wrap n = n := IntWalk.i64_in n (by omega)
              have hlarge : ¬ (n < 0 ∨ (2 : Int) ^ 48 < (jj.bytes : Int) * n) := by
                rw [hjb]
                have : ((n.toNat * j.bytes : Nat) : Int) = (j.bytes : Int) * n := by
                  rw [Int.natCast_mul, Int.toNat_of_nonneg h0, Int.mul_comm]
                have h48 : (2 : Int) ^ 48 = 281474976710656 := by decide
                omega
              by_cases hz0 : n.toNat = 0
              · have hn0 : n = 0 := by omega
                subst hn0
                have hst := step_new hw hid hn rfl e5 #[] e (by simp [repeatCells]) (fun i x hx' => by simp [repeatCells] at hx') w rfl rfl rfl rfl
                refine ⟨.slice (some ⟨w.heap.size, 0, none⟩) 0 0, _, _, ?_, ?_, hst⟩
                · simp [Instr.makeSlice, u1, asInt, asIntOf, hti, hsz, run_newRow, hwrap]
                  congr 2
                  exact Array.eq_empty_of_size_eq_zero (by simp)
                · exact VR_sl ⟨w.heap.size, 0, 0, j.size⟩ (by simp) rfl rfl (Nat.le_refl _) (by simp)
              · have hst := step_new hw hid hn rfl e5 ((Array.range (n.toNat * zv.cells.size)).map (zv.cells[· % zv.cells.size]!)) e (by simp [repeat_len, hzl]) (fun i x hx' => by
                  obtain ⟨u, hu', r⟩ := hrep.get hx'
                  exact ⟨u, by rw [Array.getElem?_toList] at hu'; exact hu', r⟩) w rfl rfl rfl rfl
                refine ⟨.slice (some ⟨w.heap.size, 0, none⟩) n.toNat n.toNat, _, _, ?_, ?_, hst⟩
                · have hne : ¬ n.toNat * j.size = 0 := by
                    intro q; rcases Nat.mul_eq_zero.1 q with q | q
                    · exact hz0 q
                    · exact e4.1.1.2 q
                  have hlarge' : ¬ (n < 0 ∨ 281474976710656 < (jj.bytes : Int) * n) := by
                    have h48 : (2 : Int) ^ 48 = 281474976710656 := by decide
                    rw [h48] at hlarge; exact hlarge
                  simp [Instr.makeSlice, u1, asInt, asIntOf, hti, hsz, run_newRow, hwrap, hlarge', hz, hs0, hne]
                  intro hneg; omega
                · exact VR_sl ⟨w.heap.size, 0, ((Array.range (n.toNat * zv.cells.size)).map (zv.cells[· % zv.cells.size]!)).size, j.size⟩ (by simp) rfl rfl (Nat.le_refl _) (by simp [hs0])
            · cases h
        · cases h
      · cases h
    · cases h
  · cases h
end
end
end Go.Ev
namespace Go.Ev
noncomputable section
open Go Go.RowKit
variable [Env]
section
variable {C : Ctx} {P : Program} (hC : C.Ok P) {ι : Map} {H : Heap} {w : World}

omit [Env] in
theorem Heap.entries_eq {H : Heap} {b : Nat} {o : Obj} (h : H.entries b = some o) : H.get b = some o ∧ o.kind.isTab = true := by
  unfold Heap.entries at h
  split at h
  · rename_i x e
    cases hk : x.kind.isTab with
    | true => rw [hk] at h; cases h; exact ⟨e, hk⟩
    | false => rw [hk] at h; cases h
  · cases h
omit [Env] in
theorem Heap.entries_get {H H2 : Heap} {b : Nat} (h : H2.get b = H.get b) : H2.entries b = H.entries b := by unfold Heap.entries; rw [h]
omit [Env] in
theorem str_beq (a b : List UInt8) : ((⟨⟨a⟩⟩ : ByteArray) == ⟨⟨b⟩⟩) = (a == b) := by
  rw [Bool.eq_iff_iff, MapKept.bytes_beq]; simp
theorem same_sound {d : TypeDesc} {x y : AV} {x' y' : Value} (hx : VR ι x x') (hy : VR ι y y') {r : Bool} (h : sameA d x y = some r) : Instr.sameNow d x' y' = some r ∧ (r = true → x' = y') := by
  unfold sameA at h
  split at h
  · rename_i k a k' b
    simp only [VR] at hx hy; subst hx; subst hy
    split at h
    · rename_i e; cases h; subst e
      exact ⟨by simp [Instr.sameNow], fun e => by simp at e; rw [e]⟩
    · cases h
  · simp only [VR] at hx hy; subst hx; subst hy
    cases h
    exact ⟨by simp only [Instr.sameNow, str_beq], fun e => by simp at e; rw [e]⟩
  · cases h
theorem find_sound {d : TypeDesc} {k : AV} {k' : Value} (hk : VR ι k k') : ∀ {cs : List AV} {es : List MapEntry} {n : Nat} {r : Option AV}, MR ι cs es → findA d k cs = some r →
    (r = none ∧ Instr.findNow d k' es n = some none) ∨ ∃ j e v, r = some v ∧ Instr.findNow d k' es n = some (some (n + j, e.val)) ∧ es[j]? = some e ∧ e.key = k' ∧ VR ι v e.val
  | [], es, n, r, m, h => by
    simp only [findA] at h; cases h
    simp only [MR] at m; subst m; exact .inl ⟨rfl, rfl⟩
  | [_], es, n, r, m, h => m.elim
  | x :: v :: cs, es, n, r, m, h => by
    obtain ⟨e, es', rfl, h1, h2, h3⟩ := m
    simp only [findA] at h
    split at h
    · rename_i hs
      cases h
      obtain ⟨q1, q2⟩ := same_sound hk h1 hs
      exact .inr ⟨0, e, v, rfl, by simp [Instr.findNow, q1], rfl, (q2 rfl).symm, h2⟩
    · rename_i hs
      obtain ⟨q1, _⟩ := same_sound hk h1 hs
      rcases find_sound hk (n := n + 1) h3 h with ⟨rfl, q⟩ | ⟨j, e', u, rfl, r1, r2, r3, r4⟩
      · exact .inl ⟨rfl, by simp [Instr.findNow, q1, q]⟩
      · exact .inr ⟨j + 1, e', u, rfl, by simp [Instr.findNow, q1, r1]; omega, by simpa using r2, r3, r4⟩
    · cases h
theorem upd_sound {d : TypeDesc} {k v : AV} {k' v' : Value} (hk : VR ι k k') (hv : VR ι v v') : ∀ {cs cs2 : List AV} {es : List MapEntry} (n clock : Nat), MR ι cs es → updA d k v cs = some cs2 →
    (Instr.findNow d k' es n = some none ∧ MR ι cs2 (es ++ [{ key := k', val := v', born := clock }])) ∨
    ∃ j e, Instr.findNow d k' es n = some (some (n + j, e.val)) ∧ es[j]? = some e ∧ e.key = k' ∧ MR ι cs2 (es.modify j fun e => { e with key := k', val := v' })
  | [], cs2, es, n, clock, m, h => by
    simp only [updA] at h; cases h
    simp only [MR] at m; subst m
    exact .inl ⟨rfl, ⟨_, _, rfl, hk, hv, rfl⟩⟩
  | [_], cs2, es, n, clock, m, h => m.elim
  | x :: u :: cs, cs2, es, n, clock, m, h => by
    obtain ⟨e, es', rfl, h1, h2, h3⟩ := m
    simp only [updA] at h
    split at h
    · rename_i hs
      cases h
      obtain ⟨q1, q2⟩ := same_sound hk h1 hs
      exact .inr ⟨0, e, by simp [Instr.findNow, q1], rfl, (q2 rfl).symm, ⟨_, _, rfl, hk, hv, h3⟩⟩
    · rename_i hs
      obtain ⟨q1, _⟩ := same_sound hk h1 hs
      split at h
      · rename_i r' e1
        cases h
        rcases upd_sound hk hv (n + 1) clock h3 e1 with ⟨q, r⟩ | ⟨j, e', r1, r2, r3, r4⟩
        · exact .inl ⟨by simp [Instr.findNow, q1, q], ⟨_, _, rfl, h1, h2, r⟩⟩
        · exact .inr ⟨j + 1, e', by simp [Instr.findNow, q1, r1]; omega, by simpa using r2, r3, ⟨_, _, rfl, h1, h2, r4⟩⟩
      · cases h
    · cases h
theorem key_sound {d : TypeDesc} {k : AV} {k' : Value} (hk : VR ι k k') (h : keyA d k = true) : MapKept.IsKey d k' := by
  unfold keyA at h
  split at h
  · simp only [VR] at hk; subst hk; simpa [MapKept.IsKey] using h
  · simp only [VR] at hk; subst hk; trivial
  · cases h

/-- a new block of whatever kind -/
theorem step_any {H' : Heap} {id : Nat} (hw : WR ι H w) (hid : ι id = none) (hn : id < H.next) {o : Obj} (h : H.add id o = some H') (l : Loc) (hl : w.heap.size ≤ l.blk) {w' : World}
    (hheap : ∀ k, k < w.heap.size → w'.heap[k]? = w.heap[k]?) (hsz : w.heap.size ≤ w'.heap.size) (hos : w'.os = w.os) (htape : w'.tape = w.tape) (hout : w'.output = w.output) (hB : Blk ι w' l o) :
    Step (· = id) ι H w (fun b => if b = id then some l else ι b) H' w' := by
  obtain ⟨hg, rfl⟩ := Heap.add_eq h
  have hext : Ext ι (fun b => if b = id then some l else ι b) := fun b l hb => by
    have : b ≠ id := fun e => by rw [e, hid] at hb; cases hb
    simp [this, hb]
  have hlt : ∀ b l o, ι b = some l → H.get b = some o → l.blk < w.heap.size := fun b l o hb ho => (hw.obj b l o hb ho).lt
  refine ⟨hext, ⟨?_, ?_, ?_, ?_, fun b l h => hext b l (hw.glob b l h)⟩, Nat.le_refl _, ?_, ?_, ?_, hos, htape, hout, hsz, fun b l1 o1 o' hb g g' => ?_, ?_, ?_⟩
  · intro b l1 o1 hb ho
    rw [Heap.get_put] at ho
    by_cases e : b = id
    · subst e
      simp at hb ho
      subst hb ho
      exact hB.mono hext rfl
    · simp only [e, if_false] at hb ho
      exact (hw.obj b l1 o1 hb ho).mono hext (hheap _ (hlt b l1 o1 hb ho))
  · intro b1 b2 l1 l2 o1 o2 hne e1 e2 g1 g2 hb
    rw [Heap.get_put] at g1 g2
    by_cases q1 : b1 = id
    · have q2 : b2 ≠ id := fun e => hne (q1.trans e.symm)
      simp only [q1, if_true] at e1; simp only [q2, if_false] at e2 g2
      cases e1
      have := hlt b2 l2 o2 e2 g2
      omega
    · by_cases q2 : b2 = id
      · simp only [q2, if_true] at e2; simp only [q1, if_false] at e1 g1
        cases e2
        have := hlt b1 l1 o1 e1 g1
        omega
      · simp only [q1, q2, if_false] at e1 e2 g1 g2
        exact hw.apart b1 b2 l1 l2 o1 o2 hne e1 e2 g1 g2 hb
  · intro b hb
    have : b ≠ id := by have := Heap.next_put H id o; omega
    simp only [this, if_false]; exact hw.new b hb
  · intro b l hb; rw [Heap.get_put]; split
    · simp
    · rename_i e; simp only [e, if_false] at hb; exact hw.vis b l hb
  · intro b hb hn'
    by_cases e : b = id
    · exact .inl e
    · simp [e, hb] at hn'
  · intro b hb; rw [Heap.get_put]; split
    · simp
    · exact hb
  · intro b l hb hg'; rw [Heap.get_put] at hg'
    have : b ≠ id := fun e => by rw [e, hid] at hb; cases hb
    simpa [this] using hg'
  · rw [Heap.get_put, if_neg (fun e => by rw [e, hid] at hb; cases hb), g] at g'
    cases g'; exact ⟨fun h => h, fun h => h⟩
  · intro k hk _; exact hheap k hk
  · intro b l1 hb hl1
    by_cases e : b = id
    · simp [e] at hl1; subst hl1; exact .inl (by omega)
    · simp [e, hb] at hl1

theorem makeMap_sound {id : Nat} (hw : WR ι H w) (hid : ι id = none) (hn : id < H.next) {v : AV} {H' : Heap} (h : makeMapA H id = some (v, H')) (t : TypeId) :
    ∃ v' ι' w', (Instr.makeMap t none).run P w = .ok v' w' ∧ VR ι' v v' ∧ Step (· = id) ι H w ι' H' w' := by
  unfold makeMapA at h
  split at h
  · rename_i H1 e
    cases h
    have hheap := MapKept.heap_alloc w (.map #[] 0)
    refine ⟨_, _, w.alloc (.map #[] 0), rfl, ?_, step_any hw hid hn e ⟨w.heap.size, 0, 0, 0⟩ (Nat.le_refl _) hheap.2 (by show w.heap.size ≤ (w.heap.push _).size; simp) rfl rfl rfl (.of_map rfl ⟨#[], 0, hheap.1, rfl⟩)⟩
    simp only [VR]; exact ⟨⟨w.heap.size, 0, 0, 0⟩, by simp, rfl⟩
  · cases h

/-- a map is written -/
theorem step_map {ids : Nat → Prop} {b : Nat} {l : Loc} {ob : Obj} (hw : WR ι H w) (hb : ι b = some l) (hoc : H.entries b = some ob) (cs : List AV) (es : Array MapEntry) (clock : Nat) (hm : MR ι cs es.toList) :
    Step ids ι H w ι (H.put b { ob with cs := cs }) { w with heap := w.heap.setIfInBounds l.blk (.map es clock) } := by
  obtain ⟨ho, hk⟩ := Heap.entries_eq hoc
  have hf : ob.kind.isFree = true := by cases q : ob.kind <;> rw [q] at hk <;> first | rfl | cases hk
  have hlt := (hw.obj b l ob hb ho).lt
  have hother : ∀ k, k ≠ l.blk → (w.heap.setIfInBounds l.blk (.map es clock))[k]? = w.heap[k]? := fun k h => by rw [Array.getElem?_setIfInBounds_ne (Ne.symm h)]
  refine ⟨Ext.refl _, ⟨?_, ?_, hw.new, ?_, hw.glob⟩, Nat.le_refl _, fun _ h k => (k h).elim, ?_, ?_, rfl, rfl, rfl, by simp, fun b1 l1 o1 o' _ g g' => ?_, ?_, fun _ _ h k => by rw [h] at k; cases k⟩
  · intro b1 l1 o1 e1 g1
    rw [Heap.get_put] at g1
    by_cases q : b1 = b
    · subst q
      rw [hb] at e1; cases e1
      simp only [if_true] at g1; cases g1
      exact .of_map hk ⟨es, clock, by simp [hlt], hm⟩
    · simp only [q, if_false] at g1
      refine (hw.obj b1 l1 o1 e1 g1).mono (Ext.refl _) (hother _ fun heq => ?_)
      have := (hw.apart b1 b l1 l o1 ob q e1 hb g1 ho heq).2.1
      rw [hf] at this; cases this
  · intro b1 b2 l1 l2 o1 o2 hne e1 e2 g1 g2 heq
    rw [Heap.get_put] at g1 g2
    by_cases q1 : b1 = b
    · subst q1
      have q2 : b2 ≠ b1 := Ne.symm hne
      simp only [q2, if_false] at g2
      rw [hb] at e1; cases e1
      have := (hw.apart b1 b2 l l2 ob o2 hne hb e2 ho g2 heq).1
      rw [hf] at this; cases this
    · by_cases q2 : b2 = b
      · subst q2
        simp only [q1, if_false] at g1
        rw [hb] at e2; cases e2
        have := (hw.apart b1 b2 l1 l o1 ob hne e1 hb g1 ho heq).2.1
        rw [hf] at this; cases this
      · simp only [q1, q2, if_false] at g1 g2
        exact hw.apart b1 b2 l1 l2 o1 o2 hne e1 e2 g1 g2 heq
  · intro b1 l1 hb1; rw [Heap.get_put]; split
    · simp
    · exact hw.vis b1 l1 hb1
  · intro b1 h; rw [Heap.get_put]; split
    · simp
    · exact h
  · intro b1 l1 e1 h; rw [Heap.get_put] at h
    by_cases q : b1 = b
    · subst q; rw [ho]; simp
    · simpa [q] using h
  · rw [Heap.get_put] at g'
    by_cases q : b1 = b
    · rw [if_pos q] at g'; cases g'
      rw [q, ho] at g; cases g; exact ⟨fun h => h, fun h => h⟩
    · rw [if_neg q, g] at g'; cases g'; exact ⟨fun h => h, fun h => h⟩
  · intro k hk' hfr
    exact hother k (fun e => hfr b l ob hb ho (by cases q : ob.kind <;> rw [q] at hk <;> first | rfl | cases hk) e.symm)

include hC
theorem mapUpdate_sound {ids : Nat → Prop} (hw : WR ι H w) {t : TypeId} {m k v : AV} {m' k' v' : Value} (hm : VR ι m m') (hk : VR ι k k') (hv : VR ι v v') {H' : Heap} (h : mapUpdateA C H t m k v = some H') :
    ∃ w', (Instr.mapUpdate t m' k' v').run P w = .ok () w' ∧ Step ids ι H w ι H' w' := by
  unfold mapUpdateA at h
  split at h
  · rename_i i e1
    split at h
    · rename_i kt et hd
      split at h
      · rename_i ki b e2
        obtain ⟨hkey, h⟩ : keyA ki.desc k = true ∧ _ := by
          cases hq : keyA ki.desc k with
          | false => rw [hq] at h; cases h
          | true => rw [hq] at h; exact ⟨rfl, h⟩
        simp only [cond_true] at h
        split at h
        · rename_i ob e3
          split at h
          · rename_i cs e4
            cases h
            simp only [VR] at hm
            obtain ⟨l, hb, rfl⟩ := hm
            obtain ⟨ho, hmk⟩ := Heap.entries_eq e3
            obtain ⟨es, clock, q1, q2⟩ := (hw.obj b l ob hb ho).map hmk
            have h1 := run_underlying hC (w := w) e1
            rw [hd] at h1
            have hu := (hC.ty kt ki e2).1
            have hik := key_sound hk hkey
            rcases upd_sound hk hv 0 clock q2 e4 with ⟨r1, r2⟩ | ⟨j, e, r1, r2, r3, r4⟩
            · refine ⟨{ w with heap := w.heap.setIfInBounds l.blk (.map (es.push { key := k', val := v', born := clock }) (clock + 1)) }, ?_, (step_map hw hb e3 cs _ _ (by simpa using r2)).cast (HEq2.refl _) (HEq2.write _ _ _)⟩
              simp [Instr.mapUpdate, h1, MapKept.run_getObj_map q1, MapKept.run_checkKey hu hik, MapKept.run_findKey hu r1, MapKept.run_setObj_map _ q1, Result.andThen]
            · refine ⟨{ w with heap := w.heap.setIfInBounds l.blk (.map (es.modify j fun e => { e with key := k', val := v' }) clock) }, ?_, (step_map hw hb e3 cs _ _ (by simpa using r4)).cast (HEq2.refl _) (HEq2.write _ _ _)⟩
              have r2' : es[j]? = some e := by simpa using r2
              simp [Instr.mapUpdate, h1, MapKept.run_getObj_map q1, MapKept.run_checkKey hu hik, MapKept.run_findKey hu r1, r2', r3, MapKept.run_keyThatStays hik, MapKept.run_setObj_map _ q1, Result.andThen]
          · cases h
        · cases h
      · cases h
    · cases h
  · cases h
omit hC
theorem look_sound {d : TypeDesc} {z : Option AV} {ok : Bool} {k : AV} {k' : Value} (hk : VR ι k k') {cs : List AV} {es : List MapEntry} (hm : MR ι cs es) {v : AV} (h : lookA d z ok k cs = some v) :
    ∃ r, Instr.findNow d k' es 0 = some r ∧ ((∃ u x, r = some u ∧ VR ι x u.2 ∧ v = cond ok (.tup [x, .bool true]) x) ∨ (r = none ∧ ∃ x, z = some x ∧ v = cond ok (.tup [x, .bool false]) x)) := by
  unfold lookA at h
  split at h
  · rename_i x e
    cases h
    rcases find_sound hk (n := 0) hm e with ⟨q, _⟩ | ⟨j, en, u, q, r1, r2, r3, r4⟩
    · cases q
    · cases q; exact ⟨_, r1, .inl ⟨_, _, rfl, r4, rfl⟩⟩
  · rename_i e
    cases z with
    | none => cases h
    | some x =>
      cases h
      rcases find_sound hk (n := 0) hm e with ⟨_, q⟩ | ⟨j, en, u, q, _⟩
      · exact ⟨_, q, .inr ⟨rfl, x, rfl, rfl⟩⟩
      · cases q
  · cases h
include hC
theorem lookup_sound (hw : WR ι H w) {t : TypeId} {m k : AV} {m' k' : Value} (hm : VR ι m m') (hk : VR ι k k') {ok : Bool} {v : AV} (h : lookupA C H t m k ok = some v) :
    ∃ v', (Instr.lookup t m' k' ok).run P w = .ok v' w ∧ VR ι v v' := by
  unfold lookupA at h
  split at h
  · rename_i i e1
    split at h
    · rename_i kt et hd
      split at h
      · rename_i ki ei e2 e3
        obtain ⟨hkey, h⟩ : keyA ki.desc k = true ∧ _ := by
          cases hq : keyA ki.desc k with
          | false => rw [hq] at h; cases h
          | true => rw [hq] at h; exact ⟨rfl, h⟩
        simp only [cond_true] at h
        have h1 := run_underlying hC (w := w) e1
        rw [hd] at h1
        have hu := (hC.ty kt ki e2).1
        have hik := key_sound hk hkey
        have hz : ∀ x, ei.zval = some x → ∃ z, (zeroValue et).run P w = .ok z w ∧ VR ι x z := fun x hx => by
          obtain ⟨j, z, q1, q2, q3⟩ := hC.zv et ei x e3 hx
          exact ⟨z, by simp [zeroValue, typeInfo, q1, q2], q3 ι⟩
        have fin : ∀ (es : Array MapEntry) (cs : List AV), MR ι cs es.toList → lookA ki.desc ei.zval ok k cs = some v →
            ((m' = .map none ∧ es = #[]) ∨ ∃ r clock, m' = .map (some r) ∧ w.heap[r]? = some (.map es clock)) →
            ∃ v', (Instr.lookup t m' k' ok).run P w = .ok v' w ∧ VR ι v v' := by
          intro es cs hmr hl hes
          obtain ⟨r, hf, hr⟩ := look_sound hk hmr hl
          rcases hr with ⟨u, x, rfl, hx, rfl⟩ | ⟨rfl, x, hzx, rfl⟩
          · cases ok with
            | true => exact ⟨.tuple #[u.2, .bool true], by
              rcases hes with ⟨rfl, rfl⟩ | ⟨r, clock, rfl, q1⟩
              · simp_all [Instr.lookup, MapKept.run_checkKey hu hik, MapKept.run_findKey hu hf, Result.andThen]
              · have q2 := MapKept.run_getObj_map (P := P) q1
                simp [Instr.lookup, h1, q2, MapKept.run_checkKey hu hik, MapKept.run_findKey hu hf, Result.andThen], by simp only [cond_true, VR]; exact ⟨[u.2, .bool true], VRs_cons hx (VRs_cons (by simp only [VR]) VRs_nil), rfl⟩⟩
            | false => exact ⟨u.2, by
              rcases hes with ⟨rfl, rfl⟩ | ⟨r, clock, rfl, q1⟩
              · simp_all [Instr.lookup, MapKept.run_checkKey hu hik, MapKept.run_findKey hu hf, Result.andThen]
              · have q2 := MapKept.run_getObj_map (P := P) q1
                simp [Instr.lookup, h1, q2, MapKept.run_checkKey hu hik, MapKept.run_findKey hu hf, Result.andThen], hx⟩
          · obtain ⟨z, hzr, hzv⟩ := hz x hzx
            cases ok with
            | true => exact ⟨.tuple #[z, .bool false], by
              rcases hes with ⟨rfl, rfl⟩ | ⟨r, clock, rfl, q1⟩
              · simp_all [Instr.lookup, MapKept.run_checkKey hu hik, MapKept.run_findKey hu hf, Result.andThen]
              · have q2 := MapKept.run_getObj_map (P := P) q1
                simp [Instr.lookup, h1, q2, MapKept.run_checkKey hu hik, MapKept.run_findKey hu hf, hzr, Result.andThen], by simp only [cond_true, VR]; exact ⟨[z, .bool false], VRs_cons hzv (VRs_cons (by simp only [VR]) VRs_nil), rfl⟩⟩
            | false => exact ⟨z, by
              rcases hes with ⟨rfl, rfl⟩ | ⟨r, clock, rfl, q1⟩
              · simp_all [Instr.lookup, MapKept.run_checkKey hu hik, MapKept.run_findKey hu hf, Result.andThen]
              · have q2 := MapKept.run_getObj_map (P := P) q1
                simp [Instr.lookup, h1, q2, MapKept.run_checkKey hu hik, MapKept.run_findKey hu hf, hzr, Result.andThen], hzv⟩
        split at h
        · simp only [VR] at hm; subst hm
          exact fin #[] [] rfl h (.inl ⟨rfl, rfl⟩)
        · rename_i b _
          split at h
          · rename_i ob e4
            simp only [VR] at hm
            obtain ⟨l, hb, rfl⟩ := hm
            obtain ⟨ho, hmk⟩ := Heap.entries_eq e4
            obtain ⟨es, clock, q1, q2⟩ := (hw.obj b l ob hb ho).map hmk
            exact fin es ob.cs q2 h (.inr ⟨_, clock, rfl, q1⟩)
          · cases h
        · cases h
      · cases h
    · cases h
  · cases h
omit hC
theorem MR.len : ∀ {cs : List AV} {es : List MapEntry}, MR ι cs es → cs.length / 2 = es.length
  | [], es, m => by simp only [MR] at m; subst m; rfl
  | [_], es, m => m.elim
  | x :: v :: r, es, m => by obtain ⟨e, es', rfl, _, _, h⟩ := m; have := MR.len h; simp only [List.length_cons]; omega
include hC
theorem lenMap_sound (hw : WR ι H w) {t : TypeId} {i : TI} (ht : C.ty t = some i) {x : AV} {x' : Value} (hx : VR ι x x') {v : AV} (h : lenMapA H i.desc x = some v) (tys : Array TypeId) (h0 : tys[0]? = some t) (ty : TypeId) (args : Array Value) (ha : args[0]? = some x') :
    ∃ v', (Builtin.len_ tys ty args).run P w = .ok v' w ∧ VR ι v v' := by
  have h1 := run_underlying hC (w := w) ht
  unfold lenMapA at h
  split at h
  · rename_i k e b hd
    split at h
    · rename_i ob e4
      cases h
      rw [hd] at h1
      simp only [VR] at hx
      obtain ⟨l, hb, rfl⟩ := hx
      obtain ⟨ho, hmk⟩ := Heap.entries_eq e4
      obtain ⟨es, clock, q1, q2⟩ := (hw.obj b l ob hb ho).map hmk
      have q3 := MapKept.run_getObj_map (P := P) q1
      have := q2.len
      simp only [VR]
      exact ⟨.int .i64 es.size, by simp [Builtin.len_, h0, ha, h1, q3, goInt], by rw [this]; simp⟩
    · cases h
  · cases h
omit hC
theorem bytes_sound : ∀ {cs : List AV} {vs : List Value} {s : List UInt8}, bytesA cs = some s → VRs ι cs vs → ∃ ns : List Int, vs = ns.map (fun n => Value.int .u8 n) ∧ s = ns.map fun n => UInt8.ofNat n.toNat
  | [], vs, s, h, r => by simp only [bytesA] at h; cases h; simp only [VRs] at r; subst r; exact ⟨[], rfl, rfl⟩
  | x :: cs, vs, s, h, r => by
    unfold bytesA at h
    split at h
    · rename_i e; cases e
    · rename_i n r' e
      cases e
      split at h
      · rename_i s' e2
        cases h
        simp only [VRs, VR] at r
        obtain ⟨y, ys, rfl, hys, rfl⟩ := r
        obtain ⟨ns, rfl, rfl⟩ := bytes_sound e2 hys
        exact ⟨n :: ns, rfl, rfl⟩
      · cases h
    · cases h
theorem num_min {k : IntKind} {e : Exp} : VR ι (numA k e) (.int k e.eval) := by
  unfold numA
  split
  · simp only [VR, Exp.eval]
  · simp only [VR]
theorem minMax_sound (hC : C.Ok P) {mn : Bool} {x y : AV} {x' y' : Value} (hx : VR ι x x') (hy : VR ι y y') {v : AV} (h : minMaxA C mn x y = some v) (tys : Array TypeId) (ty : TypeId) :
    ∃ v', (cond mn (Builtin.min_ tys ty #[x', y']) (Builtin.max_ tys ty #[x', y'])).run P w = .ok v' w ∧ VR ι v v' := by
  unfold minMaxA at h
  split at h
  · rename_i k a k' b
    cases h
    simp only [VR] at hx hy; subst hx; subst hy
    cases mn
    · exact ⟨.int k (if b > a then b else a), by simp [Builtin.max_, Builtin.max2], by simp only [cond_false, VR]⟩
    · exact ⟨.int k (if b < a then b else a), by simp [Builtin.min_, Builtin.min2], by simp only [cond_true, VR]⟩
  · split at h
    · rename_i k a k' b e1 e2
      have hx' := num_sound hx e1
      have hy' := num_sound hy e2
      subst hx'; subst hy'
      cases mn
      · simp only [cond_false] at h ⊢
        split at h
        · rename_i e; cases h
          have := hC.orc _ _ _ _ e
          simp only [cmpVal, decide_eq_true_eq] at this
          refine ⟨.int k b.eval, by simp [Builtin.max_, Builtin.max2]; omega, num_min⟩
        · rename_i e; cases h
          have := hC.orc _ _ _ _ e
          simp only [cmpVal, decide_eq_false_iff_not] at this
          refine ⟨.int k a.eval, by simp [Builtin.max_, Builtin.max2]; omega, num_min⟩
        · cases h
      · simp only [cond_true] at h ⊢
        split at h
        · rename_i e; cases h
          have := hC.orc _ _ _ _ e
          simp only [cmpVal, decide_eq_true_eq] at this
          refine ⟨.int k b.eval, by simp [Builtin.min_, Builtin.min2]; omega, num_min⟩
        · rename_i e; cases h
          have := hC.orc _ _ _ _ e
          simp only [cmpVal, decide_eq_false_iff_not] at this
          refine ⟨.int k a.eval, by simp [Builtin.min_, Builtin.min2]; omega, num_min⟩
        · cases h
    · cases h
omit [Env] in
theorem push_from (ns : List Int) : ∀ s : List UInt8, ns.foldl (fun r n => r.push (UInt8.ofNat n.toNat)) (⟨⟨s⟩⟩ : ByteArray) = ⟨⟨s ++ ns.map fun n => UInt8.ofNat n.toNat⟩⟩ := by
  induction ns with
  | nil => intro s; simp
  | cons n ns ih =>
    intro s
    have : (⟨⟨s⟩⟩ : ByteArray).push (UInt8.ofNat n.toNat) = ⟨⟨s ++ [UInt8.ofNat n.toNat]⟩⟩ := by
      apply ByteArray.ext; simp [ByteArray.push]
    rw [List.foldl_cons, this, ih]; simp
omit [Env] in
theorem push_all (ns : List Int) : ns.foldl (fun r n => r.push (UInt8.ofNat n.toNat)) ByteArray.empty = ⟨⟨ns.map fun n => UInt8.ofNat n.toNat⟩⟩ := push_from ns []
theorem toString_sound (hC : C.Ok P) (hw : WR ι H w) {src dst : TypeId} {x : AV} {x' : Value} (hx : VR ι x x') {v : AV} (h : toStringA C H src dst x = some v) : ∃ v', (convert src dst x').run P w = .ok v' w ∧ VR ι v v' := by
  unfold toStringA at h
  split at h
  · rename_i i j e1 e2
    have h1 := run_underlying hC (w := w) e1
    have h2 := run_underlying hC (w := w) e2
    split at h
    · rename_i e hi hj
      rw [hi] at h1; rw [hj] at h2
      split at h
      · rename_i ei e3
        have h3 := run_underlying hC (w := w) e3
        split at h
        · rename_i hd
          cases h
          rw [hd] at h3
          simp only [VR] at hx; subst hx
          exact ⟨.string .empty, by simp [convert, h1, h2, h3, Conv.bytesToString], by simp only [VR]; rfl⟩
        · rename_i b o n hd
          rw [hd] at h3
          split at h
          · rename_i ob e4
            cases hle : Nat.ble (o + n) ob.cs.length with
            | false => rw [hle] at h; cases h
            | true =>
              rw [hle] at h
              simp only [cond_true] at h
              split at h
              · rename_i s e5
                cases h
                simp only [VR] at hx
                obtain ⟨l, cap, hb, hcap, hroom, rfl⟩ := hx
                obtain ⟨vs, k1, k2, k3⟩ := cells_at hw hb e4 o n (Nat.le_of_ble_eq_true hle)
                obtain ⟨ns, rfl, rfl⟩ := bytes_sound e5 k2
                have hlen : ns.length = n := by simpa using k1
                have hl := run_loadCells_list (P := P) w ⟨l.blk, l.shift + o, none⟩ (ns.map fun n => Value.int .u8 n) (fun j v hv => by rw [add_addr]; exact k3 j v hv)
                rw [k1] at hl
                have := run_bytesToString (P := P) w ⟨l.blk, l.shift + o, none⟩ n cap ns hl
                refine ⟨_, by simp only [convert, Sem.run_bind, h1, h2, Result.andThen_ok, h3]; exact this, ?_⟩
                simp only [VR]
                rw [push_all]
              · cases h
          · cases h
        · cases h
      · cases h
    · cases h
  · cases h
end
end
end Go.Ev
namespace Go.Ev
noncomputable section
open Go Go.RowKit
section
variable {P : Program} {w : World}
theorem cond_some {c : Bool} {α : Type} {x : Option α} {z : α} (h : cond c x none = some z) : c = true ∧ x = some z := by
  cases c with
  | true => exact ⟨rfl, h⟩
  | false => cases h
theorem wrap_small {m : Int} (h0 : 0 < m) (h1 : m ≤ 1000000) : IntKind.i64.wrap m = m := IntWalk.i64_in m ⟨by omega, by omega⟩
theorem run_zeros_nil (t xt ty e : TypeId) (k q : IntKind) (i : TypeInfo) (z : Value) (ht : P.underlying t = some (.slice e)) (hxt : P.underlying xt = some (.int q)) (hi : P.info? e = some i) (hz : i.zero = some z)
    {m : Int} {n : Nat} (h0 : 0 < m) (h1 : m ≤ 1000000) (hn : m = n) (hsz : n * i.size ≠ 0) (h48 : n * i.bytes ≤ 281474976710656) :
    (Builtin.append_ #[t, xt] ty #[.slice none 0 0, .int k m]).run P w =
      .ok (.slice (some ⟨w.heap.size, 0, none⟩) n (grownCap w n 0 e)) (w.drew.alloc (.cells (Builtin.zeroCells z.cells n ++ Builtin.zeroCells z.cells (grownCap w n 0 e - n)) e)) := by
  have hw := wrap_small h0 h1
  subst hn
  have hn0 : n ≠ 0 := by omega
  have a1 : ¬ ((n : Int) < 0) := by omega
  have a2 : ¬ (281474976710656 < (n : Int) * (i.bytes : Int)) := by
    have : (n : Int) * (i.bytes : Int) = ((n * i.bytes : Nat) : Int) := by simp
    rw [this]; omega
  have h63' : ¬ (9223372036854775807 < (n : Int)) := by omega
  have h48' : ¬ (281474976710656 < Builtin.nextslicecap n 0 * i.bytes) := by rw [nextslicecap_zero (by omega)]; omega
  have hz0 : ¬ (n = 0 ∨ i.size = 0) := by simpa [Nat.mul_eq_zero] using hsz
  simp [Builtin.append_, Go.run_underlying ht, Go.run_underlying hxt, sizeOf, typeInfo, zeroValue, hi, hz, asInt, asIntOf, hw, a1, a2, hn0, h63', h48', Question.forced, run_firstCells_none, newRow, grownCap, Int.toNat_natCast]
  exact fun h => (hsz h).elim
theorem run_zeros_in (t xt ty e : TypeId) (k q : IntKind) (i : TypeInfo) (z : Value) (ht : P.underlying t = some (.slice e)) (hxt : P.underlying xt = some (.int q)) (hi : P.info? e = some i) (hz : i.zero = some z)
    {m : Int} {n : Nat} (h0 : 0 < m) (h1 : m ≤ 1000000) (hn : m = n) (hsz : n * i.size ≠ 0) (h48 : n * i.bytes ≤ 281474976710656) (g o sLen sCap : Nat) (hroom : sLen + n ≤ sCap)
    (hone : ∀ u ∈ (Builtin.zeroCells z.cells n).toList, u.oneCell' = true)
    (hc : ∀ j, j < (Builtin.zeroCells z.cells n).toList.length → (w.cell? ⟨g, o + sLen * i.size + j, none⟩).isSome = true) (hf : ∀ j, j < (Builtin.zeroCells z.cells n).toList.length → w.frozen? ⟨g, o + sLen * i.size + j, none⟩ = false) :
    (Builtin.append_ #[t, xt] ty #[.slice (some ⟨g, o, none⟩) sLen sCap, .int k m]).run P w =
      .ok (.slice (some ⟨g, o, none⟩) (sLen + n) sCap) (w.setCells g (o + sLen * i.size) (Builtin.zeroCells z.cells n).toList) := by
  have hw := wrap_small h0 h1
  subst hn
  have hst := run_storeCells_cells (P := P) g (o + sLen * i.size) (Builtin.zeroCells z.cells n).toList 0 w (by simpa using hc) (by simpa using hf) hone
  simp only [Nat.add_zero] at hst
  have a1 : ¬ ((n : Int) < 0) := by omega
  have a2 : ¬ (281474976710656 < (n : Int) * (i.bytes : Int)) := by
    have : (n : Int) * (i.bytes : Int) = ((n * i.bytes : Nat) : Int) := by simp
    rw [this]; omega
  simp [Builtin.append_, Go.run_underlying ht, Go.run_underlying hxt, sizeOf, typeInfo, zeroValue, hi, hz, asInt, asIntOf, hw, a1, a2, hroom, add_addr, Int.toNat_natCast]
  rw [if_neg (by simpa using hsz)]
  simp [hst]
theorem run_zeros_grow (t xt ty e : TypeId) (k q : IntKind) (i : TypeInfo) (z : Value) (ht : P.underlying t = some (.slice e)) (hxt : P.underlying xt = some (.int q)) (hi : P.info? e = some i) (hz : i.zero = some z)
    {m : Int} {n : Nat} (h0 : 0 < m) (h1 : m ≤ 1000000) (hn : m = n) (hsz : n * i.size ≠ 0) (h48 : n * i.bytes ≤ 281474976710656)
    (b : Addr) (sLen sCap : Nat) (olds : List Value) (hlo : olds.length = sLen * i.size) (holds : ∀ j v, olds[j]? = some v → w.cell? (b.add j) = some v)
    (hg : sCap < sLen + n) (h63 : ((sLen + n : Nat) : Int) ≤ 9223372036854775807) (hfit : Builtin.nextslicecap (sLen + n) sCap * i.bytes ≤ 281474976710656) :
    (Builtin.append_ #[t, xt] ty #[.slice (some b) sLen sCap, .int k m]).run P w =
      .ok (.slice (some ⟨w.heap.size, 0, none⟩) (sLen + n) (grownCap w (sLen + n) sCap e))
        (w.drew.alloc (.cells (olds.toArray ++ Builtin.zeroCells z.cells n ++ Builtin.zeroCells z.cells (grownCap w (sLen + n) sCap e - (sLen + n))) e)) := by
  have hw := wrap_small h0 h1
  subst hn
  have hn : ¬ (sLen + n ≤ sCap) := by omega
  have a1 : ¬ ((n : Int) < 0) := by omega
  have a2 : ¬ (281474976710656 < (n : Int) * (i.bytes : Int)) := by
    have : (n : Int) * (i.bytes : Int) = ((n * i.bytes : Nat) : Int) := by simp
    rw [this]; omega
  have h63' : ¬ (9223372036854775807 < ((sLen : Int) + (n : Int))) := by omega
  have h48' : ¬ (281474976710656 < Builtin.nextslicecap (sLen + n) sCap * i.bytes) := by omega
  have hfo := run_firstCells_some (P := P) w.drew i.size sLen b sLen sCap olds hlo (by simpa using holds)
  simp [Builtin.append_, Go.run_underlying ht, Go.run_underlying hxt, sizeOf, typeInfo, zeroValue, hi, hz, asInt, asIntOf, hw, a1, a2, hn, h63', h48', Question.forced, hfo, newRow, grownCap, Int.toNat_natCast]
  exact fun h => (hsz h).elim
end
section
variable [Env] {C : Ctx} {P : Program} (hC : C.Ok P) {ι : Map} {H : Heap} {w : World}
include hC
theorem appendZ_sound (hw : WR ι H w) {id : Nat} (hid : ι id = none) (hn : id < H.next) {t xt : TypeId} {s x : AV} {s' x' : Value} (hs : VR ι s s') (hx : VR ι x x') {v : AV} {H' : Heap}
    (h : appendZA C H id t xt s x = some (v, H')) (ty : TypeId) :
    ∃ v' ι' w', (Builtin.append_ #[t, xt] ty #[s', x']).run P w = .ok v' w' ∧ VR ι' v v' ∧ Step (· = id) ι H w ι' H' w' := by
  unfold appendZA at h
  split at h
  · rename_i i e2
    split at h
    · rename_i e hd
      obtain ⟨hu, _⟩ := hC.ty t i e2
      rw [hd] at hu
      split at h
      · rename_i j e4
        obtain ⟨_, jj, hi, hjs, hjb, hjz⟩ := hC.ty e j e4
        split at h
        · -- no elements
          rename_i bx ox
          replace h := cond_some h
          obtain ⟨e1, h⟩ := h
          simp only [Tr.nbeq, decide_eq_true_eq] at e1
          subst e1
          simp only [VR] at hx; obtain ⟨lx, cx, _, _, _, rfl⟩ := hx
          split at h
          · cases h; have hs0 := hs; simp only [VR] at hs; subst hs
            exact ⟨_, ι, w, run_append_zero hu hi none _ 0 0 cx (Nat.le_refl _), hs0, Step.refl hw⟩
          · cases h; have hs0 := hs; simp only [VR] at hs; obtain ⟨l, cap, hb, hcap, hroom, rfl⟩ := hs
            exact ⟨_, ι, w, run_append_zero hu hi _ _ _ cap cx hcap, hs0, Step.refl hw⟩
          · cases h
        · rename_i k m
          split at h
          · rename_i q e5
            split at h
            · rename_i kq z0 hq ez
              replace h := cond_some h
              obtain ⟨e6, h⟩ := h
              simp only [Bool.and_eq_true, decide_eq_true_eq, Tr.nbeq, Bool.not_eq_true', decide_eq_false_iff_not] at e6
              obtain ⟨⟨⟨⟨m0, m1⟩, hzl⟩, s0⟩, hflat⟩ := e6
              simp only [VR] at hx; subst hx
              obtain ⟨hxu, _⟩ := hC.ty xt q e5
              rw [hq] at hxu
              obtain ⟨z, hz, hzv⟩ := hjz z0 ez
              have hzs : z.cells.size = j.size := by have := (hzv ι).len; simp at this; omega
              obtain ⟨n, hn2⟩ : ∃ n : Nat, m = n := ⟨m.toNat, by omega⟩
              have hmn : m.toNat = n := by omega
              rw [hmn] at h hflat
              have k2 : VRs ι (repeatCells z0 n) (Builtin.zeroCells z.cells n).toList := repeat_sound (hzv ι) n (by omega)
              have hrest : ∀ c, (Builtin.zeroCells z.cells c).size = c * j.size := fun c => by rw [size_zeroCells, hzs]
              have hnl : (repeatCells z0 n).length = n * j.size := by rw [repeat_len, hzl]
              have hne : n * jj.size ≠ 0 := by rw [hjs]; exact Nat.mul_ne_zero (by omega) s0
              split at h
              · replace h := cond_some h
                obtain ⟨e9, h⟩ := h
                simp only [Nat.ble_eq] at e9
                split at h
                · rename_i H1 e10
                  cases h
                  simp only [VR] at hs; subst hs
                  have hr := run_zeros_nil (P := P) (w := w) t xt ty e k kq jj z hu hxu hi hz m0 m1 hn2 hne (by rw [hjb]; omega)
                  have hge := grown_ge w n 0 e
                  have hm : n * j.size + (grownCap w n 0 e - n) * j.size = grownCap w n 0 e * j.size := by rw [← Nat.add_mul]; congr 1; omega
                  have hst := step_new hw hid hn rfl e10 (Builtin.zeroCells z.cells n ++ Builtin.zeroCells z.cells (grownCap w n 0 e - n)) e (by simp [hnl, hrest]) (fun i x hx' => by
                    obtain ⟨u, hu', r⟩ := k2.get hx'
                    refine ⟨u, ?_, r⟩
                    have hlt := (List.getElem?_eq_some_iff.1 hu').1
                    rw [Array.getElem?_append_left (by simpa using hlt)]; simpa using hu') w.drew rfl rfl rfl rfl
                  refine ⟨_, _, _, hr, ?_, hst⟩
                  exact VR_sl ⟨w.heap.size, 0, (Builtin.zeroCells z.cells n ++ Builtin.zeroCells z.cells (grownCap w n 0 e - n)).size, j.size⟩ (by simp) rfl rfl hge (by simp [hrest]; omega)
                · cases h
              · rename_i b o len
                split at h
                · rename_i ob e9
                  replace h := cond_some h
                  obtain ⟨e10, h⟩ := h
                  simp only [Bool.and_eq_true, Tr.nbeq, decide_eq_true_eq, Nat.ble_eq, Bool.not_eq_true'] at e10
                  obtain ⟨⟨⟨⟨ho1, ho2⟩, ho3⟩, ho4⟩, ho5⟩ := e10
                  split at h
                  · rename_i H1 e11
                    cases h
                    simp only [VR] at hs
                    obtain ⟨l, cap, hb, hcap, hroom, rfl⟩ := hs
                    obtain ⟨c, et, lo, hi0, h1, h2, h3, h4, h5, h6⟩ := hw.cells hb e9
                    have hes : l.es = j.size := by omega
                    have hone := flatAll_sound k2 hflat
                    have hsmall : n * j.bytes ≤ 140737488355328 := Nat.le_trans (Nat.mul_le_mul_right _ (by omega)) ho4
                    by_cases hfit : len + n ≤ cap
                    · have hm : len * j.size + n * j.size ≤ cap * j.size := by rw [← Nat.add_mul]; exact Nat.mul_le_mul_right _ hfit
                      rw [hes] at hroom
                      have hzlen : (Builtin.zeroCells z.cells n).toList.length = n * j.size := by simp [hrest]
                      have hr := run_zeros_in (P := P) (w := w) t xt ty e k kq jj z hu hxu hi hz m0 m1 hn2 hne (by rw [hjb]; omega) l.blk (l.shift + o) len cap hfit hone
                        (fun j' hj' => by rw [hjs]; simp only [World.cell?, h1]; simp; omega)
                        (fun j' hj' => by
                          rw [hjs]
                          have := h3 (l.shift + o + len * j.size + j') (by omega)
                          simp only [World.frozen?, h1]
                          by_cases q : lo ≤ l.shift + o + len * j.size + j' <;> simp <;> omega)
                      have hst := (step_tail (H' := (H.put b { ob with kind := .old }).put id { cs := ob.cs.drop o ++ repeatCells z0 n, es := ob.es, kind := .tip (ob.cs.drop o).length }) hw hid hn hb e9 ho1 o (by omega) _ _ k2 (by rw [hnl]; omega) (add_write e11).1).cast (HEq2.refl _) (add_write e11).2
                      have hpl : l.shift + o + len * jj.size = l.shift + ob.cs.length := by rw [hjs]; omega
                      rw [hpl] at hr
                      refine ⟨_, _, _, hr, ?_, hst⟩
                      exact VR_sl ⟨l.blk, l.shift + o, l.room, l.es⟩ (by simp) rfl (by simp) hfit (by simp only [hes]; omega)
                    · obtain ⟨olds, q1, q2, q3⟩ := cells_at hw hb e9 o (len * j.size) (by omega)
                      have holds : ∀ j' u, olds[j']? = some u → w.cell? ((⟨l.blk, l.shift + o, none⟩ : Addr).add j') = some u := fun j' u hu' => by rw [add_addr]; exact q3 j' u hu'
                      have hr := run_zeros_grow (P := P) (w := w) t xt ty e k kq jj z hu hxu hi hz m0 m1 hn2 hne (by rw [hjb]; omega) ⟨l.blk, l.shift + o, none⟩ len cap olds (by rw [q1, hjs]) holds (by omega) (by omega)
                        (by rw [hjb]; exact growslice_fits (by omega) ho4)
                      have hge := grown_ge w (len + n) cap e
                      have hm : (len + n) * j.size + (grownCap w (len + n) cap e - (len + n)) * j.size = grownCap w (len + n) cap e * j.size := by rw [← Nat.add_mul]; congr 1; omega
                      have hm2 : (len + n) * j.size = len * j.size + n * j.size := Nat.add_mul _ _ _
                      have hold := step_old (ids := (· = id)) hw e9
                      have htake : (ob.cs.drop o).take (len * j.size) = ob.cs.drop o := by
                        apply List.take_of_length_le; simp; omega
                      rw [htake] at q2
                      have hst := step_new (hold.wr.cast (HEq2.write _ _ _)) hid (by exact hn) rfl e11 (olds.toArray ++ Builtin.zeroCells z.cells n ++ Builtin.zeroCells z.cells (grownCap w (len + n) cap e - (len + n))) e
                        (by simp [hnl, q1, hrest]; omega) (fun i x hx' => by
                          obtain ⟨u, hu', r⟩ := (q2.append k2).get hx'
                          refine ⟨u, ?_, r⟩
                          have hlt := (List.getElem?_eq_some_iff.1 hu').1
                          rw [Array.getElem?_append_left (by simpa using hlt)]
                          rw [← Array.getElem?_toList]
                          simpa using hu') w.drew rfl rfl rfl rfl
                      refine ⟨_, _, _, hr, ?_, (hold.cast (HEq2.refl _) (HEq2.write _ _ _)).trans (fun _ h => h) (fun _ h => h) hst⟩
                      refine VR_sl ⟨w.heap.size, 0, (olds.toArray ++ Builtin.zeroCells z.cells n ++ Builtin.zeroCells z.cells (grownCap w (len + n) cap e - (len + n))).size, ob.es⟩ (by simp) rfl rfl hge ?_
                      simp only [Array.size_append, hrest, ho3]
                      simp [q1]; omega
                  · cases h
                · cases h
              · cases h
            · cases h
          · cases h
        · cases h
      · cases h
    · cases h
  · cases h
theorem appendH_sound (hw : WR ι H w) {id : Nat} (hid : ι id = none) (hn : id < H.next) {t xt : TypeId} {s x : AV} {s' x' : Value} (hs : VR ι s s') (hx : VR ι x x') {v : AV} {H' : Heap}
    (h : appendHA C H id t xt s x = some (v, H')) (ty : TypeId) :
    ∃ v' ι' w', (Builtin.append_ #[t, xt] ty #[s', x']).run P w = .ok v' w' ∧ VR ι' v v' ∧ Step (· = id) ι H w ι' H' w' := by
  unfold appendHA at h
  split at h
  · rename_i e; cases h; exact append_sound hC hw hid hn hs hx e ty
  · exact appendZ_sound hC hw hid hn hs hx h ty
end
end
end Go.Ev
namespace Go.Ev
noncomputable section
open Go Go.RowKit
variable [Env]

/-- how a call ends that hands back this -/
def EndsAs (ι : Map) (v : AV) (e : Ending) : Prop :=
  match v with
  | .pan x => ∃ x', e = .panicked [{ v := x', recovered := false }] ∧ VR ι x x'
  | v => ∃ v', e = .returned v' ∧ VR ι v v'
theorem EndsAs.of {ι : Map} {v : AV} {v' : Value} (h : VR ι v v') : EndsAs ι v (.returned v') := by
  cases v <;> first | exact ⟨v', rfl, h⟩ | (simp only [VR] at h)
/-- what a call of the abstract machine says of the program -/
def CallSound (P : Program) (call : CallA) : Prop := ∀ H f args v H', call H f args = some (v, H') →
  (∃ fn, P.funcs[f]? = some fn ∧ fn.body.isSome = true ∧ fn.name ≠ "runtime.NumGoroutine") ∧
  ∀ (ι : Map) (w : World) (args' : List Value), WR ι H w → VRs ι args args' →
    Calls P f args'.toArray w fun e w' => ∃ ι', EndsAs ι' v e ∧ Step (fun _ => False) ι H w ι' H' w'

section
variable {C : Ctx} {P : Program} (hC : C.Ok P) {ι : Map} {H : Heap} {w : World}

omit [Env] in
theorem same_eq {H H' : Heap} {r : Option AV} {v : AV} (h : same H r = some (v, H')) : r = some v ∧ H' = H := by
  cases r with
  | none => cases h
  | some u => simp only [same] at h; cases h; exact ⟨rfl, rfl⟩

theorem evOpt_sound {T : Tr AV} {a : Act} (hT : TR ι T a.tmps) {x : Option Operand} {v : Option AV} (h : evOpt T x = some v) : BR ι v (x.map a.eval) := by
  cases x with
  | none => simp only [evOpt] at h; cases h; simp [BR]
  | some y =>
    simp only [evOpt] at h
    split at h
    · rename_i u e; cases h; exact ev_sound hT e
    · cases h

omit [Env] in
theorem calls_enter {f : FuncId} {fn : Func} (hf : P.funcs[f]? = some fn) (hb : fn.body.isSome = true) (hn : fn.name ≠ "runtime.NumGoroutine") (args : Array Value) :
    (callFunc f args).run P w = .ok (.enter f args) w := by
  have hb' : fn.body ≠ none := by intro h; rw [h] at hb; cases hb
  simp [callFunc, hf, hn, hb']

theorem evs_sound' {T : Tr AV} {a : Act} : ∀ {xs : List Operand} {vs : List AV}, (∀ x, x ∈ xs → ∀ v, ev T x = some v → VR ι v (a.eval x)) → evs T xs = some vs → VRs ι vs (xs.map a.eval)
  | [], vs, _, h => by cases h; exact VRs_nil
  | x :: xs, vs, hx, h => by
    simp only [evs] at h
    split at h
    · rename_i v ws e1 e2
      cases h; exact VRs_cons (hx x (by simp) v e1) (evs_sound' (fun y hy => hx y (by simp [hy])) e2)
    · cases h
theorem evParts_sound' {T : Tr AV} {a : Act} : ∀ {xs : List (Nat × Operand)} {ps : List (Nat × AV)}, (∀ x, x ∈ xs.map (·.2) → ∀ v, ev T x = some v → VR ι v (a.eval x)) → evParts T xs = some ps → PR ι ps (xs.map fun (i, x) => (i, a.eval x))
  | [], ps, _, h => by cases h; exact PR.nil
  | (i, x) :: xs, ps, hx, h => by
    simp only [evParts] at h
    split at h
    · rename_i v ws e1 e2
      cases h
      obtain ⟨h1, h2⟩ := evParts_sound' (fun y hy => hx y (by simp at hy ⊢; exact .inr hy)) e2
      exact ⟨by simpa using h1, by simpa using VRs_cons (hx x (by simp) v e1) h2⟩
    · cases h
theorem evOpt_sound' {T : Tr AV} {a : Act} {x : Option Operand} {v : Option AV} (hx : ∀ y, x = some y → ∀ v, ev T y = some v → VR ι v (a.eval y)) (h : evOpt T x = some v) : BR ι v (x.map a.eval) := by
  cases x with
  | none => simp only [evOpt] at h; cases h; simp [BR]
  | some y =>
    simp only [evOpt] at h
    split at h
    · rename_i u e; cases h; exact hx y rfl u e
    · cases h
include hC
theorem evOp_sound' {call : CallA} (hcall : CallSound P call) {T : Tr AV} {a : Act} (hw : WR ι H w) {o : Oper} (hev : ∀ x, x ∈ o.op.operands → ∀ v, ev T x = some v → VR ι v (a.eval x)) {id : Nat} (hid : ι id = none) (hn : id < H.next) {v : AV} {H' : Heap}
    (h : evOp C call H id T o = some (v, H')) {next : Act → World → Prop} {Q : Exit → Act → World → Prop}
    (hk : ∀ ι' v' w', Step (· = id) ι H w ι' H' w' → VR ι' v v' → next (a.put o.dst v') w')
    (hp : ∀ x, v = .pan x → clsOf o = 3 → ∀ ι' x' w', Step (· = id) ι H w ι' H' w' → VR ι' x x' → Q (.panic [{ v := x', recovered := false }]) a w') : o.wp P a w next Q := by
  have pureCase : ∀ {v' : Value}, (execOp a.eval o).run P w = .ok (.value v') w → VR ι v v' → H' = H → o.wp P a w next Q := by
    intro v' h1 h2 h3
    subst h3
    unfold Oper.wp; rw [h1]
    exact hk ι v' w (Step.refl hw) h2
  have newCase : (∃ v' ι' w', (execOp a.eval o).run P w = .ok (.value v') w' ∧ VR ι' v v' ∧ Step (· = id) ι H w ι' H' w') → o.wp P a w next Q := by
    rintro ⟨v', ι', w', h1, h2, h3⟩
    unfold Oper.wp; rw [h1]
    exact hk ι' v' w' h3 h2
  unfold evOp at h
  split at h
  · -- move
    rename_i x ho
    obtain ⟨e, rfl⟩ := same_eq h
    exact pureCase (by simp [execOp, ho]) (hev x (by simp [ho, Op.operands]) _ e) rfl
  · -- assign
    rename_i x ho
    obtain ⟨e, rfl⟩ := same_eq h
    exact pureCase (by simp [execOp, ho]) (hev x (by simp [ho, Op.operands]) _ e) rfl
  · -- pick
    rename_i c x y ho
    split at h
    · rename_i t e1
      have hb := hev _ (by simp [ho, Op.operands]) _ e1
      simp only [VR] at hb
      split at h
      · obtain ⟨e, rfl⟩ := same_eq h
        exact pureCase (by simp [execOp, ho, hb, asBool]) (hev _ (by simp [ho, Op.operands]) _ e) rfl
      · obtain ⟨e, rfl⟩ := same_eq h
        exact pureCase (by simp [execOp, ho, hb, asBool]) (hev _ (by simp [ho, Op.operands]) _ e) rfl
    · cases h
  · -- alloc
    rename_i t ho
    obtain ⟨v', ι', w', h1, h2, h3⟩ := alloc_sound hC hw hid hn h
    exact newCase ⟨v', ι', w', by simp [execOp, ho, h1], h2, h3⟩
  · -- box
    rename_i t x ho
    split at h
    · rename_i u e1
      obtain ⟨v', ι', w', h1, h2, h3⟩ := box_sound (P := P) (t := t) hw hid hn (hev _ (by simp [ho, Op.operands]) _ e1) h
      exact newCase ⟨v', ι', w', by simp [execOp, ho, h1], h2, h3⟩
    · cases h
  · -- build
    rename_i t parts ho
    split at h
    · rename_i ps e1
      obtain ⟨e, rfl⟩ := same_eq h
      have hp := evParts_sound' (fun x hx => hev x (by simpa [ho, Op.operands] using hx)) e1
      obtain ⟨v', h1, h2⟩ := build_sound hC (w := w) (qs := parts.map fun (i, x) => (i, a.eval x)) (by simpa using hp) e
      exact pureCase (by simp [execOp, ho, h1]) h2 rfl
    · cases h
  · -- buildSlice
    rename_i t len parts ho
    split at h
    · rename_i ps e1
      have hp := evParts_sound' (fun x hx => hev x (by simpa [ho, Op.operands] using hx)) e1
      obtain ⟨v', ι', w', h1, h2, h3⟩ := buildSlice_sound hC hw hid hn (qs := parts.map fun (i, x) => (i, a.eval x)) (by simpa using hp) h
      exact newCase ⟨v', ι', w', by simp [execOp, ho, h1], h2, h3⟩
    · cases h
  · -- load
    rename_i t x ho
    split at h
    · rename_i u e1
      obtain ⟨e, rfl⟩ := same_eq h
      obtain ⟨v', h1, h2⟩ := load_sound hC hw (hev _ (by simp [ho, Op.operands]) _ e1) e
      exact pureCase (by simp [execOp, ho, h1]) h2 rfl
    · cases h
  · -- store
    rename_i t x y ho
    split at h
    · rename_i u1 u2 e1 e2
      split at h
      · rename_i H1 e3
        cases h
        obtain ⟨w', h1, h2⟩ := store_sound hC hw (hev _ (by simp [ho, Op.operands]) _ e1) (hev _ (by simp [ho, Op.operands]) _ e2) e3 (· = id)
        unfold Oper.wp
        rw [show (execOp a.eval o).run P w = .ok .skip w' by simp [execOp, ho, h1]]
        exact hk ι undef w' h2 (by simp only [VR, undefA, undef]; exact ⟨[], VRs_nil, rfl⟩)
      · cases h
    · cases h
  · -- nilCheck
    rename_i x ho
    split at h
    · rename_i b off e1
      cases h
      have := hev _ (by simp [ho, Op.operands]) _ e1
      obtain ⟨ad, e2⟩ := this.ptr_inv
      exact pureCase (v' := a.eval x) (by simp [execOp, ho, e2]) this rfl
    · rename_i f x1 x2 e1
      cases h
      have := hev _ (by simp [ho, Op.operands]) _ e1
      have h2 := this
      simp only [VR] at h2
      obtain ⟨p, q, _, _, e2⟩ := h2
      exact pureCase (v' := a.eval x) (by simp [execOp, ho, e2]) this rfl
    · cases h
  · -- binOp
    rename_i op t x y ty ho
    split at h
    · rename_i u1 u2 e1 e2
      obtain ⟨e, rfl⟩ := same_eq h
      obtain ⟨v', h1, h2⟩ := binOp_sound hC (w := w) (hev _ (by simp [ho, Op.operands]) _ e1) (hev _ (by simp [ho, Op.operands]) _ e2) e x y
      exact pureCase (v' := v') (by simp only [Sem.run_bind] at h1; simp only [execOp, ho, Sem.run_bind]; rw [h1]; simp) h2 rfl
    · cases h
  · -- unOp
    rename_i op t x ho
    split at h
    · rename_i u1 e1
      obtain ⟨e, rfl⟩ := same_eq h
      obtain ⟨v', h1, h2⟩ := unOp_sound (P := P) (w := w) (hev _ (by simp [ho, Op.operands]) _ e1) e
      exact pureCase (by simp [execOp, ho, h1]) h2 rfl
    · cases h
  · -- convert
    rename_i s d x ho
    split at h
    · rename_i u1 e1
      obtain ⟨e, rfl⟩ := same_eq h
      have hcv : ∃ v', (convert s d (a.eval x)).run P w = .ok v' w ∧ VR ι v v' := by
        unfold convertHA at e
        split at e
        · rename_i e2; cases e; exact convert_sound hC (w := w) (hev _ (by simp [ho, Op.operands]) _ e1) e2
        · exact toString_sound hC hw (hev _ (by simp [ho, Op.operands]) _ e1) e
      obtain ⟨v', h1, h2⟩ := hcv
      exact pureCase (by simp [execOp, ho, h1]) h2 rfl
    · cases h
  · -- field
    rename_i t x f ho
    split at h
    · rename_i u1 e1
      obtain ⟨e, rfl⟩ := same_eq h
      obtain ⟨v', h1, h2⟩ := field_sound hC (w := w) (hev _ (by simp [ho, Op.operands]) _ e1) e
      exact pureCase (by simp [execOp, ho, h1]) h2 rfl
    · cases h
  · -- fieldAddr
    rename_i t x f ho
    split at h
    · rename_i u1 e1
      obtain ⟨e, rfl⟩ := same_eq h
      obtain ⟨v', h1, h2⟩ := fieldAddr_sound hC (w := w) (hev _ (by simp [ho, Op.operands]) _ e1) e
      exact pureCase (by simp [execOp, ho, h1]) h2 rfl
    · cases h
  · -- indexAddr
    rename_i t x i ho
    split at h
    · rename_i u1 u2 e1 e2
      obtain ⟨e, rfl⟩ := same_eq h
      obtain ⟨v', h1, h2⟩ := indexAddr_sound hC (w := w) (hev _ (by simp [ho, Op.operands]) _ e1) (hev _ (by simp [ho, Op.operands]) _ e2) e
      exact pureCase (by simp [execOp, ho, h1]) h2 rfl
    · cases h
  · -- index
    rename_i t x i ho
    split at h
    · rename_i u1 u2 e1 e2
      obtain ⟨e, rfl⟩ := same_eq h
      obtain ⟨v', h1, h2⟩ := index_sound hC (w := w) (hev _ (by simp [ho, Op.operands]) _ e1) (hev _ (by simp [ho, Op.operands]) _ e2) e
      exact pureCase (by simp [execOp, ho, h1]) h2 rfl
    · cases h
  · -- slice
    rename_i t x lo hi ho
    split at h
    · rename_i u1 l1 h1' e1 e2 e3
      obtain ⟨e, rfl⟩ := same_eq h
      obtain ⟨v', h1, h2⟩ := slice_sound hC hw (hev _ (by simp [ho, Op.operands]) _ e1) (evOpt_sound' (fun y hy => hev y (by simp [ho, Op.operands, hy])) e2) (evOpt_sound' (fun y hy => hev y (by simp [ho, Op.operands, hy])) e3) e
      exact pureCase (by simp [execOp, ho, h1]) h2 rfl
    · cases h
  · -- extract
    rename_i x i ho
    split at h
    · rename_i vs e1
      obtain ⟨e, rfl⟩ := same_eq h
      have hx := hev _ (by simp [ho, Op.operands]) _ e1
      simp only [VR] at hx
      obtain ⟨vs', hv, e2⟩ := hx
      obtain ⟨v', h1, h2⟩ := hv.get e
      exact pureCase (by simp [execOp, ho, e2, Instr.extract, h1]) h2 rfl
    · cases h
  · -- makeSlice
    rename_i t x y ho
    split at h
    · rename_i u1 u2 e1 e2
      obtain ⟨v', ι', w', h1, h2, h3⟩ := makeSlice_sound hC hw hid hn (hev _ (by simp [ho, Op.operands]) _ e1) (hev _ (by simp [ho, Op.operands]) _ e2) h
      exact newCase ⟨v', ι', w', by simp [execOp, ho, h1], h2, h3⟩
    · cases h
  · -- call
    rename_i c ho
    unfold callA at h
    split at h
    · cases h
    · rename_i vs e1
      have hvs := evs_sound' (fun x hx => hev x (by simp only [ho, Op.operands, Call.operands]; exact Array.mem_append.2 (.inr (by simpa using hx)))) e1
      split at h
      · rename_i f hcal
        split at h
        · rename_i g first captured e2
          have hf := hev f (by simp [ho, Op.operands, Call.operands, hcal]) _ e2
          simp only [VR] at hf
          obtain ⟨p, q, hp1, hq, e3⟩ := hf
          obtain ⟨⟨fn, hfn, hb, hname⟩, hcs⟩ := hcall H g _ v H' h
          have hc := hcs ι w (p ++ c.args.toList.map a.eval ++ q) hw ((hp1.append hvs).append hq)
          unfold Oper.wp
          have hrun : (execOp a.eval o).run P w = .ok (.enter g (p ++ c.args.toList.map a.eval ++ q).toArray) w := by
            have harr : p.toArray ++ Array.map a.eval c.args ++ q.toArray = (p ++ c.args.toList.map a.eval ++ q).toArray := by
              apply Array.ext'; simp
            simp only [execOp, ho, resolve, hcal, e3, Deferred.ofValue, Sem.run_bind, Sem.run_pure, Result.andThen_ok, invoke, harr]
            exact calls_enter hfn hb hname _
          rw [hrun, Oper.upon_enter]
          refine hc.mono ?_
          rintro e w' ⟨ι', h2, h3⟩
          have h3' := h3.weaken (ids := (· = id)) (fun _ q => q.elim)
          have h3c : clsOf o = 3 := by
            unfold clsOf; rw [ho]
            obtain ⟨cal, ar, ty⟩ := c
            simp only at hcal; subst hcal; rfl
          cases v with
          | pan x => obtain ⟨x', rfl, hx⟩ := h2; exact hp x rfl h3c ι' x' w' h3' hx
          | _ => obtain ⟨v', rfl, hv⟩ := h2; exact hk ι' v' w' h3' hv
        · cases h
      · rename_i hcal
        split at h
        · rename_i t x vs2 e2
          split at h
          · rename_i i e3
            obtain ⟨e, rfl⟩ := same_eq h
            simp only [VRs] at hvs
            obtain ⟨x', rest', hx, _, e4⟩ := hvs
            have e4' : (c.args.map a.eval)[0]? = some x' := by
              rw [← Array.getElem?_toList, Array.toList_map, e4]; rfl
            have hlv : ∃ v', (Builtin.len_ c.argTypes o.type (c.args.map a.eval)).run P w = .ok v' w ∧ VR ι v v' := by
              unfold lenHA at e
              split at e
              · exact lenMap_sound hC hw e3 hx e c.argTypes (by assumption) o.type (c.args.map a.eval) e4'
              · exact len_sound hC (w := w) e3 hx e c.argTypes (by assumption) o.type (c.args.map a.eval) e4'
            obtain ⟨v', h1, h2⟩ := hlv
            exact pureCase (by simp only [execOp, ho, resolve, hcal, Sem.run_bind, Sem.run_pure, Result.andThen_ok, invoke, builtin, h1]) h2 rfl
          · cases h
        · cases h
      · rename_i hcal
        split at h
        · rename_i t xt s x e2
          simp only [VRs] at hvs
          obtain ⟨s', rest1, hs, ⟨x', rest2, hx, hnil, er⟩, e4⟩ := hvs
          subst hnil; subst er
          have e4' : c.args.map a.eval = #[s', x'] := by
            apply Array.ext'; rw [Array.toList_map, e4]
          have e5 : c.argTypes = #[t, xt] := by apply Array.ext'; rw [e2]
          obtain ⟨v', ι', w', h1, h2, h3⟩ := appendH_sound hC hw hid hn hs hx h o.type
          exact newCase ⟨v', ι', w', by simp only [execOp, ho, resolve, hcal, Sem.run_bind, Sem.run_pure, Result.andThen_ok, invoke, builtin, e4', e5, h1], h2, h3⟩
        · cases h
      · rename_i hcal
        split at h
        · rename_i x y
          simp only [VRs] at hvs
          obtain ⟨x', rest1, hx, ⟨y', rest2, hy, hnil, er⟩, e4⟩ := hvs
          subst hnil; subst er
          obtain ⟨e, rfl⟩ := same_eq h
          have e4' : c.args.map a.eval = #[x', y'] := by
            apply Array.ext'; rw [Array.toList_map, e4]
          obtain ⟨v', h1, h2⟩ := minMax_sound (w := w) hC hx hy e c.argTypes o.type
          simp only [cond_true] at h1
          exact pureCase (by simp only [execOp, ho, resolve, hcal, Sem.run_bind, Sem.run_pure, Result.andThen_ok, invoke, builtin, e4', h1]) h2 rfl
        · cases h
      · rename_i hcal
        split at h
        · rename_i x y
          simp only [VRs] at hvs
          obtain ⟨x', rest1, hx, ⟨y', rest2, hy, hnil, er⟩, e4⟩ := hvs
          subst hnil; subst er
          obtain ⟨e, rfl⟩ := same_eq h
          have e4' : c.args.map a.eval = #[x', y'] := by
            apply Array.ext'; rw [Array.toList_map, e4]
          obtain ⟨v', h1, h2⟩ := minMax_sound (w := w) hC hx hy e c.argTypes o.type
          simp only [cond_false] at h1
          exact pureCase (by simp only [execOp, ho, resolve, hcal, Sem.run_bind, Sem.run_pure, Result.andThen_ok, invoke, builtin, e4', h1]) h2 rfl
        · cases h
      · cases h
  · -- makeFunc
    rename_i f first captured ho
    split at h
    · rename_i u1 u2 e1 e2
      cases h
      have h1 := evs_sound' (fun x hx => hev x (by simp only [ho, Op.operands]; exact Array.mem_append.2 (.inl (by simpa using hx)))) e1
      have h2 := evs_sound' (fun x hx => hev x (by simp only [ho, Op.operands]; exact Array.mem_append.2 (.inr (by simpa using hx)))) e2
      exact pureCase (v' := .func f (first.map a.eval) (captured.map a.eval)) (by simp [execOp, ho, Instr.makeFunc]) (by simp only [VR]; exact ⟨_, _, h1, h2, by congr 1 <;> apply Array.ext' <;> simp⟩) rfl
    · cases h
  · -- makeMap
    rename_i t ho
    obtain ⟨v', ι', w', h1, h2, h3⟩ := makeMap_sound (P := P) hw hid hn h t
    exact newCase ⟨v', ι', w', by simp [execOp, ho, h1], h2, h3⟩
  · -- lookup
    rename_i t m k ok ho
    split at h
    · rename_i u1 u2 e1 e2
      obtain ⟨e, rfl⟩ := same_eq h
      obtain ⟨v', h1, h2⟩ := lookup_sound hC hw (hev _ (by simp [ho, Op.operands]) _ e1) (hev _ (by simp [ho, Op.operands]) _ e2) e
      exact pureCase (by simp [execOp, ho, h1]) h2 rfl
    · cases h
  · -- mapUpdate
    rename_i t m k x ho
    split at h
    · rename_i u1 u2 u3 e1 e2 e3
      split at h
      · rename_i H1 e4
        cases h
        obtain ⟨w', h1, h2⟩ := mapUpdate_sound (ids := (· = id)) hC hw (hev _ (by simp [ho, Op.operands]) _ e1) (hev _ (by simp [ho, Op.operands]) _ e2) (hev _ (by simp [ho, Op.operands]) _ e3) e4
        unfold Oper.wp
        rw [show (execOp a.eval o).run P w = .ok .skip w' by simp [execOp, ho, h1]]
        exact hk ι undef w' h2 (by simp only [VR, undefA, undef]; exact ⟨[], VRs_nil, rfl⟩)
      · cases h
    · cases h
  · -- makeInterface
    rename_i t x ho
    split at h
    · rename_i u e1
      obtain ⟨e, rfl⟩ := same_eq h
      have hx := hev _ (by simp [ho, Op.operands]) _ e1
      unfold makeInterfaceA at e
      split at e
      · rename_i i hi
        have hu := run_underlying hC (w := w) hi
        split at e
        · cases e
        · rename_i hno
          cases e
          refine pureCase (v' := .iface t (a.eval x)) ?_ (by simp only [VR]; exact ⟨_, hx, rfl⟩) rfl
          simp only [execOp, ho, Instr.makeInterface, Sem.run_bind, hu, Result.andThen_ok]
          simp
      · cases e
    · cases h
  · -- typeAssert
    rename_i x xt t ok ho
    split at h
    · rename_i u e1
      obtain ⟨e, rfl⟩ := same_eq h
      have hx := hev _ (by simp [ho, Op.operands]) _ e1
      unfold typeAssertA at e
      split at e
      · rename_i i hi
        have hu := run_underlying hC (w := w) hi
        have hz : ∀ z, i.zval = some z → ∃ z', (zeroValue t).run P w = .ok z' w ∧ VR ι z z' := fun z hz => by
          obtain ⟨j, z', q1, q2, q3⟩ := hC.zv t i z hi hz
          exact ⟨z', by simp [zeroValue, typeInfo, q1, q2], q3 ι⟩
        split at e
        · cases e
        · rename_i hno
          have key : ∀ (y : Value), (Instr.typeAssert y xt t ok).run P w = (match y with
              | .nilIface => (if ok then (do pure (.tuple #[← zeroValue t, .bool false])) else runtimePanic (.typeAssertion (some xt) none t "") : Sem Value).run P w
              | .iface q v => (if q = t then (pure (if ok then .tuple #[v, .bool true] else v) : Sem Value) else (if ok then (do pure (.tuple #[← zeroValue t, .bool false])) else runtimePanic (.typeAssertion (some xt) (some q) t "") : Sem Value)).run P w
              | _ => (stuck "TypeAssert: interface value expected" : Sem Value).run P w) := by
            intro y
            simp only [Instr.typeAssert, Sem.run_bind, hu, Result.andThen_ok]
            cases hd : i.desc <;> first | exact (hno _ hd).elim | (cases y <;> rfl)
          split at e
          · rename_i q v
            simp only [VR] at hx
            obtain ⟨v', hv, hxe⟩ := hx
            have hrun := key (.iface q v')
            simp only at hrun
            by_cases hq : q = t
            · rw [show Nat.beq q t = true by simp [hq]] at e
              simp only [cond_true] at e; cases e
              rw [if_pos hq] at hrun
              cases ok with
              | true => exact pureCase (v' := .tuple #[v', .bool true]) (by simp [execOp, ho, hxe, hrun]) (by simp only [cond_true, VR]; exact ⟨[v', .bool true], VRs_cons hv (VRs_cons (by simp only [VR]) VRs_nil), rfl⟩) rfl
              | false => exact pureCase (v' := v') (by simp [execOp, ho, hxe, hrun]) hv rfl
            · rw [show Nat.beq q t = false by simp [Tr.nbeq, hq]] at e
              simp only [cond_false] at e
              obtain ⟨hok, e⟩ : ok = true ∧ _ := by cases ok with | true => exact ⟨rfl, e⟩ | false => cases e
              subst hok
              rw [if_neg hq] at hrun
              simp only [cond_true] at e
              split at e
              · rename_i z hzv
                cases e
                obtain ⟨z', q1, q2⟩ := hz z hzv
                exact pureCase (v' := .tuple #[z', .bool false]) (by simp [execOp, ho, hxe, hrun, q1]) (by simp only [VR]; exact ⟨[z', .bool false], VRs_cons q2 (VRs_cons (by simp only [VR]) VRs_nil), rfl⟩) rfl
              · cases e
          · simp only [VR] at hx
            have hrun := key .nilIface
            simp only at hrun
            obtain ⟨hok, e⟩ : ok = true ∧ _ := by cases ok with | true => exact ⟨rfl, e⟩ | false => cases e
            subst hok
            simp only [cond_true] at e
            split at e
            · rename_i z hzv
              cases e
              obtain ⟨z', q1, q2⟩ := hz z hzv
              exact pureCase (v' := .tuple #[z', .bool false]) (by simp [execOp, ho, hx, hrun, q1]) (by simp only [VR]; exact ⟨[z', .bool false], VRs_cons q2 (VRs_cons (by simp only [VR]) VRs_nil), rfl⟩) rfl
            · cases e
          · cases e
      · cases e
    · cases h
  · -- panic
    rename_i x ho
    split at h
    · rename_i t v0 e1
      cases h
      have hx := hev _ (by simp [ho, Op.operands]) _ e1
      have hx2 := hx
      simp only [VR] at hx
      obtain ⟨v', hv, hxe⟩ := hx
      unfold Oper.wp
      rw [show (execOp a.eval o).run P w = .halt (.panic (.iface t v')) w by simp [execOp, ho, hxe, Instr.panic, goPanic, Sem.run]]
      refine hp _ rfl (by unfold clsOf; rw [ho]) ι (.iface t v') w (Step.refl hw) (by rw [← hxe]; exact hx2)
    · cases h
  · cases h

theorem evOp_sound {call : CallA} (hcall : CallSound P call) {T : Tr AV} {a : Act} (hw : WR ι H w) (hT : TR ι T a.tmps) {id : Nat} (hid : ι id = none) (hn : id < H.next) {o : Oper} {v : AV} {H' : Heap}
    (h : evOp C call H id T o = some (v, H')) {next : Act → World → Prop} {Q : Exit → Act → World → Prop}
    (hk : ∀ ι' v' w', Step (· = id) ι H w ι' H' w' → VR ι' v v' → next (a.put o.dst v') w')
    (hp : ∀ x, v = .pan x → clsOf o = 3 → ∀ ι' x' w', Step (· = id) ι H w ι' H' w' → VR ι' x x' → Q (.panic [{ v := x', recovered := false }]) a w') : o.wp P a w next Q :=
  evOp_sound' hC hcall hw (fun _x _ _v hx => ev_sound hT hx) hid hn h hk hp
end
end
end Go.Ev
