import Derived.Test.YtldgccbiikahgabGreatEvOps
namespace Go.Ev
open Go Go.RowKit
variable [Env]

omit [Env] in
theorem foldl_set (off : Nat) : ∀ (l : List Value) (k : Nat) (cells : Array Value), off + k + l.length ≤ cells.size →
    ((l.zipIdx k).foldl (fun cs x => cs.setIfInBounds (off + x.2) x.1) cells).size = cells.size ∧
    ∀ j, ((l.zipIdx k).foldl (fun cs x => cs.setIfInBounds (off + x.2) x.1) cells)[j]? = if off + k ≤ j ∧ j < off + k + l.length then l[j - (off + k)]? else cells[j]?
  | [], k, cells, _ => ⟨rfl, fun j => by rw [if_neg (by simp only [List.length_nil]; omega)]; rfl⟩
  | v :: l, k, cells, h => by
    simp only [List.zipIdx_cons, List.foldl_cons]
    obtain ⟨h1, h2⟩ := foldl_set off l (k + 1) (cells.setIfInBounds (off + k) v) (by simp at h ⊢; omega)
    refine ⟨by simpa using h1, fun j => ?_⟩
    rw [h2]
    by_cases e : off + (k + 1) ≤ j ∧ j < off + (k + 1) + l.length
    · rw [if_pos e, if_pos (by simp; omega)]
      have : j - (off + k) = (j - (off + (k + 1))) + 1 := by omega
      rw [this]; simp
    · rw [if_neg e]
      by_cases e2 : j = off + k
      · subst e2
        have : off + k < cells.size := by simp at h; omega
        rw [if_pos (by simp)]; simp [this]
      · rw [if_neg (by simp; omega), Array.getElem?_setIfInBounds_ne (by omega)]

omit [Env] in
theorem splice_get (cs : List AV) (o : Nat) (xs : List AV) (h : o + xs.length ≤ cs.length) (i : Nat) :
    (splice cs o xs)[i]? = if o ≤ i ∧ i < o + xs.length then xs[i - o]? else cs[i]? := by
  rw [splice, List.append_assoc]
  by_cases e : o ≤ i ∧ i < o + xs.length
  · rw [if_pos e, List.getElem?_append_right (by simp; omega), List.getElem?_append_left (by simp; omega)]
    congr 1; simp; omega
  · rw [if_neg e]
    by_cases q3 : i < o
    · rw [List.getElem?_append_left (by simp; omega), List.getElem?_take, if_pos q3]
    · rw [List.getElem?_append_right (by simp; omega), List.getElem?_append_right (by simp; omega), List.getElem?_drop]
      congr 1; simp; omega
omit [Env] in
theorem splice_length (cs : List AV) (o : Nat) (xs : List AV) (h : o + xs.length ≤ cs.length) : (splice cs o xs).length = cs.length := by
  simp [splice]; omega

/-- parts that read as abstract ones -/
def PR (ι : Map) (ps : List (Nat × AV)) (qs : List (Nat × Value)) : Prop := qs.map (·.1) = ps.map (·.1) ∧ VRs ι (ps.map (·.2)) (qs.map (·.2))
theorem PR.nil {ι : Map} : PR ι [] [] := ⟨rfl, VRs_nil⟩
theorem PR.cons_inv {ι : Map} {i : Nat} {x : AV} {ps : List (Nat × AV)} {qs : List (Nat × Value)} (h : PR ι ((i, x) :: ps) qs) :
    ∃ v rs, qs = (i, v) :: rs ∧ VR ι x v ∧ PR ι ps rs := by
  obtain ⟨h1, h2⟩ := h
  cases qs with
  | nil => simp at h1
  | cons q rs =>
    simp only [List.map_cons, List.cons.injEq] at h1
    simp only [List.map_cons, VRs, List.cons.injEq] at h2
    obtain ⟨y, ys, hy, hys, e1, e2⟩ := h2
    obtain ⟨j, u⟩ := q
    simp at h1 e1
    obtain ⟨rfl, h1⟩ := h1
    subst e1
    exact ⟨u, rs, rfl, hy, by simpa using h1, by rw [e2]; exact hys⟩

theorem fill_sound {ι : Map} {place : Nat → Option (Nat × Nat)} : ∀ {ps : List (Nat × AV)} {qs : List (Nat × Value)} {cs r : List AV} {cs' : Array Value}, PR ι ps qs → VRs ι cs cs'.toList →
    fillA place cs ps = some r → ∃ r', Instr.fill place cs' qs = some r' ∧ VRs ι r r'.toList
  | [], qs, cs, r, cs', hp, hc, h => by
    obtain ⟨h1, _⟩ := hp
    have : qs = [] := by cases qs <;> simp_all
    subst this
    simp only [fillA] at h; cases h
    exact ⟨cs', rfl, hc⟩
  | (i, x) :: ps, qs, cs, r, cs', hp, hc, h => by
    obtain ⟨v, rs, rfl, hv, hrs⟩ := hp.cons_inv
    simp only [fillA] at h
    cases e : place i with
    | none => rw [e] at h; cases h
    | some q =>
      obtain ⟨off, size⟩ := q
      rw [e] at h
      simp only at h
      cases e2 : (Nat.beq x.cells.length size && Nat.ble (off + x.cells.length) cs.length) with
      | false => rw [e2] at h; cases h
      | true =>
        rw [e2] at h
        simp only [cond_true] at h
        simp only [Bool.and_eq_true, Tr.nbeq, decide_eq_true_eq, Nat.ble_eq] at e2
        have hl := hv.cells.len
        have hcl := hc.len
        simp only [Array.length_toList] at hl hcl
        have hfold := foldl_set off v.cells.toList 0 cs' (by simp; omega)
        have harr : v.cells.zipIdx.foldl (fun cs x => cs.setIfInBounds (off + x.2) x.1) cs' = (v.cells.toList.zipIdx 0).foldl (fun cs x => cs.setIfInBounds (off + x.2) x.1) cs' := by
          rw [← Array.foldl_toList, Array.toList_zipIdx]
        have hnext : VRs ι (splice cs off x.cells) (v.cells.zipIdx.foldl (fun cs x => cs.setIfInBounds (off + x.2) x.1) cs').toList := by
          refine VRs.of_get ?_ ?_
          · rw [splice_length _ _ _ e2.2, Array.length_toList, harr, hfold.1, hcl]
          · intro j y u hy hu
            rw [splice_get _ _ _ e2.2] at hy
            rw [Array.getElem?_toList, harr, hfold.2] at hu
            by_cases q : off ≤ j ∧ j < off + x.cells.length
            · rw [if_pos q] at hy
              rw [if_pos (by simp; omega)] at hu
              obtain ⟨u', hu', r⟩ := hv.cells.get hy
              simp only [Nat.add_zero] at hu
              rw [hu] at hu'; cases hu'; exact r
            · rw [if_neg q] at hy
              rw [if_neg (by simp; omega)] at hu
              obtain ⟨u', hu', r⟩ := hc.get hy
              rw [Array.getElem?_toList, hu] at hu'; cases hu'; exact r
        obtain ⟨r', hr', k⟩ := fill_sound hrs hnext h
        refine ⟨r', ?_, k⟩
        simp only [Instr.fill, e]
        rw [if_neg (by simp; omega)]
        exact hr'

def withLoc (ι : Map) (id : Nat) (l : Loc) : Map := fun b => if b = id then some l else ι b
theorem VR_ptr {ι : Map} {b o c s : Nat} (l : Loc) (h : ι b = some l) (h1 : c = l.blk) (h2 : s = l.shift + o) : VR ι (.ptr b o) (.pointer (some ⟨c, s, none⟩)) := by
  subst h1 h2; simp only [VR]; exact ⟨l, h, rfl⟩
theorem VR_sl {ι : Map} {b o c s n cap : Nat} (l : Loc) (h : ι b = some l) (h1 : c = l.blk) (h2 : s = l.shift + o) (h3 : n ≤ cap) (h4 : l.shift + o + cap * l.es ≤ l.room) : VR ι (.sl b o n) (.slice (some ⟨c, s, none⟩) n cap) := by
  subst h1 h2; simp only [VR]; exact ⟨l, cap, h, h3, h4, rfl⟩
omit [Env] in
theorem run_newRow (P : Program) (w : World) (e : TypeId) (c : Array Value) : (newRow e c).run P w = .ok ⟨w.heap.size, 0, none⟩ { w with heap := w.heap.push (.cells c e) } := rfl

section
variable {C : Ctx} {P : Program} (hC : C.Ok P) {ι : Map} {T : Tr AV} {a : Act} {H : Heap} {w : World}

theorem evParts_sound (hT : TR ι T a.tmps) : ∀ {xs : List (Nat × Operand)} {ps : List (Nat × AV)}, evParts T xs = some ps → PR ι ps (xs.map fun (i, x) => (i, a.eval x))
  | [], ps, h => by cases h; exact PR.nil
  | (i, x) :: xs, ps, h => by
    simp only [evParts] at h
    split at h
    · rename_i v ws e1 e2
      cases h
      obtain ⟨h1, h2⟩ := evParts_sound hT e2
      exact ⟨by simpa using h1, by simpa using VRs_cons (ev_sound hT e1) h2⟩
    · cases h

include hC
theorem alloc_sound (hw : WR ι H w) {id : Nat} (hid : ι id = none) (hn : id < H.next) {t : TypeId} {v : AV} {H' : Heap} (h : allocA C H id t = some (v, H')) :
    ∃ v' ι' w', (Instr.alloc t true (.tuple #[])).run P w = .ok v' w' ∧ VR ι' v v' ∧ Step (· = id) ι H w ι' H' w' := by
  unfold allocA at h
  split at h
  · rename_i i e1
    split at h
    · rename_i z e2
      split at h
      · rename_i H1 e3
        cases h
        obtain ⟨zv, hz, hzr⟩ := run_zeroValue hC (w := w) e1 e2
        have hs := step_new hw hid hn rfl e3 zv.cells t (by have := (hzr ι).len; simp at this; omega) (fun i x hx => by
          obtain ⟨u, hu, r⟩ := (hzr ι).get hx
          exact ⟨u, by simpa using hu, r⟩) w rfl rfl rfl rfl
        refine ⟨.pointer (some ⟨w.heap.size, 0, none⟩), _, _, ?_, ?_, hs⟩
        · simp only [Instr.alloc, Sem.run_bind, hz, Result.andThen_ok, newVar, run_newRow, Sem.run_pure]
        · exact VR_ptr ⟨w.heap.size, 0, zv.cells.size, i.size⟩ (by simp) rfl rfl
      · cases h
    · cases h
  · cases h
omit hC
theorem box_sound (hw : WR ι H w) {id : Nat} (hid : ι id = none) (hn : id < H.next) {t : TypeId} {x v : AV} {x' : Value} (hx : VR ι x x') {H' : Heap} (h : boxA H id x = some (v, H')) :
    ∃ v' ι' w', (Instr.box t x').run P w = .ok v' w' ∧ VR ι' v v' ∧ Step (· = id) ι H w ι' H' w' := by
  unfold boxA at h
  split at h
  · rename_i H1 e3
    cases h
    have hs := step_new hw hid hn rfl e3 x'.cells t (by have := hx.cells.len; simp at this; omega) (fun i x hx' => by
      obtain ⟨u, hu, r⟩ := hx.cells.get hx'
      exact ⟨u, by simpa using hu, r⟩) w rfl rfl rfl rfl
    refine ⟨.pointer (some ⟨w.heap.size, 0, none⟩), _, _, ?_, ?_, hs⟩
    · simp only [Instr.box, Sem.run_bind, Result.andThen_ok, newVar, run_newRow, Sem.run_pure]
    · exact VR_ptr ⟨w.heap.size, 0, x'.cells.size, x.cells.length⟩ (by simp) rfl rfl
  · cases h

include hC
theorem fields_places (fs : Array Field) (hk : fieldsKnown C fs = true) :
    ∃ places : Array (Nat × Nat), (fs.mapM fun f => do pure (f.offset, ← sizeOf f.type) : Sem (Array (Nat × Nat))).run P w = .ok places w ∧ ∀ (i : Nat) (q : Nat × Nat), fillPlaces C fs i = some q → places[i]? = some q := by
  have key : ∀ l : List Field, (l.all fun f => (C.ty f.type).isSome) = true →
      ∃ ps : List (Nat × Nat), (l.mapM fun f => do pure (f.offset, ← sizeOf f.type) : Sem (List (Nat × Nat))).run P w = .ok ps w ∧ ∀ (i : Nat) (q : Nat × Nat), placeOf C l[i]? = some q → ps[i]? = some q := by
    intro l
    induction l with
    | nil => intro _; exact ⟨[], by simp, fun i q h => by simp [placeOf] at h⟩
    | cons f l ih =>
      intro hl
      simp only [List.all_cons, Bool.and_eq_true] at hl
      obtain ⟨ps, h1, h2⟩ := ih hl.2
      obtain ⟨j, hj⟩ := Option.isSome_iff_exists.1 hl.1
      refine ⟨(f.offset, j.size) :: ps, by simp only [List.mapM_cons, Sem.run_bind, run_sizeOf hC hj, Result.andThen_ok, Sem.run_pure, h1], fun i q h => ?_⟩
      cases i with
      | zero => simp [placeOf, hj] at h; simp [h]
      | succ i => simp at h ⊢; exact h2 i q h
  obtain ⟨ps, h1, h2⟩ := key fs.toList hk
  refine ⟨ps.toArray, ?_, fun i q h => by simpa using h2 i q (by simpa only [fillPlaces, Array.getElem?_toList] using h)⟩
  have : (fs.mapM fun f => do pure (f.offset, ← sizeOf f.type) : Sem (Array (Nat × Nat))) = List.toArray <$> (fs.toList.mapM fun f => do pure (f.offset, ← sizeOf f.type)) := by
    rw [Array.mapM_eq_mapM_toList]
  rw [this]
  simp only [Sem.run_map, h1, Result.andThen_ok]

theorem build_sound {t : TypeId} {ps : List (Nat × AV)} {qs : Array (Nat × Value)} (hp : PR ι ps qs.toList) {v : AV} (h : buildA C t ps = some v) :
    ∃ v', (Instr.build t qs).run P w = .ok v' w ∧ VR ι v v' := by
  unfold buildA at h
  split at h
  · rename_i i e1
    split at h
    · rename_i z fs e2 e3
      cases e4 : fieldsKnown C fs with
      | false => rw [e4] at h; cases h
      | true =>
        rw [e4] at h
        simp only [cond_true] at h
        cases e5 : fillA (fillPlaces C fs) z ps with
        | none => rw [e5] at h; cases h
        | some r =>
          rw [e5] at h; cases h
          obtain ⟨zv, hz, hzr⟩ := run_zeroValue hC (w := w) e1 e2
          obtain ⟨places, hp1, hp2⟩ := fields_places hC (w := w) fs e4
          obtain ⟨r', hr', k⟩ := fill_sound hp (hzr ι) e5
          have hmono : ∀ (qs : List (Nat × Value)) (cs : Array Value) r, Instr.fill (fillPlaces C fs) cs qs = some r → Instr.fill (places[·]?) cs qs = some r := by
            intro qs
            induction qs with
            | nil => intro cs r h; exact h
            | cons q qs ih =>
              intro cs r h
              obtain ⟨i, u⟩ := q
              simp only [Instr.fill] at h ⊢
              cases e : fillPlaces C fs i with
              | none => rw [e] at h; cases h
              | some pl =>
                rw [e] at h
                rw [hp2 i pl e]
                simp only at h ⊢
                split at h
                · cases h
                · rename_i hh; rw [if_neg hh]; exact ih _ _ h
          refine ⟨.agg r', ?_, by simp only [VR]; exact ⟨r'.toList, k, by simp⟩⟩
          simp only [Instr.build, Sem.run_bind, hz, Result.andThen_ok, run_underlying hC e1, e3, hp1, hmono _ _ _ hr', Sem.run_pure]
    · rename_i z n e e2 e3
      split at h
      · rename_i j e4
        cases e5 : fillA (fun i => some (i * j.size, j.size)) z ps with
        | none => rw [e5] at h; cases h
        | some r =>
          rw [e5] at h; cases h
          obtain ⟨zv, hz, hzr⟩ := run_zeroValue hC (w := w) e1 e2
          obtain ⟨r', hr', k⟩ := fill_sound hp (hzr ι) e5
          refine ⟨.agg r', ?_, by simp only [VR]; exact ⟨r'.toList, k, by simp⟩⟩
          simp only [Instr.build, Sem.run_bind, hz, Result.andThen_ok, run_underlying hC e1, e3, run_sizeOf hC e4, hr', Sem.run_pure]
      · cases h
    · cases h
  · cases h
omit hC
omit [Env] in
theorem repeat_len (z : List AV) (n : Nat) : (repeatCells z n).length = n * z.length := by
  induction n with
  | zero => simp [repeatCells]
  | succ n ih => simp [repeatCells, ih, Nat.succ_mul]; omega
omit [Env] in
theorem repeat_get (z : List AV) : ∀ (n i : Nat), i < n * z.length → (repeatCells z n)[i]? = z[i % z.length]?
  | 0, i, h => by omega
  | n + 1, i, h => by
    simp only [repeatCells]
    by_cases e : i < z.length
    · rw [List.getElem?_append_left e, Nat.mod_eq_of_lt e]
    · have e' : z.length ≤ i := by omega
      rw [List.getElem?_append_right e', repeat_get z n (i - z.length) (by rw [Nat.succ_mul] at h; omega), Nat.mod_eq_sub_mod e']
theorem repeat_sound {ι : Map} {z : List AV} {zv : Array Value} (h : VRs ι z zv.toList) (n : Nat) (hz : zv.size ≠ 0) :
    VRs ι (repeatCells z n) ((Array.range (n * zv.size)).map (zv[· % zv.size]!)).toList := by
  have hl := h.len
  simp only [Array.length_toList] at hl
  refine VRs.of_get (by simp [repeat_len, hl]) fun i x v hx hv => ?_
  have hi : i < n * z.length := by
    have := (List.getElem?_eq_some_iff.1 hx).1
    rw [repeat_len] at this; exact this
  rw [repeat_get z n i hi] at hx
  obtain ⟨u, hu, r⟩ := h.get hx
  have hlt : i % zv.size < zv.size := Nat.mod_lt _ (by omega)
  rw [← hl] at hu hi
  simp [hi] at hv
  rw [Array.getElem?_toList] at hu
  simp [hlt] at hu hv
  rw [← hv, hu]; exact r
include hC
theorem buildSlice_sound (hw : WR ι H w) {id : Nat} (hid : ι id = none) (hn : id < H.next) {t : TypeId} {len : Nat} {ps : List (Nat × AV)} {qs : Array (Nat × Value)} (hp : PR ι ps qs.toList) {v : AV} {H' : Heap}
    (h : buildSliceA C H id t len ps = some (v, H')) :
    ∃ v' ι' w', (Instr.buildSlice t len qs).run P w = .ok v' w' ∧ VR ι' v v' ∧ Step (· = id) ι H w ι' H' w' := by
  unfold buildSliceA at h
  split at h
  · rename_i e si by_ ze zv0 e1
    split at h
    · rename_i j e2
      split at h
      · rename_i z e3
        cases e4 : (Nat.beq z.length j.size && !Nat.beq j.size 0 && Nat.ble (len * j.size) 16777216) with
        | false => rw [e4] at h; cases h
        | true =>
          rw [e4] at h
          simp only [cond_true] at h
          simp only [Bool.and_eq_true, Tr.nbeq, decide_eq_true_eq, Nat.ble_eq, Bool.not_eq_true', decide_eq_false_iff_not] at e4
          split at h
          · rename_i cs e5
            cases e6 : Nat.beq cs.length (len * j.size) with
            | false => rw [e6] at h; cases h
            | true =>
              rw [e6] at h
              simp only [cond_true] at h
              simp only [Tr.nbeq, decide_eq_true_eq] at e6
              split at h
              · rename_i H1 e7
                cases h
                obtain ⟨zv, hz, hzr⟩ := run_zeroValue hC (w := w) e2 e3
                have hzl := (hzr ι).len
                simp only [Array.length_toList] at hzl
                have hs0 : zv.cells.size = j.size := by omega
                obtain ⟨r', hr', k⟩ := fill_sound hp (repeat_sound (hzr ι) len (by omega)) e5
                rw [hs0] at hr'
                have hkl := k.len
                simp only [Array.length_toList] at hkl
                have hs := step_new hw hid hn rfl e7 r' e (by omega) (fun i x hx => by
                  obtain ⟨u, hu, r⟩ := k.get hx
                  exact ⟨u, by simpa using hu, r⟩) w rfl rfl rfl rfl
                refine ⟨.slice (some ⟨w.heap.size, 0, none⟩) len len, _, _, ?_, ?_, hs⟩
                · have h0 : ¬ len * j.size > 2 ^ 24 := by omega
                  simp only [Instr.buildSlice, Sem.run_bind, run_underlying hC e1, Result.andThen_ok, run_sizeOf hC e2]
                  by_cases q : len * j.size = 0
                  · have : r' = #[] := by
                      apply Array.eq_empty_of_size_eq_zero; omega
                    have hlen : len = 0 := by
                      rcases Nat.mul_eq_zero.1 q with q | q
                      · exact q
                      · exact (e4.1.2 q).elim
                    subst this
                    have h1 : (Array.range (len * j.size)).map (zv.cells[· % j.size]!) = #[] := by simp [q]
                    have h2 : (Array.range (len * j.size)).map ((#[] : Array Value)[· % (#[] : Array Value).size]!) = #[] := by simp [q]
                    rw [h1] at hr'
                    simp only [q, if_true]
                    rw [if_neg (by omega)]
                    rw [q] at h2
                    simp only [pure_bind, h2, hr', Sem.run_bind, run_newRow, Result.andThen_ok, Sem.run_pure]
                  · simp only [h0, q, if_false, Sem.run_bind, hz, Result.andThen_ok, Sem.run_pure, hs0, hr', run_newRow]
                · exact VR_sl ⟨w.heap.size, 0, r'.size, j.size⟩ (by simp) rfl rfl (Nat.le_refl _) (by simp; omega)
              · cases h
          · cases h
      · cases h
    · cases h
  · cases h
end
end Go.Ev
