import Derived.Test.YtcbdmlpfepdblaaGreatDoorEvA
import GoSem.Dispatch
namespace Go.Ev
noncomputable section
open Go Go.RowKit
variable [Env]

/-- the slots hold what the abstract ones say -/
def TR (ι : Map) (T : Tr AV) (tmps : Array Value) : Prop := ∀ t x, T.get t = some x → ∃ v, tmps[t]? = some v ∧ VR ι x v
theorem TR.ext {ι ι' : Map} {T : Tr AV} {tmps : Array Value} (h : Ext ι ι') (r : TR ι T tmps) : TR ι' T tmps :=
  fun t x e => let ⟨v, hv, q⟩ := r t x e; ⟨v, hv, q.ext h⟩

theorem VRs_nil {ι : Map} : VRs ι [] [] := by simp [VRs]
theorem VRs_cons {ι : Map} {x : AV} {v : Value} {xs : List AV} {vs : List Value} (h : VR ι x v) (k : VRs ι xs vs) : VRs ι (x :: xs) (v :: vs) := by
  simp only [VRs]; exact ⟨v, vs, h, k, rfl⟩

theorem ofCell_sound {v : Value} {x : AV} (h : ofCell v = some x) (ι : Map) : VR ι x v := by
  unfold ofCell at h
  split at h <;> first
    | (cases h; simp only [VR]; done)
    | (cases h)
    | skip
theorem ofCells_sound : ∀ {vs : List Value} {xs : List AV}, ofCells vs = some xs → ∀ ι : Map, VRs ι xs vs
  | [], xs, h, ι => by simp only [ofCells] at h; cases h; exact VRs_nil
  | v :: vs, xs, h, ι => by
    simp only [ofCells] at h
    split at h
    · rename_i x ys e1 e2
      cases h; exact VRs_cons (ofCell_sound e1 ι) (ofCells_sound e2 ι)
    · cases h
theorem ofValue_sound {v : Value} {x : AV} (h : ofValue v = some x) (ι : Map) : VR ι x v := by
  unfold ofValue at h
  split at h
  · rename_i cs
    cases e : ofCells cs.toList with
    | none => rw [e] at h; cases h
    | some xs => rw [e] at h; cases h; simp only [VR]; exact ⟨cs.toList, ofCells_sound e ι, by simp⟩
  · rename_i cs
    cases e : ofCells cs.toList with
    | none => rw [e] at h; cases h
    | some xs => rw [e] at h; cases h; simp only [VR]; exact ⟨cs.toList, ofCells_sound e ι, by simp⟩
  · rename_i f first captured
    cases e : (first.toList.isEmpty && captured.toList.isEmpty) with
    | false => rw [e] at h; cases h
    | true =>
      rw [e] at h; cases h
      simp at e
      obtain ⟨e1, e2⟩ := e
      subst e1 e2
      simp only [VR]; exact ⟨[], [], VRs_nil, VRs_nil, rfl⟩
  · exact ofCell_sound h ι

theorem VR.cells {ι : Map} {x : AV} {v : Value} (h : VR ι x v) : VRs ι x.cells v.cells.toList := by
  cases x <;> simp only [VR] at h
  case agg cs => obtain ⟨cs', hc, rfl⟩ := h; simpa [AV.cells, Value.cells] using hc
  case ptr b o => obtain ⟨l, e, rfl⟩ := h; exact VRs_cons (by simp only [VR]; exact ⟨l, e, rfl⟩) VRs_nil
  case sl b o n => obtain ⟨l, cap, e, h1, h2, rfl⟩ := h; exact VRs_cons (by simp only [VR]; exact ⟨l, cap, e, h1, h2, rfl⟩) VRs_nil
  case map b => obtain ⟨l, e, rfl⟩ := h; exact VRs_cons (by simp only [VR]; exact ⟨l, e, rfl⟩) VRs_nil
  case fn f a c => obtain ⟨a', c', ha, hc, rfl⟩ := h; exact VRs_cons (by simp only [VR]; exact ⟨a', c', ha, hc, rfl⟩) VRs_nil
  case iface t y => obtain ⟨y', hy, rfl⟩ := h; exact VRs_cons (by simp only [VR]; exact ⟨y', hy, rfl⟩) VRs_nil
  case tup vs => obtain ⟨vs', hv, rfl⟩ := h; exact VRs_cons (by simp only [VR]; exact ⟨vs', hv, rfl⟩) VRs_nil
  case yld b => obtain ⟨l, e, rfl⟩ := h; exact VRs_cons (by simp only [VR]; exact ⟨l, e, rfl⟩) VRs_nil
  case any => cases v <;> first | (cases h; done) | exact VRs_cons (by simp only [VR]; exact h) VRs_nil
  case anyb => obtain ⟨b, rfl⟩ := h; exact VRs_cons (by simp only [VR]; exact ⟨b, rfl⟩) VRs_nil
  all_goals (subst h; exact VRs_cons (by simp only [VR]) VRs_nil)

theorem VR.flat {ι : Map} {x : AV} {v : Value} (h : VR ι x v) (hf : x.flat = true) : v.oneCell' = true := by
  cases x <;> simp only [VR] at h
  case agg cs => cases hf
  case tup cs => cases hf
  case ptr b o => obtain ⟨l, e, rfl⟩ := h; rfl
  case sl b o n => obtain ⟨l, cap, e, h1, h2, rfl⟩ := h; rfl
  case map b => obtain ⟨l, e, rfl⟩ := h; rfl
  case fn f a c => obtain ⟨a', c', ha, hc, rfl⟩ := h; rfl
  case iface t y => obtain ⟨y', hy, rfl⟩ := h; rfl
  case yld b => obtain ⟨l, e, rfl⟩ := h; rfl
  case any => exact h
  case anyb => obtain ⟨b, rfl⟩ := h; rfl
  all_goals (subst h; rfl)
theorem flatAll_sound {ι : Map} : ∀ {xs : List AV} {vs : List Value}, VRs ι xs vs → flatAll xs = true → ∀ v ∈ vs, v.oneCell' = true
  | [], vs, h, _ => by simp only [VRs] at h; subst h; simp
  | x :: xs, vs, h, hf => by
    simp only [VRs] at h; obtain ⟨y, ys, hy, hys, rfl⟩ := h
    simp only [flatAll, Bool.and_eq_true] at hf
    intro v hv
    rcases List.mem_cons.1 hv with rfl | hv
    · exact hy.flat hf.1
    · exact flatAll_sound hys hf.2 v hv

section
variable {C : Ctx} {P : Program} (hC : C.Ok P) {ι : Map} {T : Tr AV} {a : Act} {H : Heap} {w : World}

theorem ev_sound (hT : TR ι T a.tmps) {x : Operand} {v : AV} (h : ev T x = some v) : VR ι v (a.eval x) := by
  cases x with
  | tmp t =>
    obtain ⟨u, hu, r⟩ := hT t v h
    simpa [Act.eval, hu] using r
  | const u => exact ofValue_sound h ι
  | global g => cases h
  | func f => cases h; simp only [VR, Act.eval]; exact ⟨[], [], VRs_nil, VRs_nil, rfl⟩
theorem evs_sound (hT : TR ι T a.tmps) : ∀ {xs : List Operand} {vs : List AV}, evs T xs = some vs → VRs ι vs (xs.map a.eval)
  | [], vs, h => by cases h; exact VRs_nil
  | x :: xs, vs, h => by
    simp only [evs] at h
    split at h
    · rename_i v ws e1 e2
      cases h; exact VRs_cons (ev_sound hT e1) (evs_sound hT e2)
    · cases h

include hC
theorem run_underlying {t : TypeId} {i : TI} (h : C.ty t = some i) : (underlying t).run P w = .ok i.desc w := by
  obtain ⟨h1, _⟩ := hC.ty t i h
  simp [underlying, h1]
theorem run_sizeOf {t : TypeId} {i : TI} (h : C.ty t = some i) : (sizeOf t).run P w = .ok i.size w := by
  obtain ⟨_, j, h1, h2, _⟩ := hC.ty t i h
  simp [sizeOf, typeInfo, h1, h2]
theorem run_typeInfo {t : TypeId} {i : TI} (h : C.ty t = some i) : ∃ j, (typeInfo t).run P w = .ok j w ∧ j.size = i.size ∧ j.bytes = i.bytes := by
  obtain ⟨_, j, h1, h2, h3, _⟩ := hC.ty t i h
  exact ⟨j, by simp [typeInfo, h1], h2, h3⟩
theorem run_isAgg {t : TypeId} {i : TI} (h : C.ty t = some i) : (isAgg t).run P w = .ok i.isAgg w := by
  have := run_underlying hC (w := w) h
  unfold isAgg TI.isAgg
  simp only [Sem.run_bind, this, Result.andThen_ok]
  split <;> rename_i hh <;> simp [hh]
theorem run_zeroValue {t : TypeId} {i : TI} {zs : List AV} (h : C.ty t = some i) (hz : i.zero = some zs) : ∃ z, (zeroValue t).run P w = .ok z w ∧ ∀ ι, VRs ι zs z.cells.toList := by
  obtain ⟨_, j, h1, _, _, h4⟩ := hC.ty t i h
  obtain ⟨z, h5, h6⟩ := h4 zs hz
  exact ⟨z, by simp [zeroValue, typeInfo, h1, h5], h6⟩

theorem part_sound {t : TypeId} {i : TI} (h : C.ty t = some i) {cs : List AV} {cs' : List Value} (hc : VRs ι cs cs') {o : Nat} {v : AV} (hv : part i cs o = some v) :
    ∃ v', (Go.part t cs'.toArray o).run P w = .ok v' w ∧ VR ι v v' := by
  unfold part at hv
  unfold Go.part
  simp only [Sem.run_bind, run_isAgg hC h, Result.andThen_ok]
  cases e : i.isAgg with
  | true =>
    rw [e] at hv
    simp only [cond_true] at hv
    cases e2 : Nat.ble (o + i.size) cs.length with
    | false => rw [e2] at hv; cases hv
    | true =>
      rw [e2] at hv; cases hv
      simp only [if_true, Sem.run_bind, run_sizeOf hC h, Result.andThen_ok, Sem.run_pure]
      refine ⟨_, rfl, ?_⟩
      simp only [VR]
      refine ⟨_, (hc.drop o).take i.size, ?_⟩
      simp [List.extract_eq_take_drop]
  | false =>
    rw [e] at hv
    simp only [cond_false] at hv
    obtain ⟨v', hv', r⟩ := hc.get hv
    simp [hv']
    exact r

omit hC
omit [Env] in
theorem add_addr (b o j : Nat) : (⟨b, o, none⟩ : Addr).add j = ⟨b, o + j, none⟩ := by unfold Addr.add; split <;> simp_all

/-- the cells of a block, as the world has them -/
theorem cells_at (hw : WR ι H w) {b : Nat} {l : Loc} {ob : Obj} (hb : ι b = some l) (ho : H.cells b = some ob) (o n : Nat) (hl : o + n ≤ ob.cs.length) :
    ∃ vs, vs.length = n ∧ VRs ι ((ob.cs.drop o).take n) vs ∧ ∀ (j : Nat) (v : Value), vs[j]? = some v → w.cell? ⟨l.blk, l.shift + o + j, none⟩ = some v := by
  obtain ⟨c, et, lo, hi, h1, h2, h3, h4, h5, h6⟩ := hw.cells hb ho
  refine ⟨(c.toList.drop (l.shift + o)).take n, ?_, ?_, ?_⟩
  · simp; omega
  · refine VRs.of_get (by simp; omega) fun i x v hx hv => ?_
    have hi : i < n := by
      rcases Nat.lt_or_ge i n with h' | h'
      · exact h'
      · simp [List.getElem?_take, Nat.not_lt.2 h'] at hx
    simp only [List.getElem?_take, hi, if_true, List.getElem?_drop] at hx hv
    obtain ⟨u, hu, r⟩ := h6 (o + i) x hx
    have : v = u := by
      have e : l.shift + o + i = l.shift + (o + i) := by omega
      rw [e] at hv
      simp [hu] at hv; exact hv.symm
    subst this; exact r
  · intro j v hv
    have hj : j < n := by
      rcases Nat.lt_or_ge j n with h' | h'
      · exact h'
      · simp [List.getElem?_take, Nat.not_lt.2 h'] at hv
    simp only [List.getElem?_take, hj, if_true, List.getElem?_drop] at hv
    simp [World.cell?, h1]
    simpa using hv
include hC
theorem load_sound (hw : WR ι H w) {t : TypeId} {p : AV} {p' : Value} (hp : VR ι p p') {v : AV} (h : evLoad C H t p = some v) :
    ∃ v', (Instr.loadAt t p').run P w = .ok v' w ∧ VR ι v v' := by
  cases p <;> simp only [evLoad] at h <;> try (cases h; done)
  rename_i b o
  split at h
  · rename_i i ob e1 e2
    simp only [VR] at hp
    obtain ⟨l, hb, rfl⟩ := hp
    unfold part at h
    simp only [Instr.loadAt, Instr.sureAddr, Sem.run_bind, Sem.run_pure, Result.andThen_ok, loadVar, run_isAgg hC e1]
    cases e : i.isAgg with
    | true =>
      rw [e] at h
      simp only [cond_true] at h
      cases e3 : Nat.ble (o + i.size) ob.cs.length with
      | false => rw [e3] at h; cases h
      | true =>
        rw [e3] at h; cases h
        obtain ⟨vs, k1, k2, k3⟩ := cells_at hw hb e2 o i.size (Nat.le_of_ble_eq_true e3)
        have := run_loadCells_list (P := P) w ⟨l.blk, l.shift + o, none⟩ vs (fun j v hv => by rw [add_addr]; exact k3 j v hv)
        rw [k1] at this
        simp only [if_true, Sem.run_bind, run_sizeOf hC e1, Result.andThen_ok, this, Sem.run_pure]
        exact ⟨_, rfl, by simp only [VR]; exact ⟨vs, k2, rfl⟩⟩
    | false =>
      rw [e] at h
      simp only [cond_false] at h
      have hlt := (List.getElem?_eq_some_iff.1 h).1
      obtain ⟨vs, k1, k2, k3⟩ := cells_at hw hb e2 o 1 (by omega)
      obtain ⟨v', hv', r⟩ := k2.get (i := 0) (x := v) (by simpa using h)
      have := k3 0 v' hv'
      simp only [Nat.add_zero] at this
      refine ⟨v', ?_, r⟩
      simp [this]
  · cases h

theorem store_sound (hw : WR ι H w) {t : TypeId} {p x : AV} {p' x' : Value} (hp : VR ι p p') (hx : VR ι x x') {H' : Heap} (h : evStore C H t x p = some H') (ids : Nat → Prop) :
    ∃ w', (Instr.storeAt t p' x').run P w = .ok () w' ∧ Step ids ι H w ι H' w' := by
  cases p <;> simp only [evStore] at h <;> try (cases h; done)
  rename_i b o
  split at h
  · rename_i i ob e1 e2
    simp only [VR] at hp
    obtain ⟨l, hb, rfl⟩ := hp
    cases e3 : (ob.kind.lets o && Nat.beq x.cells.length i.size && Nat.ble (o + i.size) ob.cs.length && flatAll x.cells) with
    | false => rw [e3] at h; cases h
    | true =>
      rw [e3] at h; cases h
      simp only [Bool.and_eq_true, Tr.nbeq, decide_eq_true_eq, Nat.ble_eq] at e3
      obtain ⟨⟨⟨f1, f2⟩, f3⟩, f4⟩ := e3
      obtain ⟨c, et, lo, hi, h1, h2, h3, h4, h5, h6⟩ := hw.cells hb e2
      have hcs := hx.cells
      have hlen := hcs.len
      have hst := run_storeCells_cells (P := P) l.blk (l.shift + o) x'.cells.toList 0 w
        (fun j hj => by simp [World.cell?, h1]; omega)
        (fun j hj => by
          have := h3 (l.shift + o + 0 + j) (by omega)
          simp only [World.frozen?, h1]
          by_cases q : lo ≤ l.shift + o + 0 + j <;> simp <;> omega)
        (flatAll_sound hcs f4)
      refine ⟨_, ?_, (step_store hw hb e2 o f1 x.cells x'.cells.toList hcs (by omega)).cast (HEq2.refl _) (HEq2.write _ _ _)⟩
      simp only [Nat.add_zero] at hst
      have hsz : x'.cells.size = i.size := by simpa [f2] using hlen
      simp [Instr.storeAt, Instr.sureAddr, storeVar, run_sizeOf hC e1, hsz, hst]
  · cases h
end
end
end Go.Ev
namespace Go.Ev
noncomputable section
open Go Go.RowKit
variable [Env]

omit [Env] in
theorem foldl_set (off : Nat) : ∀ (l : List Value) (k : Nat) (cells : Array Value), off + k + l.length ≤ cells.size →
    ((l.zipIdx k).foldl (fun cs x => cs.setIfInBounds (off + x.2) x.1) cells).size = cells.size ∧
    ∀ j, ((l.zipIdx k).foldl (fun cs x => cs.setIfInBounds (off + x.2) x.1) cells)[j]? = if off + k ≤ j ∧ j < off + k + l.length then l[j - (off + k)]? else cells[j]?
  | [], k, cells, _ => ⟨rfl, fun j => by rw [if_neg (by simp only [List.length_nil]; omega)]; rfl⟩
  | v :: l, k, cells, h => by
    simp only [List.zipIdx_cons, List.foldl_cons]
    obtain ⟨h1, h2⟩ := foldl_set off l (k + 1) (cells.setIfInBounds (off + k) v) (by simp at h ⊢; omega)
    refine ⟨by simpa using h1, fun j => ?_⟩
    rw [h2]
    by_cases e : off + (k + 1) ≤ j ∧ j < off + (k + 1) + l.length
    · rw [if_pos e, if_pos (by simp; omega)]
      have : j - (off + k) = (j - (off + (k + 1))) + 1 := by omega
      rw [this]; simp
    · rw [if_neg e]
      by_cases e2 : j = off + k
      · subst e2
        have : off + k < cells.size := by simp at h; omega
        rw [if_pos (by simp)]; simp [this]
      · rw [if_neg (by simp; omega), Array.getElem?_setIfInBounds_ne (by omega)]

omit [Env] in
theorem splice_get (cs : List AV) (o : Nat) (xs : List AV) (h : o + xs.length ≤ cs.length) (i : Nat) :
    (splice cs o xs)[i]? = if o ≤ i ∧ i < o + xs.length then xs[i - o]? else cs[i]? := by
  rw [splice, List.append_assoc]
  by_cases e : o ≤ i ∧ i < o + xs.length
  · rw [if_pos e, List.getElem?_append_right (by simp; omega), List.getElem?_append_left (by simp; omega)]
    congr 1; simp; omega
  · rw [if_neg e]
    by_cases q3 : i < o
    · rw [List.getElem?_append_left (by simp; omega), List.getElem?_take, if_pos q3]
    · rw [List.getElem?_append_right (by simp; omega), List.getElem?_append_right (by simp; omega), List.getElem?_drop]
      congr 1; simp; omega
omit [Env] in
theorem splice_length (cs : List AV) (o : Nat) (xs : List AV) (h : o + xs.length ≤ cs.length) : (splice cs o xs).length = cs.length := by
  simp [splice]; omega

/-- parts that read as abstract ones -/
def PR (ι : Map) (ps : List (Nat × AV)) (qs : List (Nat × Value)) : Prop := qs.map (·.1) = ps.map (·.1) ∧ VRs ι (ps.map (·.2)) (qs.map (·.2))
theorem PR.nil {ι : Map} : PR ι [] [] := ⟨rfl, VRs_nil⟩
theorem PR.cons_inv {ι : Map} {i : Nat} {x : AV} {ps : List (Nat × AV)} {qs : List (Nat × Value)} (h : PR ι ((i, x) :: ps) qs) :
    ∃ v rs, qs = (i, v) :: rs ∧ VR ι x v ∧ PR ι ps rs := by
  obtain ⟨h1, h2⟩ := h
  cases qs with
  | nil => simp at h1
  | cons q rs =>
    simp only [List.map_cons, List.cons.injEq] at h1
    simp only [List.map_cons, VRs, List.cons.injEq] at h2
    obtain ⟨y, ys, hy, hys, e1, e2⟩ := h2
    obtain ⟨j, u⟩ := q
    simp at h1 e1
    obtain ⟨rfl, h1⟩ := h1
    subst e1
    exact ⟨u, rs, rfl, hy, by simpa using h1, by rw [e2]; exact hys⟩

theorem fill_sound {ι : Map} {place : Nat → Option (Nat × Nat)} : ∀ {ps : List (Nat × AV)} {qs : List (Nat × Value)} {cs r : List AV} {cs' : Array Value}, PR ι ps qs → VRs ι cs cs'.toList →
    fillA place cs ps = some r → ∃ r', Instr.fill place cs' qs = some r' ∧ VRs ι r r'.toList
  | [], qs, cs, r, cs', hp, hc, h => by
    obtain ⟨h1, _⟩ := hp
    have : qs = [] := by cases qs <;> simp_all
    subst this
    simp only [fillA] at h; cases h
    exact ⟨cs', rfl, hc⟩
  | (i, x) :: ps, qs, cs, r, cs', hp, hc, h => by
    obtain ⟨v, rs, rfl, hv, hrs⟩ := hp.cons_inv
    simp only [fillA] at h
    cases e : place i with
    | none => rw [e] at h; cases h
    | some q =>
      obtain ⟨off, size⟩ := q
      rw [e] at h
      simp only at h
      cases e2 : (Nat.beq x.cells.length size && Nat.ble (off + x.cells.length) cs.length) with
      | false => rw [e2] at h; cases h
      | true =>
        rw [e2] at h
        simp only [cond_true] at h
        simp only [Bool.and_eq_true, Tr.nbeq, decide_eq_true_eq, Nat.ble_eq] at e2
        have hl := hv.cells.len
        have hcl := hc.len
        simp only [Array.length_toList] at hl hcl
        have hfold := foldl_set off v.cells.toList 0 cs' (by simp; omega)
        have harr : v.cells.zipIdx.foldl (fun cs x => cs.setIfInBounds (off + x.2) x.1) cs' = (v.cells.toList.zipIdx 0).foldl (fun cs x => cs.setIfInBounds (off + x.2) x.1) cs' := by
          rw [← Array.foldl_toList, Array.toList_zipIdx]
        have hnext : VRs ι (splice cs off x.cells) (v.cells.zipIdx.foldl (fun cs x => cs.setIfInBounds (off + x.2) x.1) cs').toList := by
          refine VRs.of_get ?_ ?_
          · rw [splice_length _ _ _ e2.2, Array.length_toList, harr, hfold.1, hcl]
          · intro j y u hy hu
            rw [splice_get _ _ _ e2.2] at hy
            rw [Array.getElem?_toList, harr, hfold.2] at hu
            by_cases q : off ≤ j ∧ j < off + x.cells.length
            · rw [if_pos q] at hy
              rw [if_pos (by simp; omega)] at hu
              obtain ⟨u', hu', r⟩ := hv.cells.get hy
              simp only [Nat.add_zero] at hu
              rw [hu] at hu'; cases hu'; exact r
            · rw [if_neg q] at hy
              rw [if_neg (by simp; omega)] at hu
              obtain ⟨u', hu', r⟩ := hc.get hy
              rw [Array.getElem?_toList, hu] at hu'; cases hu'; exact r
        obtain ⟨r', hr', k⟩ := fill_sound hrs hnext h
        refine ⟨r', ?_, k⟩
        simp only [Instr.fill, e]
        rw [if_neg (by simp; omega)]
        exact hr'

def withLoc (ι : Map) (id : Nat) (l : Loc) : Map := fun b => if b = id then some l else ι b
theorem VR_ptr {ι : Map} {b o c s : Nat} (l : Loc) (h : ι b = some l) (h1 : c = l.blk) (h2 : s = l.shift + o) : VR ι (.ptr b o) (.pointer (some ⟨c, s, none⟩)) := by
  subst h1 h2; simp only [VR]; exact ⟨l, h, rfl⟩
theorem VR_sl {ι : Map} {b o c s n cap : Nat} (l : Loc) (h : ι b = some l) (h1 : c = l.blk) (h2 : s = l.shift + o) (h3 : n ≤ cap) (h4 : l.shift + o + cap * l.es ≤ l.room) : VR ι (.sl b o n) (.slice (some ⟨c, s, none⟩) n cap) := by
  subst h1 h2; simp only [VR]; exact ⟨l, cap, h, h3, h4, rfl⟩
omit [Env] in
theorem run_newRow (P : Program) (w : World) (e : TypeId) (c : Array Value) : (newRow e c).run P w = .ok ⟨w.heap.size, 0, none⟩ { w with heap := w.heap.push (.cells c e) } := rfl

section
variable {C : Ctx} {P : Program} (hC : C.Ok P) {ι : Map} {T : Tr AV} {a : Act} {H : Heap} {w : World}

theorem evParts_sound (hT : TR ι T a.tmps) : ∀ {xs : List (Nat × Operand)} {ps : List (Nat × AV)}, evParts T xs = some ps → PR ι ps (xs.map fun (i, x) => (i, a.eval x))
  | [], ps, h => by cases h; exact PR.nil
  | (i, x) :: xs, ps, h => by
    simp only [evParts] at h
    split at h
    · rename_i v ws e1 e2
      cases h
      obtain ⟨h1, h2⟩ := evParts_sound hT e2
      exact ⟨by simpa using h1, by simpa using VRs_cons (ev_sound hT e1) h2⟩
    · cases h

include hC
theorem alloc_sound (hw : WR ι H w) {id : Nat} (hid : ι id = none) (hn : id < H.next) {t : TypeId} {v : AV} {H' : Heap} (h : allocA C H id t = some (v, H')) :
    ∃ v' ι' w', (Instr.alloc t true (.tuple #[])).run P w = .ok v' w' ∧ VR ι' v v' ∧ Step (· = id) ι H w ι' H' w' := by
  unfold allocA at h
  split at h
  · rename_i i e1
    split at h
    · rename_i z e2
      split at h
      · rename_i H1 e3
        cases h
        obtain ⟨zv, hz, hzr⟩ := run_zeroValue hC (w := w) e1 e2
        have hs := step_new hw hid hn rfl e3 zv.cells t (by have := (hzr ι).len; simp at this; omega) (fun i x hx => by
          obtain ⟨u, hu, r⟩ := (hzr ι).get hx
          exact ⟨u, by simpa using hu, r⟩) w rfl rfl rfl rfl
        refine ⟨.pointer (some ⟨w.heap.size, 0, none⟩), _, _, ?_, ?_, hs⟩
        · simp only [Instr.alloc, Sem.run_bind, hz, Result.andThen_ok, newVar, run_newRow, Sem.run_pure]
        · exact VR_ptr ⟨w.heap.size, 0, zv.cells.size, i.size⟩ (by simp) rfl rfl
      · cases h
    · cases h
  · cases h
omit hC
theorem box_sound (hw : WR ι H w) {id : Nat} (hid : ι id = none) (hn : id < H.next) {t : TypeId} {x v : AV} {x' : Value} (hx : VR ι x x') {H' : Heap} (h : boxA H id x = some (v, H')) :
    ∃ v' ι' w', (Instr.box t x').run P w = .ok v' w' ∧ VR ι' v v' ∧ Step (· = id) ι H w ι' H' w' := by
  unfold boxA at h
  split at h
  · rename_i H1 e3
    cases h
    have hs := step_new hw hid hn rfl e3 x'.cells t (by have := hx.cells.len; simp at this; omega) (fun i x hx' => by
      obtain ⟨u, hu, r⟩ := hx.cells.get hx'
      exact ⟨u, by simpa using hu, r⟩) w rfl rfl rfl rfl
    refine ⟨.pointer (some ⟨w.heap.size, 0, none⟩), _, _, ?_, ?_, hs⟩
    · simp only [Instr.box, Sem.run_bind, Result.andThen_ok, newVar, run_newRow, Sem.run_pure]
    · exact VR_ptr ⟨w.heap.size, 0, x'.cells.size, x.cells.length⟩ (by simp) rfl rfl
  · cases h

include hC
theorem fields_places (fs : Array Field) (hk : fieldsKnown C fs = true) :
    ∃ places : Array (Nat × Nat), (fs.mapM fun f => do pure (f.offset, ← sizeOf f.type) : Sem (Array (Nat × Nat))).run P w = .ok places w ∧ ∀ (i : Nat) (q : Nat × Nat), fillPlaces C fs i = some q → places[i]? = some q := by
  have key : ∀ l : List Field, (l.all fun f => (C.ty f.type).isSome) = true →
      ∃ ps : List (Nat × Nat), (l.mapM fun f => do pure (f.offset, ← sizeOf f.type) : Sem (List (Nat × Nat))).run P w = .ok ps w ∧ ∀ (i : Nat) (q : Nat × Nat), placeOf C l[i]? = some q → ps[i]? = some q := by
    intro l
    induction l with
    | nil => intro _; exact ⟨[], by simp, fun i q h => by simp [placeOf] at h⟩
    | cons f l ih =>
      intro hl
      simp only [List.all_cons, Bool.and_eq_true] at hl
      obtain ⟨ps, h1, h2⟩ := ih hl.2
      obtain ⟨j, hj⟩ := Option.isSome_iff_exists.1 hl.1
      refine ⟨(f.offset, j.size) :: ps, by simp only [List.mapM_cons, Sem.run_bind, run_sizeOf hC hj, Result.andThen_ok, Sem.run_pure, h1], fun i q h => ?_⟩
      cases i with
      | zero => simp [placeOf, hj] at h; simp [h]
      | succ i => simp at h ⊢; exact h2 i q h
  obtain ⟨ps, h1, h2⟩ := key fs.toList hk
  refine ⟨ps.toArray, ?_, fun i q h => by simpa using h2 i q (by simpa only [fillPlaces, Array.getElem?_toList] using h)⟩
  have : (fs.mapM fun f => do pure (f.offset, ← sizeOf f.type) : Sem (Array (Nat × Nat))) = List.toArray <$> (fs.toList.mapM fun f => do pure (f.offset, ← sizeOf f.type)) := by
    rw [Array.mapM_eq_mapM_toList]
  rw [this]
  simp only [Sem.run_map, h1, Result.andThen_ok]

theorem build_sound {t : TypeId} {ps : List (Nat × AV)} {qs : Array (Nat × Value)} (hp : PR ι ps qs.toList) {v : AV} (h : buildA C t ps = some v) :
    ∃ v', (Instr.build t qs).run P w = .ok v' w ∧ VR ι v v' := by
  unfold buildA at h
  split at h
  · rename_i i e1
    split at h
    · rename_i z fs e2 e3
      cases e4 : fieldsKnown C fs with
      | false => rw [e4] at h; cases h
      | true =>
        rw [e4] at h
        simp only [cond_true] at h
        cases e5 : fillA (fillPlaces C fs) z ps with
        | none => rw [e5] at h; cases h
        | some r =>
          rw [e5] at h; cases h
          obtain ⟨zv, hz, hzr⟩ := run_zeroValue hC (w := w) e1 e2
          obtain ⟨places, hp1, hp2⟩ := fields_places hC (w := w) fs e4
          obtain ⟨r', hr', k⟩ := fill_sound hp (hzr ι) e5
          have hmono : ∀ (qs : List (Nat × Value)) (cs : Array Value) r, Instr.fill (fillPlaces C fs) cs qs = some r → Instr.fill (places[·]?) cs qs = some r := by
            intro qs
            induction qs with
            | nil => intro cs r h; exact h
            | cons q qs ih =>
              intro cs r h
              obtain ⟨i, u⟩ := q
              simp only [Instr.fill] at h ⊢
              cases e : fillPlaces C fs i with
              | none => rw [e] at h; cases h
              | some pl =>
                rw [e] at h
                rw [hp2 i pl e]
                simp only at h ⊢
                split at h
                · cases h
                · rename_i hh; rw [if_neg hh]; exact ih _ _ h
          refine ⟨.agg r', ?_, by simp only [VR]; exact ⟨r'.toList, k, by simp⟩⟩
          simp only [Instr.build, Sem.run_bind, hz, Result.andThen_ok, run_underlying hC e1, e3, hp1, hmono _ _ _ hr', Sem.run_pure]
    · rename_i z n e e2 e3
      split at h
      · rename_i j e4
        cases e5 : fillA (fun i => some (i * j.size, j.size)) z ps with
        | none => rw [e5] at h; cases h
        | some r =>
          rw [e5] at h; cases h
          obtain ⟨zv, hz, hzr⟩ := run_zeroValue hC (w := w) e1 e2
          obtain ⟨r', hr', k⟩ := fill_sound hp (hzr ι) e5
          refine ⟨.agg r', ?_, by simp only [VR]; exact ⟨r'.toList, k, by simp⟩⟩
          simp only [Instr.build, Sem.run_bind, hz, Result.andThen_ok, run_underlying hC e1, e3, run_sizeOf hC e4, hr', Sem.run_pure]
      · cases h
    · cases h
  · cases h
omit hC
omit [Env] in
theorem repeat_len (z : List AV) (n : Nat) : (repeatCells z n).length = n * z.length := by
  induction n with
  | zero => simp [repeatCells]
  | succ n ih => simp [repeatCells, ih, Nat.succ_mul]; omega
omit [Env] in
theorem repeat_get (z : List AV) : ∀ (n i : Nat), i < n * z.length → (repeatCells z n)[i]? = z[i % z.length]?
  | 0, i, h => by omega
  | n + 1, i, h => by
    simp only [repeatCells]
    by_cases e : i < z.length
    · rw [List.getElem?_append_left e, Nat.mod_eq_of_lt e]
    · have e' : z.length ≤ i := by omega
      rw [List.getElem?_append_right e', repeat_get z n (i - z.length) (by rw [Nat.succ_mul] at h; omega), Nat.mod_eq_sub_mod e']
theorem repeat_sound {ι : Map} {z : List AV} {zv : Array Value} (h : VRs ι z zv.toList) (n : Nat) (hz : zv.size ≠ 0) :
    VRs ι (repeatCells z n) ((Array.range (n * zv.size)).map (zv[· % zv.size]!)).toList := by
  have hl := h.len
  simp only [Array.length_toList] at hl
  refine VRs.of_get (by simp [repeat_len, hl]) fun i x v hx hv => ?_
  have hi : i < n * z.length := by
    have := (List.getElem?_eq_some_iff.1 hx).1
    rw [repeat_len] at this; exact this
  rw [repeat_get z n i hi] at hx
  obtain ⟨u, hu, r⟩ := h.get hx
  have hlt : i % zv.size < zv.size := Nat.mod_lt _ (by omega)
  rw [← hl] at hu hi
  simp [hi] at hv
  rw [Array.getElem?_toList] at hu
  simp [hlt] at hu hv
  rw [← hv, hu]; exact r
include hC
theorem buildSlice_sound (hw : WR ι H w) {id : Nat} (hid : ι id = none) (hn : id < H.next) {t : TypeId} {len : Nat} {ps : List (Nat × AV)} {qs : Array (Nat × Value)} (hp : PR ι ps qs.toList) {v : AV} {H' : Heap}
    (h : buildSliceA C H id t len ps = some (v, H')) :
    ∃ v' ι' w', (Instr.buildSlice t len qs).run P w = .ok v' w' ∧ VR ι' v v' ∧ Step (· = id) ι H w ι' H' w' := by
  unfold buildSliceA at h
  split at h
  · rename_i e si by_ ze zv0 e1
    split at h
    · rename_i j e2
      split at h
      · rename_i z e3
        cases e4 : (Nat.beq z.length j.size && !Nat.beq j.size 0 && Nat.ble (len * j.size) 16777216) with
        | false => rw [e4] at h; cases h
        | true =>
          rw [e4] at h
          simp only [cond_true] at h
          simp only [Bool.and_eq_true, Tr.nbeq, decide_eq_true_eq, Nat.ble_eq, Bool.not_eq_true', decide_eq_false_iff_not] at e4
          split at h
          · rename_i cs e5
            cases e6 : Nat.beq cs.length (len * j.size) with
            | false => rw [e6] at h; cases h
            | true =>
              rw [e6] at h
              simp only [cond_true] at h
              simp only [Tr.nbeq, decide_eq_true_eq] at e6
              split at h
              · rename_i H1 e7
                cases h
                obtain ⟨zv, hz, hzr⟩ := run_zeroValue hC (w := w) e2 e3
                have hzl := (hzr ι).len
                simp only [Array.length_toList] at hzl
                have hs0 : zv.cells.size = j.size := by omega
                obtain ⟨r', hr', k⟩ := fill_sound hp (repeat_sound (hzr ι) len (by omega)) e5
                rw [hs0] at hr'
                have hkl := k.len
                simp only [Array.length_toList] at hkl
                have hs := step_new hw hid hn rfl e7 r' e (by omega) (fun i x hx => by
                  obtain ⟨u, hu, r⟩ := k.get hx
                  exact ⟨u, by simpa using hu, r⟩) w rfl rfl rfl rfl
                refine ⟨.slice (some ⟨w.heap.size, 0, none⟩) len len, _, _, ?_, ?_, hs⟩
                · have h0 : ¬ len * j.size > 2 ^ 24 := by omega
                  simp only [Instr.buildSlice, Sem.run_bind, run_underlying hC e1, Result.andThen_ok, run_sizeOf hC e2]
                  by_cases q : len * j.size = 0
                  · have : r' = #[] := by
                      apply Array.eq_empty_of_size_eq_zero; omega
                    have hlen : len = 0 := by
                      rcases Nat.mul_eq_zero.1 q with q | q
                      · exact q
                      · exact (e4.1.2 q).elim
                    subst this
                    have h1 : (Array.range (len * j.size)).map (zv.cells[· % j.size]!) = #[] := by simp [q]
                    have h2 : (Array.range (len * j.size)).map ((#[] : Array Value)[· % (#[] : Array Value).size]!) = #[] := by simp [q]
                    rw [h1] at hr'
                    simp only [q, if_true]
                    rw [if_neg (by omega)]
                    rw [q] at h2
                    simp only [pure_bind, h2, hr', Sem.run_bind, run_newRow, Result.andThen_ok, Sem.run_pure]
                  · simp only [h0, q, if_false, Sem.run_bind, hz, Result.andThen_ok, Sem.run_pure, hs0, hr', run_newRow]
                · exact VR_sl ⟨w.heap.size, 0, r'.size, j.size⟩ (by simp) rfl rfl (Nat.le_refl _) (by simp; omega)
              · cases h
          · cases h
      · cases h
    · cases h
  · cases h
end
end
end Go.Ev
namespace Go.Ev
noncomputable section
open Go Go.RowKit
variable [Env]

section
variable {C : Ctx} {P : Program} (hC : C.Ok P) {ι : Map} {H : Heap} {w : World}

theorem intArith_sound {op : BinOp} {k : IntKind} {x y : Int} {v : AV} (ho : op ≠ .shl) (ho' : op ≠ .shr) (t : TypeId) (h : intArithA op k x y = some v) :
    ∃ v', (binOp op t (.int k x) (.int k y)).run P w = .ok v' w ∧ VR ι v v' := by
  cases op <;> simp only [intArithA] at h <;> first
    | exact absurd rfl ho
    | exact absurd rfl ho'
    | (cases h; simp only [VR]; exact ⟨_, by simp [binOp, Op.intArith, Op.intBits, Op.intCmp], rfl⟩)
    | (split at h
       · cases h
       · rename_i hy; cases h; simp only [VR]; exact ⟨_, by simp [binOp, Op.intDiv, hy], rfl⟩)
theorem shift_sound {op : BinOp} {k k' : IntKind} {x y : Int} {v : AV} (t : TypeId) (h : shiftA op k x y = some v) :
    ∃ v', (binOp op t (.int k x) (.int k' y)).run P w = .ok v' w ∧ VR ι v v' := by
  cases op <;> simp only [shiftA] at h <;> first
    | (cases h; done)
    | (split at h
       · cases h
       · rename_i hy; cases h; simp only [VR]; exact ⟨_, by simp [binOp, Op.shift, hy], rfl⟩)

omit [Env] in
theorem bytes_toList (s : List UInt8) : (ByteArray.mk ⟨s⟩).toList = s := by rw [ByteArray.toList_eq]
theorem stringOp_sound {op : BinOp} {x y : List UInt8} {v : AV} (t : TypeId) (h : stringOpA op x y = some v) :
    ∃ v', (binOp op t (.string ⟨⟨x⟩⟩) (.string ⟨⟨y⟩⟩)).run P w = .ok v' w ∧ VR ι v v' := by
  cases op <;> simp only [stringOpA] at h <;> first
    | (cases h; done)
    | (cases h; simp only [VR]; exact ⟨_, by simp [binOp, Op.stringOp]; try simp [bytes_toList], rfl⟩)
    | (cases e : Nat.ble (x.length + y.length) 9223372036854775807 with
       | false => rw [e] at h; cases h
       | true =>
         rw [e] at h; cases h
         have hle := Nat.le_of_ble_eq_true e
         simp only [VR]
         refine ⟨_, ?_, rfl⟩
         have hcat : (ByteArray.mk ⟨x⟩) ++ (ByteArray.mk ⟨y⟩) = ByteArray.mk ⟨x ++ y⟩ := by
           apply ByteArray.ext; simp [ByteArray.data_append]
         have hn : ¬ ((((ByteArray.mk ⟨x⟩).size + (ByteArray.mk ⟨y⟩).size : Nat) : Int) > IntKind.i64.max) := by
           have e1 : (ByteArray.mk ⟨x⟩).size = x.length := rfl
           have e2 : (ByteArray.mk ⟨y⟩).size = y.length := rfl
           have e3 : IntKind.i64.max = 9223372036854775807 := by decide
           rw [e1, e2, e3]; omega
         simp only [binOp, Op.stringOp, hn, if_false, hcat, Sem.run_pure])

theorem VR.ptr_inv {ι : Map} {b o : Nat} {v : Value} (h : VR ι (.ptr b o) v) : ∃ a, v = .pointer (some a) := by
  simp only [VR] at h; obtain ⟨l, _, h⟩ := h; exact ⟨_, h⟩
theorem VR.sl_inv {ι : Map} {b o n : Nat} {v : Value} (h : VR ι (.sl b o n) v) : ∃ a c, v = .slice (some a) n c := by
  simp only [VR] at h; obtain ⟨l, c, _, _, _, h⟩ := h; exact ⟨_, _, h⟩
theorem VR.map_inv {ι : Map} {b : Nat} {v : Value} (h : VR ι (.map b) v) : ∃ a, v = .map (some a) := by
  simp only [VR] at h; obtain ⟨l, _, h⟩ := h; exact ⟨_, h⟩
theorem VR.iface_inv {ι : Map} {t : TypeId} {x : AV} {v : Value} (h : VR ι (.iface t x) v) : ∃ u, v = .iface t u := by
  simp only [VR] at h; obtain ⟨u, _, h⟩ := h; exact ⟨_, h⟩
theorem VR.fn_inv {ι : Map} {f : Fn} {a c : List AV} {v : Value} (h : VR ι (.fn f a c) v) : ∃ a' c', v = .func f a' c' := by
  simp only [VR] at h; obtain ⟨a', c', _, _, h⟩ := h; exact ⟨_, _, h⟩
omit [Env] in
theorem cmp_sound {op : BinOp} {k : IntKind} {x y : Int} (t : TypeId) (h : op = .eql ∨ op = .neq ∨ op = .lss ∨ op = .leq ∨ op = .gtr ∨ op = .geq) :
    (binOp op t (.int k x) (.int k y)).run P w = .ok (.bool (cmpVal op x y)) w := by
  rcases h with rfl | rfl | rfl | rfl | rfl | rfl <;> simp [binOp, Op.intCmp, cmpVal]
theorem num_sound {x : AV} {x' : Value} (hx : VR ι x x') {k : IntKind} {e : Exp} (h : numOf x = some (k, e)) : x' = .int k e.eval := by
  cases x <;> simp only [numOf] at h <;> try (cases h; done)
  · cases h; simpa only [VR, Exp.eval] using hx
  · cases h; simpa only [VR] using hx
omit [Env] in
theorem u8_back (z : Int) : ((UInt8.ofNat (IntKind.u8.wrap z).toNat).toNat : Int) = IntKind.u8.wrap z := by
  have : IntKind.u8.wrap z = z % 256 := by simp [IntKind.wrap, IntKind.bits, IntKind.signed]
  rw [this]
  simp only [UInt8.toNat_ofNat']
  omega
theorem Exp.byte_lit (n : Int) : Exp.byte (.lit n) = UInt8.ofNat (IntKind.u8.wrap n).toNat := by simp only [Exp.byte, Exp.eval]
theorem litS_sound : ∀ {l : List Exp} {s : List UInt8}, litS l = some s → l.map Exp.byte = s
  | [], s, h => by simp only [litS] at h; cases h; rfl
  | e :: l, s, h => by
    cases e <;> simp only [litS] at h <;> try (cases h; done)
    split at h
    · rename_i n s e1
      cases h
      rw [List.map_cons, litS_sound e1, Exp.byte_lit]
    · cases h
theorem mkS_vr {ι : Map} {l : List Exp} {v : Value} : VR ι (mkS l) v ↔ v = .string ⟨⟨l.map Exp.byte⟩⟩ := by
  unfold mkS
  split
  · rename_i s e
    rw [litS_sound e]; simp only [VR]
  · simp only [VR]
theorem byteAt_vr {ι : Map} (e : Exp) : VR ι (byteAt e) (.int .u8 (Exp.byte e).toNat) := by
  have : ((Exp.byte e).toNat : Int) = IntKind.u8.wrap e.eval := by unfold Exp.byte; exact u8_back _
  rw [this]
  unfold byteAt
  split <;> simp only [VR, Exp.eval]
include hC
theorem sxsEq_sound : ∀ {l : List Exp} {s : List UInt8} {b : Bool}, sxsEq C l s = some b → (l.map Exp.byte == s) = b
  | [], [], b, h => by simp only [sxsEq] at h; cases h; rfl
  | [], _ :: _, b, h => by simp only [sxsEq] at h; cases h; rfl
  | _ :: _, [], b, h => by simp only [sxsEq] at h; cases h; rfl
  | e :: l, x :: s, b, h => by
    have key : ∀ r, (match e with | .lit n => some (UInt8.ofNat (IntKind.u8.wrap n).toNat == x) | e => C.orc .eql (.conv .u8 e) (.lit x.toNat)) = some r → (Exp.byte e == x) = r := fun r hr => by
      split at hr
      · cases hr; rw [Exp.byte_lit]
      · have := hC.orc _ _ _ _ hr
        simp only [cmpVal, Exp.eval] at this
        rw [← this]
        have e1 : ((Exp.byte e).toNat : Int) = IntKind.u8.wrap e.eval := by unfold Exp.byte; exact u8_back _
        rw [← e1]
        by_cases q : Exp.byte e = x
        · simp [q]
        · have : ¬ ((Exp.byte e).toNat : Int) = x.toNat := fun k => q (UInt8.toNat_inj.1 (by omega))
          rw [beq_eq_false_iff_ne.2 q, beq_eq_false_iff_ne.2 this]
    simp only [sxsEq] at h
    split at h
    · rename_i e1
      have := key _ e1
      rw [List.map_cons, List.cons_beq_cons, this, Bool.true_and]
      exact sxsEq_sound h
    · rename_i e1
      cases h
      have := key _ e1
      rw [List.map_cons, List.cons_beq_cons, this, Bool.false_and]
    · cases h
theorem sxsOp_sound {op : BinOp} {x : List Exp} {y : List UInt8} {v : AV} (t : TypeId) (h : sxsOp C op x y = some v) :
    ∃ v', (binOp op t (.string ⟨⟨x.map Exp.byte⟩⟩) (.string ⟨⟨y⟩⟩)).run P w = .ok v' w ∧ VR ι v v' := by
  cases op <;> simp only [sxsOp] at h <;> try (cases h; done)
  · rw [Option.map_eq_some_iff] at h
    obtain ⟨r, hr, rfl⟩ := h
    have := sxsEq_sound hC hr
    obtain ⟨v', h1, h2⟩ := stringOp_sound (P := P) (ι := ι) (w := w) t (show stringOpA .eql (x.map Exp.byte) y = some (.bool r) by simp only [stringOpA]; rw [this])
    exact ⟨v', h1, h2⟩
  · rw [Option.map_eq_some_iff] at h
    obtain ⟨r, hr, rfl⟩ := h
    have := sxsEq_sound hC hr
    obtain ⟨v', h1, h2⟩ := stringOp_sound (P := P) (ι := ι) (w := w) t (show stringOpA .neq (x.map Exp.byte) y = some (.bool !r) by simp only [stringOpA]; rw [this])
    exact ⟨v', h1, h2⟩
omit hC in
theorem litsOf_byte : ∀ s : List UInt8, (litsOf s).map Exp.byte = s
  | [] => rfl
  | b :: s => by
    simp only [litsOf, List.map_cons]
    rw [litsOf_byte s]
    congr 1
    have h1 : ((Exp.byte (.lit b.toNat)).toNat : Int) = IntKind.u8.wrap b.toNat := by rw [Exp.byte_lit]; exact u8_back _
    have h2 : IntKind.u8.wrap (b.toNat : Int) = b.toNat := by
      have := b.toNat_lt
      simp [IntKind.wrap, IntKind.bits, IntKind.signed]; omega
    rw [h2] at h1
    exact UInt8.toNat_inj.1 (by omega)
omit hC in
theorem sxsCat_sound {op : BinOp} {x : List UInt8} {y : List Exp} {v : AV} (t : TypeId) (h : sxsCat op x y = some v) :
    ∃ v', (binOp op t (.string ⟨⟨x⟩⟩) (.string ⟨⟨y.map Exp.byte⟩⟩)).run P w = .ok v' w ∧ VR ι v v' := by
  cases op <;> simp only [sxsCat] at h <;> try (cases h; done)
  cases e : Nat.ble (x.length + y.length) 9223372036854775807 with
  | false => rw [e] at h; cases h
  | true =>
    rw [e] at h; cases h
    obtain ⟨v', h1, h2⟩ := stringOp_sound (P := P) (ι := ι) (w := w) t (show stringOpA .add x (y.map Exp.byte) = some (.str (x ++ y.map Exp.byte)) by simp only [stringOpA, List.length_map, e, cond_true])
    refine ⟨v', h1, ?_⟩
    simp only [VR] at h2 ⊢
    rw [h2, List.map_append, litsOf_byte]
theorem num_vr {ι : Map} {k : IntKind} {e : Exp} : VR ι (C.num k e) (.int k e.eval) := by
  unfold Ctx.num
  split
  · rename_i n h; rw [hC.fix e n h]; simp only [VR]
  · simp only [VR]
theorem symOp_sound {op : BinOp} {k k' : IntKind} {a b : Exp} {v : AV} (t : TypeId) (h : symOp C op k k' a b = some v) :
    ∃ v', (binOp op t (.int k a.eval) (.int k' b.eval)).run P w = .ok v' w ∧ VR ι v v' := by
  cases op <;> simp only [symOp] at h
  case shl =>
    split at h
    · rename_i y
      split at h
      · cases h
      · rename_i hy; cases h; simp only [VR, Exp.eval]; exact ⟨_, by simp [binOp, Op.shift, hy, shVal], rfl⟩
    · cases h
  case shr =>
    split at h
    · rename_i y
      split at h
      · cases h
      · rename_i hy; cases h; simp only [VR, Exp.eval]; exact ⟨_, by simp [binOp, Op.shift, hy, shVal], rfl⟩
    · cases h
  case quo =>
    split at h
    · rename_i hk; subst hk
      split at h
      · rename_i ho
        cases h
        have := hC.orc _ _ _ _ ho
        simp only [cmpVal, Exp.eval, beq_eq_false_iff_ne, ne_eq] at this
        refine ⟨_, ?_, num_vr hC⟩
        simp [binOp, Op.intDiv, this, opVal, Exp.eval]
      · cases h
    · cases h
  case rem =>
    split at h
    · rename_i hk; subst hk
      split at h
      · rename_i ho
        cases h
        have := hC.orc _ _ _ _ ho
        simp only [cmpVal, Exp.eval, beq_eq_false_iff_ne, ne_eq] at this
        refine ⟨_, ?_, num_vr hC⟩
        simp [binOp, Op.intDiv, this, opVal, Exp.eval]
      · cases h
    · cases h
  all_goals (split at h <;> try (cases h; done))
  all_goals (rename_i hk; subst hk)
  all_goals (first
    | (cases h; simp only [VR, Exp.eval_mk]; exact ⟨_, by simp [binOp, Op.intArith, Op.intBits, opVal], rfl⟩)
    | skip)
  all_goals (
    rw [Option.map_eq_some_iff] at h
    obtain ⟨r, hr, rfl⟩ := h
    have := hC.orc _ _ _ _ hr
    simp only [VR]
    refine ⟨_, ?_, rfl⟩
    rw [cmp_sound t (by simp), this])
theorem equal_sound {t : TypeId} {i : TI} (ht : C.ty t = some i) {x y : AV} {x' y' : Value} (hx : VR ι x x') (hy : VR ι y y') {b : Bool} (h : equalA i.desc x y = some b) :
    (Op.equal t x' y').run P w = .ok b w := by
  have hu := run_underlying hC (w := w) ht
  unfold Op.equal Op.maxDepth
  rw [show (10000 : Nat) = 9999 + 1 from rfl]
  generalize 9999 = dd
  cases x <;> cases y <;> simp only [equalA] at h <;> try (cases h; done)
  case nilif.nilif =>
    split at h
    · rename_i ms hd
      split at h
      · cases h
        simp only [VR] at hx hy; subst hx hy
        rw [hd] at hu; unfold Op.equalIn; simp [hu]
      · cases h
    · cases h
  all_goals (split at h <;> try (cases h; done))
  all_goals (rename_i hd; cases h)
  all_goals (first | (obtain ⟨a1, rfl⟩ := hx.ptr_inv) | (obtain ⟨a1, c1, rfl⟩ := hx.sl_inv) | (obtain ⟨a1, rfl⟩ := hx.map_inv) | (obtain ⟨a1, c1, rfl⟩ := hx.fn_inv) | (obtain ⟨a1, rfl⟩ := hx.iface_inv) | (simp only [VR] at hx; subst hx))
  all_goals (first | (obtain ⟨a2, rfl⟩ := hy.ptr_inv) | (obtain ⟨a2, c2, rfl⟩ := hy.sl_inv) | (obtain ⟨a2, rfl⟩ := hy.map_inv) | (obtain ⟨a2, c2, rfl⟩ := hy.fn_inv) | (obtain ⟨a2, rfl⟩ := hy.iface_inv) | (simp only [VR] at hy; subst hy))
  all_goals (rw [hd] at hu; unfold Op.equalIn; simp [hu])

theorem binOp_sound {op : BinOp} {t : TypeId} {x y : AV} {x' y' : Value} (hx : VR ι x x') (hy : VR ι y y') {v : AV} (h : binOpA C op t x y = some v) (ox oy : Operand) :
    ∃ v', (do eqGuard op t ox oy x' y'; binOp op t x' y' : Sem Value).run P w = .ok v' w ∧ VR ι v v' := by
  have key : (eqGuard op t ox oy x' y').run P w = .ok () w ∧ ∃ v', (binOp op t x' y').run P w = .ok v' w ∧ VR ι v v' := by
    unfold binOpA at h
    split at h
    · rename_i k a k' b
      simp only [VR] at hx hy; subst hx hy
      refine ⟨by unfold eqGuard; cases op <;> simp, ?_⟩
      split at h
      · exact shift_sound t h
      · exact shift_sound t h
      · rename_i h1 h2
        split at h
        · rename_i hk; subst hk; exact intArith_sound h1 h2 t h
        · cases h
    · rename_i a b
      simp only [VR] at hx hy; subst hx hy
      exact ⟨by unfold eqGuard; cases op <;> simp, stringOp_sound t h⟩
    · rename_i a b
      simp only [VR] at hx hy; subst hx hy
      exact ⟨by unfold eqGuard; cases op <;> simp, sxsOp_sound hC t h⟩
    · rename_i a b
      simp only [VR] at hx hy; subst hx hy
      exact ⟨by unfold eqGuard; cases op <;> simp, sxsCat_sound t h⟩
    · rename_i hno1 hno2
      split at h
      · rename_i k a k' b e1 e2
        rw [num_sound hx e1, num_sound hy e2]
        exact ⟨by unfold eqGuard; cases op <;> simp, symOp_sound hC t h⟩
      · split at h
        · rename_i i ht
          cases e : equalA i.desc x y with
          | none => rw [e] at h; cases h
          | some b =>
            rw [e] at h; cases h
            have he := equal_sound hC (w := w) ht hx hy e
            have hg : (eqGuard .eql t ox oy x' y').run P w = .ok () w ∧ (binOp .eql t x' y').run P w = .ok (.bool b) w := by
              cases x <;> cases y <;> simp only [equalA] at e <;> try (cases e; done)
              case nilif.nilif =>
                simp only [VR] at hx hy; subst hx hy
                split at e
                · rename_i ms hd
                  split at e
                  · rename_i hm
                    have hu := run_underlying hC (w := w) ht
                    rw [hd] at hu
                    have hg : (Op.eqGuardIn Op.maxDepth t .nilIface .nilIface).run P w = .ok false w := by
                      unfold Op.maxDepth
                      rw [show (10000 : Nat) = 9999 + 1 from rfl]
                      generalize 9999 = dd
                      unfold Op.eqGuardIn; simp [hu, hm]
                    refine ⟨?_, by simp [binOp, he]⟩
                    unfold eqGuard
                    simp only [Bool.not_true, Bool.false_eq_true, if_false]
                    split
                    · rfl
                    · simp [hg]
                  · cases e
                · cases e
              all_goals (first | (obtain ⟨a1, rfl⟩ :=  hx.ptr_inv) | (obtain ⟨a1, c1, rfl⟩ := hx.sl_inv) | (obtain ⟨a1, rfl⟩ := hx.map_inv) | (obtain ⟨a1, c1, rfl⟩ := hx.fn_inv) | (obtain ⟨a1, rfl⟩ := hx.iface_inv) | (simp only [VR] at hx; subst hx))
              all_goals (first | (obtain ⟨a2, rfl⟩ := hy.ptr_inv) | (obtain ⟨a2, c2, rfl⟩ := hy.sl_inv) | (obtain ⟨a2, rfl⟩ := hy.map_inv) | (obtain ⟨a2, c2, rfl⟩ := hy.fn_inv) | (obtain ⟨a2, rfl⟩ := hy.iface_inv) | (simp only [VR] at hy; subst hy))
              all_goals (exact ⟨by unfold eqGuard; simp, by simp [binOp, he]⟩)
            exact ⟨hg.1, _, hg.2, by simp only [VR]⟩
        · rename_i i ht
          cases e : equalA i.desc x y with
          | none => rw [e] at h; cases h
          | some b =>
            rw [e] at h; cases h
            have he := equal_sound hC (w := w) ht hx hy e
            have hg : (eqGuard .neq t ox oy x' y').run P w = .ok () w ∧ (binOp .neq t x' y').run P w = .ok (.bool !b) w := by
              cases x <;> cases y <;> simp only [equalA] at e <;> try (cases e; done)
              case nilif.nilif =>
                simp only [VR] at hx hy; subst hx hy
                split at e
                · rename_i ms hd
                  split at e
                  · rename_i hm
                    have hu := run_underlying hC (w := w) ht
                    rw [hd] at hu
                    have hg : (Op.eqGuardIn Op.maxDepth t .nilIface .nilIface).run P w = .ok false w := by
                      unfold Op.maxDepth
                      rw [show (10000 : Nat) = 9999 + 1 from rfl]
                      generalize 9999 = dd
                      unfold Op.eqGuardIn; simp [hu, hm]
                    refine ⟨?_, by simp [binOp, he]⟩
                    unfold eqGuard
                    simp only [Bool.not_true, Bool.false_eq_true, if_false]
                    split
                    · rfl
                    · simp [hg]
                  · cases e
                · cases e
              all_goals (first | (obtain ⟨a1, rfl⟩ :=  hx.ptr_inv) | (obtain ⟨a1, c1, rfl⟩ := hx.sl_inv) | (obtain ⟨a1, rfl⟩ := hx.map_inv) | (obtain ⟨a1, c1, rfl⟩ := hx.fn_inv) | (obtain ⟨a1, rfl⟩ := hx.iface_inv) | (simp only [VR] at hx; subst hx))
              all_goals (first | (obtain ⟨a2, rfl⟩ := hy.ptr_inv) | (obtain ⟨a2, c2, rfl⟩ := hy.sl_inv) | (obtain ⟨a2, rfl⟩ := hy.map_inv) | (obtain ⟨a2, c2, rfl⟩ := hy.fn_inv) | (obtain ⟨a2, rfl⟩ := hy.iface_inv) | (simp only [VR] at hy; subst hy))
              all_goals (exact ⟨by unfold eqGuard; simp, by simp [binOp, he]⟩)
            exact ⟨hg.1, _, hg.2, by simp only [VR]⟩
        · cases h
  obtain ⟨h1, v', h2, h3⟩ := key
  exact ⟨v', by simp [h1, h2], h3⟩
omit hC
theorem unOp_sound {op : UnOp} {x : AV} {x' : Value} (hx : VR ι x x') {v : AV} (h : unOpA op x = some v) : ∃ v', (Op.unary op x').run P w = .ok v' w ∧ VR ι v v' := by
  unfold unOpA at h
  split at h
  · rename_i k n
    simp only [VR] at hx; subst hx; cases h
    simp only [VR]; exact ⟨_, by simp [Op.unary, Op.intArith], rfl⟩
  · rename_i k n
    simp only [VR] at hx; subst hx
    obtain ⟨v', h1, h2⟩ := intArith_sound (P := P) (w := w) (ι := ι) (by simp) (by simp) 0 h
    exact ⟨v', by simpa [Op.unary, binOp] using h1, h2⟩
  · rename_i b
    simp only [VR] at hx; subst hx; cases h
    simp only [VR]; exact ⟨_, by simp [Op.unary], rfl⟩
  · cases h
include hC
theorem convert_sound {src dst : TypeId} {x : AV} {x' : Value} (hx : VR ι x x') {v : AV} (h : convertA C src dst x = some v) : ∃ v', (convert src dst x').run P w = .ok v' w ∧ VR ι v v' := by
  unfold convertA at h
  split at h
  · rename_i i j e1 e2
    have h1 := run_underlying hC (w := w) e1
    have h2 := run_underlying hC (w := w) e2
    split at h
    · rename_i k k' n hd
      simp only [VR] at hx; subst hx
      split at h
      · cases h
      · cases h
      · cases h
      · cases h
        rename_i n1 n2 n3
        rw [hd] at h2
        simp only [VR]
        refine ⟨.int k (k.wrap n), ?_, rfl⟩
        simp only [convert, Sem.run_bind, h1, h2, Result.andThen_ok]
        cases hi : i.desc <;> first | (simp [Conv.intToInt]; done) | (simp_all; done)
    · rename_i k k' n hd
      simp only [VR] at hx; subst hx
      split at h
      · cases h
      · cases h
      · cases h
      · cases h
        rename_i n1 n2 n3
        rw [hd] at h2
        simp only [VR, Exp.eval]
        refine ⟨.int k (k.wrap n.eval), ?_, rfl⟩
        simp only [convert, Sem.run_bind, h1, h2, Result.andThen_ok]
        cases hi : i.desc <;> first | (simp [Conv.intToInt]; done) | (simp_all; done)
    · rename_i s hd
      simp only [VR] at hx; subst hx
      split at h
      · rename_i hi
        cases h
        rw [hd] at h2; rw [hi] at h1
        simp only [VR]
        exact ⟨_, by simp [convert, h1, h2], rfl⟩
      · cases h
    · cases h
  · cases h
theorem len_sound {t : TypeId} {i : TI} (ht : C.ty t = some i) {x : AV} {x' : Value} (hx : VR ι x x') {v : AV} (h : lenA i.desc x = some v) (tys : Array TypeId) (h0 : tys[0]? = some t) (ty : TypeId) (args : Array Value) (ha : args[0]? = some x') :
    ∃ v', (Builtin.len_ tys ty args).run P w = .ok v' w ∧ VR ι v v' := by
  have h1 := run_underlying hC (w := w) ht
  unfold lenA at h
  split at h
  all_goals (try (cases h; done))
  · rename_i s hd
    simp only [VR] at hx; subst hx; cases h; rw [hd] at h1
    simp only [VR]; exact ⟨.int .i64 s.length, by simp [Builtin.len_, h0, ha, h1, goInt]; rfl, rfl⟩
  · rename_i s hd
    simp only [VR] at hx; subst hx; cases h; rw [hd] at h1
    have hsz : (ByteArray.mk ⟨s.map Exp.byte⟩).size = s.length := by show (s.map Exp.byte).length = _; simp
    simp only [VR]; exact ⟨.int .i64 s.length, by simp [Builtin.len_, h0, ha, h1, goInt, hsz], rfl⟩
  · rename_i e hd
    simp only [VR] at hx; subst hx; cases h; rw [hd] at h1
    simp only [VR]; exact ⟨_, by simp [Builtin.len_, h0, ha, h1, goInt], rfl⟩
  · rename_i e b o n hd
    simp only [VR] at hx; obtain ⟨l, cap, _, _, _, rfl⟩ := hx; cases h; rw [hd] at h1
    simp only [VR]; exact ⟨_, by simp [Builtin.len_, h0, ha, h1, goInt], rfl⟩
  · rename_i n e hd
    cases h; rw [hd] at h1
    simp only [VR]; exact ⟨_, by simp [Builtin.len_, h0, ha, h1, goInt], rfl⟩
  · rename_i k e hd
    simp only [VR] at hx; subst hx; cases h; rw [hd] at h1
    simp only [VR]; exact ⟨_, by simp [Builtin.len_, h0, ha, h1, goInt], rfl⟩
theorem field_sound {t : TypeId} {f : Nat} {x : AV} {x' : Value} (hx : VR ι x x') {v : AV} (h : fieldA C t f x = some v) : ∃ v', (Instr.field t x' f).run P w = .ok v' w ∧ VR ι v v' := by
  unfold fieldA at h
  split at h
  · rename_i fs si by_ ze zv0 cs e1
    have h1 := run_underlying hC (w := w) e1
    split at h
    · rename_i fd e2
      split at h
      · rename_i j e3
        simp only [VR] at hx
        obtain ⟨cs', hcs, rfl⟩ := hx
        obtain ⟨v', h2, h3⟩ := part_sound hC (w := w) e3 hcs h
        exact ⟨v', by simp [Instr.field, h1, e2, asAgg, h2], h3⟩
      · cases h
    · cases h
  · cases h
theorem fieldAddr_sound {t : TypeId} {f : Nat} {x : AV} {x' : Value} (hx : VR ι x x') {v : AV} (h : fieldAddrA C t f x = some v) : ∃ v', (Instr.fieldAt t x' f).run P w = .ok v' w ∧ VR ι v v' := by
  unfold fieldAddrA at h
  split at h
  · rename_i fs si by_ ze zv0 b o e1
    have h1 := run_underlying hC (w := w) e1
    split at h
    · rename_i fd e2
      split at h
      · rename_i j e3
        simp only [VR] at hx
        obtain ⟨l, hb, rfl⟩ := hx
        cases e4 : Nat.beq j.size 0 with
        | true => rw [e4] at h; cases h
        | false =>
          rw [e4] at h; cases h
          simp only [Tr.nbeq, decide_eq_false_iff_not] at e4
          refine ⟨.pointer (some ⟨l.blk, l.shift + o + fd.offset, none⟩), ?_, VR_ptr l hb rfl (by omega)⟩
          simp [Instr.fieldAt, h1, e2, Instr.sureAddr, fieldPlace, run_sizeOf hC e3, e4, add_addr]
      · cases h
    · cases h
  · cases h
theorem indexAddr_sound {t : TypeId} {x ix : AV} {x' ix' : Value} (hx : VR ι x x') (hi : VR ι ix ix') {v : AV} (h : indexAddrA C t x ix = some v) : ∃ v', (Instr.indexAt t x' ix').run P w = .ok v' w ∧ VR ι v v' := by
  unfold indexAddrA at h
  split at h
  · rename_i i k n e1
    have h1 := run_underlying hC (w := w) e1
    simp only [VR] at hi; subst hi
    split at h
    · rename_i e b o len hd
      split at h
      · rename_i j e2
        split at h
        · rename_i hin
          cases h
          simp only [VR] at hx
          obtain ⟨l, cap, hb, _, _, rfl⟩ := hx
          rw [hd] at h1
          refine ⟨.pointer (some ⟨l.blk, l.shift + o + n.toNat * j.size, none⟩), ?_, VR_ptr l hb rfl (by omega)⟩
          simp [Instr.indexAt, asIntOf, h1, hin, run_sizeOf hC e2, add_addr]
        · cases h
      · cases h
    · rename_i len e b o hd
      split at h
      · rename_i j e2
        split at h
        · rename_i hin
          cases h
          simp only [VR] at hx
          obtain ⟨l, hb, rfl⟩ := hx
          rw [hd] at h1
          refine ⟨.pointer (some ⟨l.blk, l.shift + o + n.toNat * j.size, none⟩), ?_, VR_ptr l hb rfl (by omega)⟩
          simp [Instr.indexAt, asIntOf, h1, hin, run_sizeOf hC e2, add_addr, Instr.sureAddr]
        · cases h
      · cases h
    · cases h
  · cases h
theorem index_sound {t : TypeId} {x ix : AV} {x' ix' : Value} (hx : VR ι x x') (hi : VR ι ix ix') {v : AV} (h : indexA C t x ix = some v) : ∃ v', (Instr.index t x' ix').run P w = .ok v' w ∧ VR ι v v' := by
  unfold indexA at h
  split at h
  · rename_i i k n e1
    have h1 := run_underlying hC (w := w) e1
    simp only [VR] at hi; subst hi
    split at h
    · rename_i len e cs hd
      split at h
      · rename_i j e2
        split at h
        · rename_i hin
          simp only [VR] at hx
          obtain ⟨cs', hcs, rfl⟩ := hx
          rw [hd] at h1
          obtain ⟨v', h2, h3⟩ := part_sound hC (w := w) e2 hcs h
          exact ⟨v', by simp [Instr.index, asIntOf, h1, hin, run_sizeOf hC e2, h2], h3⟩
        · cases h
      · cases h
    · rename_i s hd
      split at h
      · rename_i h0
        split at h
        · rename_i b hb
          cases h
          simp only [VR] at hx; subst hx
          rw [hd] at h1
          simp only [VR]
          refine ⟨.int .u8 b.toNat, ?_, rfl⟩
          have hsz : n.toNat < s.length := (List.getElem?_eq_some_iff.1 hb).1
          have hg : (ByteArray.mk ⟨s⟩)[n.toNat]? = some b := by
            have hz : n.toNat < (ByteArray.mk ⟨s⟩).size := hsz
            rw [getElem?_pos (ByteArray.mk ⟨s⟩) n.toNat hz]
            have := (List.getElem?_eq_some_iff.1 hb).2
            exact congrArg some this
          simp [Instr.index, asIntOf, h1, h0, hg]
        · cases h
      · cases h
    · rename_i s hd
      split at h
      · rename_i h0
        split at h
        · rename_i b hb
          cases h
          simp only [VR] at hx; subst hx
          rw [hd] at h1
          refine ⟨.int .u8 (Exp.byte b).toNat, ?_, byteAt_vr b⟩
          have hb' : (s.map Exp.byte)[n.toNat]? = some (Exp.byte b) := by rw [List.getElem?_map, hb]; rfl
          have hsz : n.toNat < (s.map Exp.byte).length := (List.getElem?_eq_some_iff.1 hb').1
          have hg : (ByteArray.mk ⟨s.map Exp.byte⟩)[n.toNat]? = some (Exp.byte b) := by
            have hz : n.toNat < (ByteArray.mk ⟨s.map Exp.byte⟩).size := hsz
            rw [getElem?_pos (ByteArray.mk ⟨s.map Exp.byte⟩) n.toNat hz]
            have := (List.getElem?_eq_some_iff.1 hb').2
            exact congrArg some this
          simp [Instr.index, asIntOf, h1, h0, hg]
        · cases h
      · cases h
    · cases h
  · cases h
end
end
end Go.Ev
