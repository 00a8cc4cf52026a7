import Derived.Test.YtldgccbiikahgabGreatEvRel
namespace Go.Ev
open Go Go.RowKit
variable [Env]

/-- the slots hold what the abstract ones say -/
def TR (ι : Map) (T : Tr AV) (tmps : Array Value) : Prop := ∀ t x, T.get t = some x → ∃ v, tmps[t]? = some v ∧ VR ι x v
theorem TR.ext {ι ι' : Map} {T : Tr AV} {tmps : Array Value} (h : Ext ι ι') (r : TR ι T tmps) : TR ι' T tmps :=
  fun t x e => let ⟨v, hv, q⟩ := r t x e; ⟨v, hv, q.ext h⟩

theorem VRs_nil {ι : Map} : VRs ι [] [] := by simp [VRs]
theorem VRs_cons {ι : Map} {x : AV} {v : Value} {xs : List AV} {vs : List Value} (h : VR ι x v) (k : VRs ι xs vs) : VRs ι (x :: xs) (v :: vs) := by
  simp only [VRs]; exact ⟨v, vs, h, k, rfl⟩

theorem ofCell_sound {v : Value} {x : AV} (h : ofCell v = some x) (ι : Map) : VR ι x v := by
  unfold ofCell at h
  split at h <;> first
    | (cases h; simp only [VR]; done)
    | (cases h)
    | skip
theorem ofCells_sound : ∀ {vs : List Value} {xs : List AV}, ofCells vs = some xs → ∀ ι : Map, VRs ι xs vs
  | [], xs, h, ι => by simp only [ofCells] at h; cases h; exact VRs_nil
  | v :: vs, xs, h, ι => by
    simp only [ofCells] at h
    split at h
    · rename_i x ys e1 e2
      cases h; exact VRs_cons (ofCell_sound e1 ι) (ofCells_sound e2 ι)
    · cases h
theorem ofValue_sound {v : Value} {x : AV} (h : ofValue v = some x) (ι : Map) : VR ι x v := by
  unfold ofValue at h
  split at h
  · rename_i cs
    cases e : ofCells cs.toList with
    | none => rw [e] at h; cases h
    | some xs => rw [e] at h; cases h; simp only [VR]; exact ⟨cs.toList, ofCells_sound e ι, by simp⟩
  · rename_i cs
    cases e : ofCells cs.toList with
    | none => rw [e] at h; cases h
    | some xs => rw [e] at h; cases h; simp only [VR]; exact ⟨cs.toList, ofCells_sound e ι, by simp⟩
  · rename_i f first captured
    cases e : (first.toList.isEmpty && captured.toList.isEmpty) with
    | false => rw [e] at h; cases h
    | true =>
      rw [e] at h; cases h
      simp at e
      obtain ⟨e1, e2⟩ := e
      subst e1 e2
      simp only [VR]; exact ⟨[], [], VRs_nil, VRs_nil, rfl⟩
  · exact ofCell_sound h ι

theorem VR.cells {ι : Map} {x : AV} {v : Value} (h : VR ι x v) : VRs ι x.cells v.cells.toList := by
  cases x <;> simp only [VR] at h
  case agg cs => obtain ⟨cs', hc, rfl⟩ := h; simpa [AV.cells, Value.cells] using hc
  case ptr b o => obtain ⟨l, e, rfl⟩ := h; exact VRs_cons (by simp only [VR]; exact ⟨l, e, rfl⟩) VRs_nil
  case sl b o n => obtain ⟨l, cap, e, h1, h2, rfl⟩ := h; exact VRs_cons (by simp only [VR]; exact ⟨l, cap, e, h1, h2, rfl⟩) VRs_nil
  case map b => obtain ⟨l, e, rfl⟩ := h; exact VRs_cons (by simp only [VR]; exact ⟨l, e, rfl⟩) VRs_nil
  case fn f a c => obtain ⟨a', c', ha, hc, rfl⟩ := h; exact VRs_cons (by simp only [VR]; exact ⟨a', c', ha, hc, rfl⟩) VRs_nil
  case iface t y => obtain ⟨y', hy, rfl⟩ := h; exact VRs_cons (by simp only [VR]; exact ⟨y', hy, rfl⟩) VRs_nil
  case tup vs => obtain ⟨vs', hv, rfl⟩ := h; exact VRs_cons (by simp only [VR]; exact ⟨vs', hv, rfl⟩) VRs_nil
  case any => cases v <;> first | (cases h; done) | exact VRs_cons (by simp only [VR]; exact h) VRs_nil
  case anyb => obtain ⟨b, rfl⟩ := h; exact VRs_cons (by simp only [VR]; exact ⟨b, rfl⟩) VRs_nil
  all_goals (subst h; exact VRs_cons (by simp only [VR]) VRs_nil)

theorem VR.flat {ι : Map} {x : AV} {v : Value} (h : VR ι x v) (hf : x.flat = true) : v.oneCell' = true := by
  cases x <;> simp only [VR] at h
  case agg cs => cases hf
  case tup cs => cases hf
  case ptr b o => obtain ⟨l, e, rfl⟩ := h; rfl
  case sl b o n => obtain ⟨l, cap, e, h1, h2, rfl⟩ := h; rfl
  case map b => obtain ⟨l, e, rfl⟩ := h; rfl
  case fn f a c => obtain ⟨a', c', ha, hc, rfl⟩ := h; rfl
  case iface t y => obtain ⟨y', hy, rfl⟩ := h; rfl
  case any => exact h
  case anyb => obtain ⟨b, rfl⟩ := h; rfl
  all_goals (subst h; rfl)
theorem flatAll_sound {ι : Map} : ∀ {xs : List AV} {vs : List Value}, VRs ι xs vs → flatAll xs = true → ∀ v ∈ vs, v.oneCell' = true
  | [], vs, h, _ => by simp only [VRs] at h; subst h; simp
  | x :: xs, vs, h, hf => by
    simp only [VRs] at h; obtain ⟨y, ys, hy, hys, rfl⟩ := h
    simp only [flatAll, Bool.and_eq_true] at hf
    intro v hv
    rcases List.mem_cons.1 hv with rfl | hv
    · exact hy.flat hf.1
    · exact flatAll_sound hys hf.2 v hv

section
variable {C : Ctx} {P : Program} (hC : C.Ok P) {ι : Map} {T : Tr AV} {a : Act} {H : Heap} {w : World}

theorem ev_sound (hT : TR ι T a.tmps) {x : Operand} {v : AV} (h : ev T x = some v) : VR ι v (a.eval x) := by
  cases x with
  | tmp t =>
    obtain ⟨u, hu, r⟩ := hT t v h
    simpa [Act.eval, hu] using r
  | const u => exact ofValue_sound h ι
  | global g => cases h
  | func f => cases h; simp only [VR, Act.eval]; exact ⟨[], [], VRs_nil, VRs_nil, rfl⟩
theorem evs_sound (hT : TR ι T a.tmps) : ∀ {xs : List Operand} {vs : List AV}, evs T xs = some vs → VRs ι vs (xs.map a.eval)
  | [], vs, h => by cases h; exact VRs_nil
  | x :: xs, vs, h => by
    simp only [evs] at h
    split at h
    · rename_i v ws e1 e2
      cases h; exact VRs_cons (ev_sound hT e1) (evs_sound hT e2)
    · cases h

include hC
theorem run_underlying {t : TypeId} {i : TI} (h : C.ty t = some i) : (underlying t).run P w = .ok i.desc w := by
  obtain ⟨h1, _⟩ := hC.ty t i h
  simp [underlying, h1]
theorem run_sizeOf {t : TypeId} {i : TI} (h : C.ty t = some i) : (sizeOf t).run P w = .ok i.size w := by
  obtain ⟨_, j, h1, h2, _⟩ := hC.ty t i h
  simp [sizeOf, typeInfo, h1, h2]
theorem run_typeInfo {t : TypeId} {i : TI} (h : C.ty t = some i) : ∃ j, (typeInfo t).run P w = .ok j w ∧ j.size = i.size ∧ j.bytes = i.bytes := by
  obtain ⟨_, j, h1, h2, h3, _⟩ := hC.ty t i h
  exact ⟨j, by simp [typeInfo, h1], h2, h3⟩
theorem run_isAgg {t : TypeId} {i : TI} (h : C.ty t = some i) : (isAgg t).run P w = .ok i.isAgg w := by
  have := run_underlying hC (w := w) h
  unfold isAgg TI.isAgg
  simp only [Sem.run_bind, this, Result.andThen_ok]
  split <;> rename_i hh <;> simp [hh]
theorem run_zeroValue {t : TypeId} {i : TI} {zs : List AV} (h : C.ty t = some i) (hz : i.zero = some zs) : ∃ z, (zeroValue t).run P w = .ok z w ∧ ∀ ι, VRs ι zs z.cells.toList := by
  obtain ⟨_, j, h1, _, _, h4⟩ := hC.ty t i h
  obtain ⟨z, h5, h6⟩ := h4 zs hz
  exact ⟨z, by simp [zeroValue, typeInfo, h1, h5], h6⟩

theorem part_sound {t : TypeId} {i : TI} (h : C.ty t = some i) {cs : List AV} {cs' : List Value} (hc : VRs ι cs cs') {o : Nat} {v : AV} (hv : part i cs o = some v) :
    ∃ v', (Go.part t cs'.toArray o).run P w = .ok v' w ∧ VR ι v v' := by
  unfold part at hv
  unfold Go.part
  simp only [Sem.run_bind, run_isAgg hC h, Result.andThen_ok]
  cases e : i.isAgg with
  | true =>
    rw [e] at hv
    simp only [cond_true] at hv
    cases e2 : Nat.ble (o + i.size) cs.length with
    | false => rw [e2] at hv; cases hv
    | true =>
      rw [e2] at hv; cases hv
      simp only [if_true, Sem.run_bind, run_sizeOf hC h, Result.andThen_ok, Sem.run_pure]
      refine ⟨_, rfl, ?_⟩
      simp only [VR]
      refine ⟨_, (hc.drop o).take i.size, ?_⟩
      simp [List.extract_eq_take_drop]
  | false =>
    rw [e] at hv
    simp only [cond_false] at hv
    obtain ⟨v', hv', r⟩ := hc.get hv
    simp [hv']
    exact r

omit hC
omit [Env] in
theorem add_addr (b o j : Nat) : (⟨b, o, none⟩ : Addr).add j = ⟨b, o + j, none⟩ := by unfold Addr.add; split <;> simp_all

/-- the cells of a block, as the world has them -/
theorem cells_at (hw : WR ι H w) {b : Nat} {l : Loc} {ob : Obj} (hb : ι b = some l) (ho : H.cells b = some ob) (o n : Nat) (hl : o + n ≤ ob.cs.length) :
    ∃ vs, vs.length = n ∧ VRs ι ((ob.cs.drop o).take n) vs ∧ ∀ (j : Nat) (v : Value), vs[j]? = some v → w.cell? ⟨l.blk, l.shift + o + j, none⟩ = some v := by
  obtain ⟨c, et, lo, hi, h1, h2, h3, h4, h5, h6⟩ := hw.cells hb ho
  refine ⟨(c.toList.drop (l.shift + o)).take n, ?_, ?_, ?_⟩
  · simp; omega
  · refine VRs.of_get (by simp; omega) fun i x v hx hv => ?_
    have hi : i < n := by
      rcases Nat.lt_or_ge i n with h' | h'
      · exact h'
      · simp [List.getElem?_take, Nat.not_lt.2 h'] at hx
    simp only [List.getElem?_take, hi, if_true, List.getElem?_drop] at hx hv
    obtain ⟨u, hu, r⟩ := h6 (o + i) x hx
    have : v = u := by
      have e : l.shift + o + i = l.shift + (o + i) := by omega
      rw [e] at hv
      simp [hu] at hv; exact hv.symm
    subst this; exact r
  · intro j v hv
    have hj : j < n := by
      rcases Nat.lt_or_ge j n with h' | h'
      · exact h'
      · simp [List.getElem?_take, Nat.not_lt.2 h'] at hv
    simp only [List.getElem?_take, hj, if_true, List.getElem?_drop] at hv
    simp [World.cell?, h1]
    simpa using hv
include hC
theorem load_sound (hw : WR ι H w) {t : TypeId} {p : AV} {p' : Value} (hp : VR ι p p') {v : AV} (h : evLoad C H t p = some v) :
    ∃ v', (Instr.loadAt t p').run P w = .ok v' w ∧ VR ι v v' := by
  cases p <;> simp only [evLoad] at h <;> try (cases h; done)
  rename_i b o
  split at h
  · rename_i i ob e1 e2
    simp only [VR] at hp
    obtain ⟨l, hb, rfl⟩ := hp
    unfold part at h
    simp only [Instr.loadAt, Instr.sureAddr, Sem.run_bind, Sem.run_pure, Result.andThen_ok, loadVar, run_isAgg hC e1]
    cases e : i.isAgg with
    | true =>
      rw [e] at h
      simp only [cond_true] at h
      cases e3 : Nat.ble (o + i.size) ob.cs.length with
      | false => rw [e3] at h; cases h
      | true =>
        rw [e3] at h; cases h
        obtain ⟨vs, k1, k2, k3⟩ := cells_at hw hb e2 o i.size (Nat.le_of_ble_eq_true e3)
        have := run_loadCells_list (P := P) w ⟨l.blk, l.shift + o, none⟩ vs (fun j v hv => by rw [add_addr]; exact k3 j v hv)
        rw [k1] at this
        simp only [if_true, Sem.run_bind, run_sizeOf hC e1, Result.andThen_ok, this, Sem.run_pure]
        exact ⟨_, rfl, by simp only [VR]; exact ⟨vs, k2, rfl⟩⟩
    | false =>
      rw [e] at h
      simp only [cond_false] at h
      have hlt := (List.getElem?_eq_some_iff.1 h).1
      obtain ⟨vs, k1, k2, k3⟩ := cells_at hw hb e2 o 1 (by omega)
      obtain ⟨v', hv', r⟩ := k2.get (i := 0) (x := v) (by simpa using h)
      have := k3 0 v' hv'
      simp only [Nat.add_zero] at this
      refine ⟨v', ?_, r⟩
      simp [this]
  · cases h

theorem store_sound (hw : WR ι H w) {t : TypeId} {p x : AV} {p' x' : Value} (hp : VR ι p p') (hx : VR ι x x') {H' : Heap} (h : evStore C H t x p = some H') (ids : Nat → Prop) :
    ∃ w', (Instr.storeAt t p' x').run P w = .ok () w' ∧ Step ids ι H w ι H' w' := by
  cases p <;> simp only [evStore] at h <;> try (cases h; done)
  rename_i b o
  split at h
  · rename_i i ob e1 e2
    simp only [VR] at hp
    obtain ⟨l, hb, rfl⟩ := hp
    cases e3 : (ob.kind.lets o && Nat.beq x.cells.length i.size && Nat.ble (o + i.size) ob.cs.length && flatAll x.cells) with
    | false => rw [e3] at h; cases h
    | true =>
      rw [e3] at h; cases h
      simp only [Bool.and_eq_true, Tr.nbeq, decide_eq_true_eq, Nat.ble_eq] at e3
      obtain ⟨⟨⟨f1, f2⟩, f3⟩, f4⟩ := e3
      obtain ⟨c, et, lo, hi, h1, h2, h3, h4, h5, h6⟩ := hw.cells hb e2
      have hcs := hx.cells
      have hlen := hcs.len
      have hst := run_storeCells_cells (P := P) l.blk (l.shift + o) x'.cells.toList 0 w
        (fun j hj => by simp [World.cell?, h1]; omega)
        (fun j hj => by
          have := h3 (l.shift + o + 0 + j) (by omega)
          simp only [World.frozen?, h1]
          by_cases q : lo ≤ l.shift + o + 0 + j <;> simp <;> omega)
        (flatAll_sound hcs f4)
      refine ⟨_, ?_, (step_store hw hb e2 o f1 x.cells x'.cells.toList hcs (by omega)).cast (HEq2.refl _) (HEq2.write _ _ _)⟩
      simp only [Nat.add_zero] at hst
      have hsz : x'.cells.size = i.size := by simpa [f2] using hlen
      simp [Instr.storeAt, Instr.sureAddr, storeVar, run_sizeOf hC e1, hsz, hst]
  · cases h
end
end Go.Ev
