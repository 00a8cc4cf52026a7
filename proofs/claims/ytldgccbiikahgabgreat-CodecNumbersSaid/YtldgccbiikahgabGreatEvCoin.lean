import Derived.Test.YtldgccbiikahgabGreatEvJoin
import Derived.Test.YtldgccbiikahgabGreatEvDrawRun
/-! A region that tosses a coin: a new cell, two stores into it in either order, what lies there then. -/
namespace Go.Ev
open Go Go.RowKit
variable [Env]

/-- where a run of such a region stands -/
structure CInv (ι0 : Map) (H0 Hn K1 K2 : Heap) (w0 : World) (T : Tr AV) (N ta tr base : Nat) (ls : Array Bool) (K : Heap) (a : Act) (w : World) (ι : Map) : Prop where
  sz : ls.size = 4
  c1 : Li ls 1 → Li ls 0
  c2 : Li ls 2 → Li ls 0
  c3 : Li ls 3 → Li ls 1 ∧ Li ls 2
  k0 : ¬ Li ls 0 → K = Hn
  k1 : Li ls 0 → ¬ (Li ls 1 ∧ Li ls 2) → K = K1
  k2 : Li ls 1 → Li ls 2 → K = K2
  st : Step (fun b => base ≤ b) ι0 H0 w0 ι K w
  tm : ∀ t x, t ≠ ta → t ≠ tr → T.get t = some x → ∃ v, a.tmps[t]? = some v ∧ VR ι x v
  tva : Li ls 0 → ∃ v, a.tmps[ta]? = some v ∧ VR ι (.ptr base 0) v
  tvr : Li ls 3 → ∃ v, a.tmps[tr]? = some v ∧ VR ι .anyb v
  un : ∀ j, j < 4 → ¬ Li ls j → ι (base + j) = none
  asz : a.tmps.size = N
  df : a.defers = []

/-- what such a region looks like -/
structure Coin (C : Ctx) (ops : Array Oper) (H : Heap) (N ta tr base : Nat) (Hn K1 K2 : Heap) : Prop where
  size : ops.size = 4
  ne : tr ≠ ta
  ltA : ta < N
  ltR : tr < N
  nx : Hn.next = base + 4
  hn : Hn = { H with next := base + 4 }
  free : H.get base = none
  op0 : ∃ o z es, ops[0]? = some o ∧ o.guard = none ∧ o.dst = some ta ∧ (∀ j, j ∈ binding o → False) ∧ AV.flat z = true ∧ (∀ call T, evOp C call Hn base T o = some (.ptr base 0, Hn.put base { cs := [z], es := es, kind := .free })) ∧
    K1 = Hn.put base { cs := [.any], es := es, kind := .free } ∧ K2 = Hn.put base { cs := [.anyb], es := es, kind := .free }
  op12 : ∀ i, i = 1 ∨ i = 2 → ∃ o t b, ops[i]? = some o ∧ o.guard = none ∧ o.dst = none ∧ (∀ j, j ∈ binding o ↔ j = 0) ∧ o.op = .store t (.tmp ta) (.const (.bool b)) ∧
    ∀ (call : CallA) (K : Heap) (T : Tr AV) (id : Nat) (ob : Obj), T.get ta = some (.ptr base 0) → K.get base = some ob → ob.kind = .free → ob.cs.length = 1 → evOp C call K id T o = some (undefA, K.write base { ob with cs := [.bool b] })
  op3 : ∃ o, ops[3]? = some o ∧ o.guard = none ∧ o.dst = some tr ∧ (∀ j, j ∈ binding o ↔ j = 0 ∨ j = 1 ∨ j = 2) ∧
    ∀ (call : CallA) (K : Heap) (T : Tr AV) (id : Nat) (ob : Obj), T.get ta = some (.ptr base 0) → K.get base = some ob → ob.kind = .free → ob.cs = [.anyb] → evOp C call K id T o = some (.anyb, K)

omit [Env] in
theorem list4 {ops : Array Oper} {o0 o1 o2 o3 : Oper} (h : ops.toList = [o0, o1, o2, o3]) : ops.size = 4 ∧ ops[0]? = some o0 ∧ ops[1]? = some o1 ∧ ops[2]? = some o2 ∧ ops[3]? = some o3 := by
  obtain ⟨l⟩ := ops
  simp only at h; subst h
  exact ⟨rfl, rfl, rfl, rfl, rfl⟩
omit [Env] in
theorem coin_store {C : Ctx} {call : CallA} {K : Heap} {id : Nat} {T : Tr AV} {o : Oper} {t : TypeId} {ta base : Nat} {b : Bool} {i : TI} {ob : Obj} (ho : o.op = .store t (.tmp ta) (.const (.bool b))) (hT : T.get ta = some (.ptr base 0))
    (hi : C.ty t = some i) (hs : i.size = 1) (hK : K.get base = some ob) (hk : ob.kind = .free) (hl : ob.cs.length = 1) :
    evOp C call K id T o = some (undefA, K.write base { ob with cs := [.bool b] }) := by
  have hc : K.cells base = some ob := by unfold Heap.cells; rw [hK]; simp [hk, Kind.isMap]
  have h1 : ev T (.tmp ta) = some (.ptr base 0) := hT
  have h2 : ev T (.const (.bool b)) = some (.bool b) := rfl
  have hsp : splice ob.cs 0 [AV.bool b] = [.bool b] := by
    match ob.cs, hl with
    | [x], _ => rfl
  simp only [evOp, ho, h1, h2, evStore, hi, hc, hk, Kind.lets, hs, AV.cells, hl]
  simp [flatAll, AV.flat, hsp, Nat.beq, Nat.ble]
omit [Env] in
theorem coin_load {C : Ctx} {call : CallA} {K : Heap} {id : Nat} {T : Tr AV} {o : Oper} {t : TypeId} {ta base : Nat} {i : TI} {ob : Obj} (ho : o.op = .load t (.tmp ta)) (hT : T.get ta = some (.ptr base 0))
    (hi : C.ty t = some i) (hs : i.isAgg = false) (hK : K.get base = some ob) (hk : ob.kind = .free) (hl : ob.cs = [.anyb]) :
    evOp C call K id T o = some (.anyb, K) := by
  have hc : K.cells base = some ob := by unfold Heap.cells; rw [hK]; simp [hk, Kind.isMap]
  have h1 : ev T (.tmp ta) = some (.ptr base 0) := hT
  simp only [evOp, ho, h1, evLoad, hi, hc, part, hs, hl]
  rfl

omit [Env] in
theorem coin_of {C : Ctx} {ops : Array Oper} {s s' : St} (h : coinA C ops s = some s') : ∃ ta tr Hn K1 K2, Coin C ops s.H s.N ta tr s.H.next Hn K1 K2 ∧ s'.H = K2 ∧ s'.N = s.N ∧ s'.T = (s.T.set ta (.ptr s.H.next 0)).set tr .anyb := by
  unfold coinA at h
  split at h
  · rename_i o0 o1 o2 o3 hl
    obtain ⟨z0, z1, z2, z3, z4⟩ := list4 hl
    split at h
    · rename_i t0 t1 a1 b1 t2 a2 b2 t3 a3 q0 q1 q2 q3
      split at h
      · rename_i a r d0 d3
        obtain ⟨hc, h⟩ := bound_of_cond h
        simp only [Bool.and_eq_true, Tr.nbeq, decide_eq_true_eq, Bool.not_eq_true', decide_eq_false_iff_not, Option.isNone_iff_eq_none, Nat.blt_eq, List.isEmpty_iff, beq_iff_eq, List.contains_iff_mem, List.all_eq_true] at hc
        obtain ⟨⟨⟨⟨⟨⟨⟨⟨⟨⟨⟨⟨⟨⟨⟨rfl, rfl⟩, rfl⟩, hne⟩, g0⟩, g1⟩, g2⟩, g3⟩, n1⟩, n2⟩, m0⟩, m1⟩, m2⟩, ⟨⟨x0, x1⟩, x2⟩, x3⟩, la⟩, lr⟩ := hc
        split at h
        · rename_i i0 i1 i2 i3 y0 y1 y2 y3
          split at h
          · rename_i z hz
            obtain ⟨hc2, h⟩ := bound_of_cond h
            simp only [Bool.and_eq_true, Tr.nbeq, decide_eq_true_eq, Bool.not_eq_true'] at hc2
            obtain ⟨⟨⟨⟨⟨f0, f1⟩, f2⟩, f3⟩, f4⟩, f5⟩ := hc2
            split at h
            · rename_i H' e
              cases h
              obtain ⟨hfree, rfl⟩ := Heap.add_eq e
              have hfree' : s.H.get s.H.next = none := hfree
              rw [z0] at hfree ⊢
              refine ⟨_, _, { s.H with next := s.H.next + 4 }, _, _, ⟨z0, hne, la, lr, rfl, rfl, hfree', ⟨o0, z, i0.size, z1, g0, d0, fun j hj => by rw [m0] at hj; simp at hj, f0, fun call T => ?_, rfl, rfl⟩, ?_, ⟨o3, z4, g3, d3, fun j => ⟨fun hj => ?_, fun hj => ?_⟩, fun call K T id ob hT hK hk hc => coin_load q3 hT y3 f3 hK hk hc⟩⟩, rfl, rfl, rfl⟩
              · have hadd : ({ s.H with next := s.H.next + 4 } : Heap).add s.H.next { cs := [z], es := i0.size, kind := .free } = some (({ s.H with next := s.H.next + 4 } : Heap).put s.H.next { cs := [z], es := i0.size, kind := .free }) := by
                  unfold Heap.add; rw [hfree]
                simp only [evOp, q0, allocA, y0, hz, hadd]
              · rintro i (rfl | rfl)
                · exact ⟨o1, t1, b1, z2, g1, n1, fun j => by rw [m1]; simp, q1, fun call K T id ob hT hK hk hc => coin_store q1 hT y1 f4 hK hk hc⟩
                · exact ⟨o2, t2, b2, z3, g2, n2, fun j => by rw [m2]; simp, q2, fun call K T id ob hT hK hk hc => coin_store q2 hT y2 f5 hK hk hc⟩
              · have := x3 j hj; omega
              · rcases hj with rfl | rfl | rfl
                · exact x0
                · exact x1
                · exact x2
            · cases h
          · cases h
        · cases h
      · cases h
    · cases h
  · cases h

section
variable {C : Ctx} {P : Program} (hC : C.Ok P) {ops : Array Oper} {ι0 : Map} {H0 Hn K1 K2 : Heap} {w0 : World} {T : Tr AV} {N ta tr base : Nat} {Q : Exit → Act → World → Prop}

omit [Env] in
theorem Act.put_get {a : Act} {d t : Nat} {v : Value} (hd : d < a.tmps.size) : (a.put (some d) v).tmps[t]? = if t = d then some v else a.tmps[t]? := by
  simp only [Act.put]
  by_cases e : t = d
  · subst e; simp [hd]
  · rw [if_neg e, Array.getElem?_setIfInBounds_ne (Ne.symm e)]

include hC
theorem CInv.run {call : CallA} (hcall : CallSound P call) (hc : Coin C ops H0 N ta tr base Hn K1 K2) {ls : Array Bool} {K : Heap} {a : Act} {w : World} {ι : Map} (inv : CInv ι0 H0 Hn K1 K2 w0 T N ta tr base ls K a w ι)
    {i : Nat} (hi : i < 4) (hun : ¬ Li ls i) (hr : ∀ o, ops[i]? = some o → ∀ j ∈ binding o, Li ls j) {G : Act → World → Prop}
    (hG : ∀ a' w' ι' K', CInv ι0 H0 Hn K1 K2 w0 T N ta tr base (ls.setIfInBounds i true) K' a' w' ι' → G a' w') : wpOp P ops Q i G a w := by
  have hsz : i < ls.size := by rw [inv.sz]; exact hi
  have hLi : ∀ j, Li (ls.setIfInBounds i true) j ↔ (j = i ∨ Li ls j) := fun j => Li_set hsz
  obtain ⟨o0, z, es, p1, p2, p3, p4, p5, p6, p7, p8⟩ := hc.op0
  have w1 : ObjW { cs := [z], es := es, kind := .free } { cs := [.any], es := es, kind := .free } := ⟨rfl, rfl, (Lesses.refl []).cons (.inr (.inl ⟨rfl, p5⟩)), fun h => by cases h⟩
  have put_less : ∀ (H : Heap) (o q : Obj), ObjW o q → HW (H.put base o) (H.put base q) := fun H o q hw => by
    refine ⟨Nat.le_refl _, fun b x hx => .inr ?_, fun b hb => ?_⟩
    · rw [Heap.get_put] at hx ⊢
      by_cases e : b = base
      · rw [if_pos e] at hx ⊢; cases hx; exact ⟨o, rfl, hw⟩
      · rw [if_neg e] at hx ⊢; exact ⟨x, hx, ObjW.refl _⟩
    · rw [Heap.get_put] at hb ⊢
      by_cases e : b = base
      · rw [if_pos e]; simp
      · rw [if_neg e] at hb ⊢; exact hb
  have vis0 : ∀ b l, ι b = some l → K.get b ≠ none := inv.st.wr.vis
  have hnext : K.next = base + 4 := by
    by_cases h0 : Li ls 0
    · by_cases h12 : Li ls 1 ∧ Li ls 2
      · rw [inv.k2 h12.1 h12.2, p8, Heap.next_put, hc.nx]
      · rw [inv.k1 h0 h12, p7, Heap.next_put, hc.nx]
    · rw [inv.k0 h0, hc.nx]
  have hasz := inv.asz
  have hid := inv.un i hi hun
  have hTa : (Tr.nil.set ta (AV.ptr base 0)).get ta = some (.ptr base 0) := Tr.get_set_self _ _ _
  have hev : Li ls 0 → ∀ x : Operand, ∀ v, ev (Tr.nil.set ta (.ptr base 0)) x = some v → VR ι v (a.eval x) := fun l0 x v hv => by
    obtain ⟨va, hva, ra⟩ := inv.tva l0
    cases x with
    | tmp t =>
      have hv' : (Tr.nil.set ta (AV.ptr base 0)).get t = some v := hv
      rw [Tr.get_set] at hv'
      by_cases e : t = ta
      · rw [if_pos e] at hv'; cases hv'; rw [e]; simpa [Act.eval, hva] using ra
      · rw [if_neg e] at hv'; cases hv'
    | const c => exact ofValue_sound hv ι
    | global g => cases hv
    | func f => cases hv; simp only [VR, Act.eval]; exact ⟨[], [], VRs_nil, VRs_nil, rfl⟩
  have hun' : ∀ {ι' : Map} {K' : Heap} {w' : World}, Step (· = base + i) ι K w ι' K' w' → ∀ j, j < 4 → ¬ Li (ls.setIfInBounds i true) j → ι' (base + j) = none := fun {ι' K' w'} hs j hj hnl => by
    rw [hLi] at hnl
    have hne : j ≠ i := fun e => hnl (.inl e)
    cases e : ι' (base + j) with
    | none => rfl
    | some l =>
      rcases hs.dom (base + j) (inv.un j hj (fun h => hnl (.inr h))) (by rw [e]; simp) with h | h
      · omega
      · omega
  -- one of the two stores
  have store : i = 1 ∨ i = 2 → wpOp P ops Q i G a w := by
    intro h12
    obtain ⟨o, t, b, q1, q2, q3, q4, q5, q6⟩ := hc.op12 i h12
    have l0 : Li ls 0 := hr o q1 0 ((q4 0).2 rfl)
    have n3 : ¬ Li ls 3 := fun h => by rcases h12 with rfl | rfl; exact hun (inv.c3 h).1; exact hun (inv.c3 h).2
    have hK := inv.k1 l0 (fun h => by rcases h12 with rfl | rfl; exact hun h.1; exact hun h.2)
    have hget : K.get base = some { cs := [.any], es := es, kind := .free } := by rw [hK, p7, Heap.get_put, if_pos rfl]
    unfold wpOp
    simp only [q1]
    rw [show Region.wanted o (yielded ops a.tmps) = true by unfold Region.wanted; rw [q2]]
    simp only [if_true]
    refine .inl ?_
    refine evOp_sound' hC hcall inv.st.wr (T := Tr.nil.set ta (.ptr base 0)) (fun x _ => hev l0 x) hid (by omega) (q6 call K _ _ _ hTa hget rfl rfl) fun ι' v' w' hs hv => ?_
    have hs1 : Step (· = base + i) ι K w ι' (Hn.put base { cs := [.bool b], es := es, kind := .free }) w' := by
      refine hs.cast (HEq2.refl _) ⟨fun c => ?_, ?_⟩
      · rw [Heap.get_put, Heap.get_write]
        by_cases e : c = base
        · rw [if_pos e, if_pos e]
        · rw [if_neg e, if_neg e, hK, p7, Heap.get_put, if_neg e]
      · show Hn.next = K.next; rw [hnext, hc.nx]
    have hb1 : HW (Hn.put base { cs := [.bool b], es := es, kind := .free }) K1 := by rw [p7]; exact put_less _ _ _ ⟨rfl, rfl, (Lesses.refl []).cons (.inr (.inl ⟨rfl, rfl⟩)), fun h => by cases h⟩
    have hb2 : HW (Hn.put base { cs := [.bool b], es := es, kind := .free }) K2 := by rw [p8]; exact put_less _ _ _ ⟨rfl, rfl, (Lesses.refl []).cons (.inr (.inr ⟨rfl, b, rfl⟩)), fun h => by cases h⟩
    have fin : ∀ K' : Heap, HW (Hn.put base { cs := [.bool b], es := es, kind := .free }) K' → (¬ (Li (ls.setIfInBounds i true) 1 ∧ Li (ls.setIfInBounds i true) 2) → K' = K1) → (Li (ls.setIfInBounds i true) 1 → Li (ls.setIfInBounds i true) 2 → K' = K2) →
        G (a.put o.dst v') w' := by
      intro K' hw f1 f2
      have hs2 := hs1.less vis0 hw
      have hl0 : Li (ls.setIfInBounds i true) 0 := (hLi 0).2 (.inr l0)
      rw [q3]
      refine hG _ _ ι' K' ⟨by simp [inv.sz], fun _ => hl0, fun _ => hl0, fun h => ?_, fun h => (h hl0).elim, fun _ => f1, f2, inv.st.trans (fun _ h => h) (fun c hb => by omega) hs2, fun t x h1 h2 hx => ?_, fun _ => ?_, fun h => ?_, hun' hs2, inv.asz, inv.df⟩
      · rw [hLi] at h; rcases h with h | h
        · omega
        · exact (n3 h).elim
      · obtain ⟨u, hu, r⟩ := inv.tm t x h1 h2 hx
        exact ⟨u, hu, r.ext hs.ext⟩
      · obtain ⟨u, hu, r⟩ := inv.tva l0
        exact ⟨u, hu, r.ext hs.ext⟩
      · rw [hLi] at h; rcases h with h | h
        · omega
        · exact (n3 h).elim
    by_cases hb : Li (ls.setIfInBounds i true) 1 ∧ Li (ls.setIfInBounds i true) 2
    · exact fin K2 hb2 (fun h => (h hb).elim) (fun _ _ => rfl)
    · exact fin K1 hb1 (fun _ => rfl) (fun h1 h2 => (hb ⟨h1, h2⟩).elim)
  match i, hi with
  | 1, _ => exact store (.inl rfl)
  | 2, _ => exact store (.inr rfl)
  | 0, _ =>
    have hK := inv.k0 hun
    have n1 : ¬ Li ls 1 := fun h => hun (inv.c1 h)
    have n2 : ¬ Li ls 2 := fun h => hun (inv.c2 h)
    have n3 : ¬ Li ls 3 := fun h => n1 (inv.c3 h).1
    unfold wpOp
    simp only [p1]
    rw [show Region.wanted o0 (yielded ops a.tmps) = true by unfold Region.wanted; rw [p2]]
    simp only [if_true]
    refine .inl ?_
    have hev0 : evOp C call K base .nil o0 = some (.ptr base 0, Hn.put base { cs := [z], es := es, kind := .free }) := by rw [hK]; exact p6 call .nil
    refine evOp_sound' hC hcall inv.st.wr (T := .nil) (fun x _ v hv => ?_) hid (by omega) hev0 fun ι' v' w' hs hv => ?_
    · cases x with
      | tmp t => cases hv
      | const c => exact ofValue_sound hv ι
      | global g => cases hv
      | func f => cases hv; simp only [VR, Act.eval]; exact ⟨[], [], VRs_nil, VRs_nil, rfl⟩
    · have hs2 : Step (· = base + 0) ι K w ι' K1 w' := by rw [p7]; exact hs.less vis0 (put_less _ _ _ w1)
      have hlt : ta < a.tmps.size := by rw [hasz]; exact hc.ltA
      have hl0 : Li (ls.setIfInBounds 0 true) 0 := (hLi 0).2 (.inl rfl)
      rw [p3]
      refine hG _ _ ι' K1 ⟨by simp [inv.sz], fun _ => hl0, fun _ => hl0, fun h => ?_, fun h => (h hl0).elim, fun _ _ => rfl, fun h _ => ?_, inv.st.trans (fun _ h => h) (fun b hb => by omega) hs2, fun t x h1 h2 hx => ?_, fun _ => ?_, fun h => ?_, hun' hs2, ?_, ?_⟩
      · rw [hLi] at h; rcases h with h | h
        · omega
        · exact (n3 h).elim
      · rw [hLi] at h; rcases h with h | h
        · omega
        · exact (n1 h).elim
      · obtain ⟨u, hu, r⟩ := inv.tm t x h1 h2 hx
        refine ⟨u, ?_, r.ext hs.ext⟩
        rw [Act.put_get hlt, if_neg h1]; exact hu
      · refine ⟨v', ?_, hv⟩
        rw [Act.put_get hlt, if_pos rfl]
      · rw [hLi] at h; rcases h with h | h
        · omega
        · exact (n3 h).elim
      · simp [Act.put, inv.asz]
      · exact inv.df
  | 3, _ =>
    obtain ⟨o, q1, q2, q3, q4, q5⟩ := hc.op3
    have l1 : Li ls 1 := hr o q1 1 ((q4 1).2 (by omega))
    have l2 : Li ls 2 := hr o q1 2 ((q4 2).2 (by omega))
    have l0 : Li ls 0 := inv.c1 l1
    have hK := inv.k2 l1 l2
    have hget : K.get base = some { cs := [.anyb], es := es, kind := .free } := by rw [hK, p8, Heap.get_put, if_pos rfl]
    unfold wpOp
    simp only [q1]
    rw [show Region.wanted o (yielded ops a.tmps) = true by unfold Region.wanted; rw [q2]]
    simp only [if_true]
    refine .inl ?_
    refine evOp_sound' hC hcall inv.st.wr (T := Tr.nil.set ta (.ptr base 0)) (fun x _ => hev l0 x) hid (by omega) (q5 call K _ _ _ hTa hget rfl rfl) fun ι' v' w' hs hv => ?_
    have hlt : tr < a.tmps.size := by rw [hasz]; exact hc.ltR
    have h0' : Li (ls.setIfInBounds 3 true) 0 := (hLi 0).2 (.inr l0)
    have h1' : Li (ls.setIfInBounds 3 true) 1 := (hLi 1).2 (.inr l1)
    have h2' : Li (ls.setIfInBounds 3 true) 2 := (hLi 2).2 (.inr l2)
    rw [q3]
    refine hG _ _ ι' K ⟨by simp [inv.sz], fun _ => h0', fun _ => h0', fun _ => ⟨h1', h2'⟩, fun h => (h h0').elim, fun _ h => (h ⟨h1', h2'⟩).elim, fun _ _ => hK, inv.st.trans (fun _ h => h) (fun b hb => by omega) hs, fun t x g1 g2 hx => ?_, fun _ => ?_, fun _ => ?_, hun' hs, ?_, ?_⟩
    · obtain ⟨u, hu, r⟩ := inv.tm t x g1 g2 hx
      refine ⟨u, ?_, r.ext hs.ext⟩
      rw [Act.put_get hlt, if_neg g2]; exact hu
    · obtain ⟨u, hu, r⟩ := inv.tva l0
      refine ⟨u, ?_, r.ext hs.ext⟩
      rw [Act.put_get hlt, if_neg (Ne.symm hc.ne)]; exact hu
    · refine ⟨v', ?_, hv⟩
      rw [Act.put_get hlt, if_pos rfl]
    · simp [Act.put, inv.asz]
    · exact inv.df
end
end Go.Ev
