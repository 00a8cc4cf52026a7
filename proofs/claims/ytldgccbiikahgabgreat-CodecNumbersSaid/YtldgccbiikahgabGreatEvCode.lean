import Derived.Test.YtldgccbiikahgabGreatEvHeap
namespace Go.Ev
open Go Go.RowKit
variable [Env]

structure SR (ι : Map) (s : St) (a : Act) (w : World) : Prop where
  wr : WR ι s.H w
  tr : TR ι s.T a.tmps
  size : a.tmps.size = s.N
  defers : a.defers = []

def Nope : Nat → Prop := fun _ => False

theorem put_sound {ι : Map} {s s' : St} {a : Act} {w : World} {dst : Option Tmp} {v : AV} {v' : Value} (h : s.put dst v = some s') (hs : SR ι s a w) (hv : VR ι v v') :
    SR ι s' (a.put dst v') w ∧ s'.H = s.H ∧ s'.N = s.N := by
  cases dst with
  | none => simp only [St.put] at h; cases h; exact ⟨hs, rfl, rfl⟩
  | some d =>
    simp only [St.put] at h
    cases e : Nat.blt d s.N with
    | false => rw [e] at h; cases h
    | true =>
      rw [e] at h; cases h
      simp only [Nat.blt_eq] at e
      refine ⟨⟨hs.wr, ?_, by simp [Act.put, hs.size], hs.defers⟩, rfl, rfl⟩
      intro t x ht
      simp only [Act.put]
      rw [Tr.get_set] at ht
      by_cases q : t = d
      · subst q
        simp only [if_true] at ht; cases ht
        have hd : t < a.tmps.size := by rw [hs.size]; exact e
        exact ⟨v', by simp [hd], hv⟩
      · simp only [q, if_false] at ht
        obtain ⟨u, hu, r⟩ := hs.tr t x ht
        exact ⟨u, by rw [Array.getElem?_setIfInBounds_ne (Ne.symm q)]; exact hu, r⟩

theorem wanted_sound' {ι : Map} {T : Tr AV} {a : Act} {ops : Array Oper} {o : Oper} (hT : ∀ t, t ∈ o.looksAt ops → ∀ x, T.get t = some x → ∃ v, a.tmps[t]? = some v ∧ VR ι x v) {b : Bool} (h : wantedA ops T o = some b) : Region.wanted o (yielded ops a.tmps) = b := by
  unfold wantedA at h
  unfold Region.wanted
  split at h
  · rename_i hg; cases h; simp [hg]
  · rename_i j want hg
    simp only [hg]
    split at h
    · rename_i d hd
      have hmem : d ∈ o.looksAt ops := by simp [Oper.looksAt, hg, hd]
      split at h
      · rename_i t ht
        cases h
        obtain ⟨v, hv, r⟩ := hT d hmem _ ht
        simp only [VR] at r; subst r
        unfold yielded
        rw [hd]; simp [hv]
      · rename_i ht
        cases h
        obtain ⟨v, hv, r⟩ := hT d hmem _ ht
        simp only [VR, VRs] at r; obtain ⟨_, rfl, rfl⟩ := r
        unfold yielded
        rw [hd]; simp [hv]
      · cases h
    · cases h
theorem wanted_sound {ι : Map} {T : Tr AV} {a : Act} (hT : TR ι T a.tmps) {ops : Array Oper} {o : Oper} {b : Bool} (h : wantedA ops T o = some b) : Region.wanted o (yielded ops a.tmps) = b :=
  wanted_sound' (fun t _ x hx => hT t x hx) h

section
variable {C : Ctx} {P : Program} (hC : C.Ok P)
include hC

theorem evOps_sound {call : CallA} (hcall : CallSound P call) {ops : Array Oper} {base : Nat} {Q : Exit → Act → World → Prop} : ∀ (l : List Oper) (i : Nat) {ι : Map} {s s' : St} {a : Act} {w : World},
    evOps C call ops base i l s = some s' → (∀ k o, l[k]? = some o → ops[i + k]? = some o) → SR ι s a w → (∀ j, i ≤ j → j < i + l.length → ι (base + j) = none) → base + i + l.length ≤ s.H.next →
    (∀ ι' a' w', Step (fun b => base + i ≤ b) ι s.H w ι' s'.H w' → SR ι' s' a' w' → s'.N = s.N → Q .normal a' w') → wpOps P ops Q (List.range' i l.length) a w
  | [], i, ι, s, s', a, w, h, _, hs, _, _, hQ => by
    simp only [evOps] at h; cases h
    exact hQ ι a w (Step.refl hs.wr) hs rfl
  | o :: l, i, ι, s, s', a, w, h, hops, hs, hid, hle, hQ => by
    simp only [List.length_cons] at hid hle
    have hoi : ops[i]? = some o := hops 0 o rfl
    have hops' : ∀ k o', l[k]? = some o' → ops[i + 1 + k]? = some o' := fun k o' hk => by
      have := hops (k + 1) o' (by simpa using hk); rw [show i + 1 + k = i + (k + 1) by omega]; exact this
    simp only [List.length_cons, List.range'_succ, wpOps, hoi]
    simp only [evOps] at h
    split at h
    · cases h
    · -- not wanted
      rename_i hwt
      split at h
      · rename_i s1 e1
        obtain ⟨k1, k2, k3⟩ := put_sound (v' := undef) e1 hs (by simp only [VR, undefA, undef]; exact ⟨[], VRs_nil, rfl⟩)
        rw [wanted_sound hs.tr hwt]
        simp only [Bool.false_eq_true, if_false]
        refine evOps_sound hcall l (i + 1) h hops' k1 (fun j h1 h2 => hid j (by omega) (by omega)) (by rw [k2]; omega) fun ι' a' w' q1 q2 q3 => ?_
        rw [k2] at q1
        exact hQ ι' a' w' (q1.weaken (fun b hb => by omega)) q2 (q3.trans k3)
      · cases h
    · -- wanted
      rename_i hwt
      split at h
      · rename_i v H1 e1
        split at h
        · rename_i s1 e2
          rw [wanted_sound hs.tr hwt]
          simp only [if_true]
          refine .inl (evOp_sound hC hcall hs.wr hs.tr (hid i (by omega) (by omega)) (by omega) e1 fun ι1 v' w1 hst hv => ?_)
          have hs1 : SR ι1 { s with H := H1 } a w1 := ⟨hst.wr, hs.tr.ext hst.ext, hs.size, hs.defers⟩
          obtain ⟨k1, k2, k3⟩ := put_sound e2 hs1 hv
          have hid' : ∀ j, i + 1 ≤ j → j < i + 1 + l.length → ι1 (base + j) = none := fun j h1 h2 => by
            cases e : ι1 (base + j) with
            | none => rfl
            | some q =>
              rcases hst.dom (base + j) (hid j (by omega) (by omega)) (by rw [e]; simp) with q | q
              · omega
              · omega
          have hnx := hst.next
          simp only at k2 k3
          refine evOps_sound hcall l (i + 1) h hops' k1 hid' (by rw [k2]; omega) fun ι' a' w' q1 q2 q3 => ?_
          rw [k2] at q1
          exact hQ ι' a' w' (hst.trans (fun b hb => by omega) (fun b hb => by omega) q1) q2 (q3.trans k3)
        · cases h
      · cases h

def X.toExit : X → Exit
  | .normal => .normal
  | .exit id => .exit id
  | .ret => .ret

theorem region_sound {call : CallA} (hcall : CallSound P call) {id : Nat} {ops : Array Oper} {Q : Exit → Act → World → Prop} {ι : Map} {s s' : St} {a : Act} {w : World}
    (h : evOps C call ops s.H.next 0 ops.toList { s with H := { s.H with next := s.H.next + ops.size } } = some s') (hs : SR ι s a w)
    (hQ : ∀ ι' a' w', Step Nope ι s.H w ι' s'.H w' → SR ι' s' a' w' → s'.N = s.N → Q .normal a' w') : (Code.region id ops false).wp P Q a w := by
  apply wp_region
  rw [List.range_eq_range', show ops.size = ops.toList.length by simp]
  have hs1 : SR ι { s with H := { s.H with next := s.H.next + ops.size } } a w := ⟨⟨hs.wr.obj, hs.wr.apart, fun b hb => hs.wr.new b (by have : s.H.next + ops.size ≤ b := hb; omega), hs.wr.vis⟩, hs.tr, hs.size, hs.defers⟩
  refine evOps_sound hC hcall ops.toList 0 h (fun k o hk => by rw [Nat.zero_add]; simpa using hk) hs1 (fun j _ _ => hs.wr.new _ (by omega)) (by simp) fun ι' a' w' q1 q2 q3 => hQ ι' a' w' ?_ q2 q3
  exact { ext := q1.ext, wr := q1.wr, next := Nat.le_trans (Nat.le_add_right _ _) q1.next, dom := fun b hb hn => by
            rcases q1.dom b hb hn with e | e
            · exact .inr (by omega)
            · exact .inr (by simp only at e; omega),
          keep := q1.keep, junk := q1.junk, os := q1.os, tape := q1.tape, output := q1.output, size := q1.size, frame := q1.frame, fresh := q1.fresh }

end
end Go.Ev
