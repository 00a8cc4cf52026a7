import Derived.Test.YtldgccbiikahgabGreatEvApp
import Derived.MapKept
import Derived.Laws.BytesString
namespace Go.Ev
open Go Go.RowKit
variable [Env]
section
variable {C : Ctx} {P : Program} (hC : C.Ok P) {ι : Map} {H : Heap} {w : World}

omit [Env] in
theorem Heap.entries_eq {H : Heap} {b : Nat} {o : Obj} (h : H.entries b = some o) : H.get b = some o ∧ o.kind.isMap = true := by
  unfold Heap.entries at h
  split at h
  · rename_i x e
    cases hk : x.kind.isMap with
    | true => rw [hk] at h; cases h; exact ⟨e, hk⟩
    | false => rw [hk] at h; cases h
  · cases h
omit [Env] in
theorem Heap.entries_get {H H2 : Heap} {b : Nat} (h : H2.get b = H.get b) : H2.entries b = H.entries b := by unfold Heap.entries; rw [h]
omit [Env] in
theorem str_beq (a b : List UInt8) : ((⟨⟨a⟩⟩ : ByteArray) == ⟨⟨b⟩⟩) = (a == b) := by
  rw [Bool.eq_iff_iff, MapKept.bytes_beq]; simp
theorem same_sound {d : TypeDesc} {x y : AV} {x' y' : Value} (hx : VR ι x x') (hy : VR ι y y') {r : Bool} (h : sameA d x y = some r) : Instr.sameNow d x' y' = some r ∧ (r = true → x' = y') := by
  unfold sameA at h
  split at h
  · rename_i k a k' b
    simp only [VR] at hx hy; subst hx; subst hy
    split at h
    · rename_i e; cases h; subst e
      exact ⟨by simp [Instr.sameNow], fun e => by simp at e; rw [e]⟩
    · cases h
  · simp only [VR] at hx hy; subst hx; subst hy
    cases h
    exact ⟨by simp only [Instr.sameNow, str_beq], fun e => by simp at e; rw [e]⟩
  · cases h
theorem find_sound {d : TypeDesc} {k : AV} {k' : Value} (hk : VR ι k k') : ∀ {cs : List AV} {es : List MapEntry} {n : Nat} {r : Option AV}, MR ι cs es → findA d k cs = some r →
    (r = none ∧ Instr.findNow d k' es n = some none) ∨ ∃ j e v, r = some v ∧ Instr.findNow d k' es n = some (some (n + j, e.val)) ∧ es[j]? = some e ∧ e.key = k' ∧ VR ι v e.val
  | [], es, n, r, m, h => by
    simp only [findA] at h; cases h
    simp only [MR] at m; subst m; exact .inl ⟨rfl, rfl⟩
  | [_], es, n, r, m, h => m.elim
  | x :: v :: cs, es, n, r, m, h => by
    obtain ⟨e, es', rfl, h1, h2, h3⟩ := m
    simp only [findA] at h
    split at h
    · rename_i hs
      cases h
      obtain ⟨q1, q2⟩ := same_sound hk h1 hs
      exact .inr ⟨0, e, v, rfl, by simp [Instr.findNow, q1], rfl, (q2 rfl).symm, h2⟩
    · rename_i hs
      obtain ⟨q1, _⟩ := same_sound hk h1 hs
      rcases find_sound hk (n := n + 1) h3 h with ⟨rfl, q⟩ | ⟨j, e', u, rfl, r1, r2, r3, r4⟩
      · exact .inl ⟨rfl, by simp [Instr.findNow, q1, q]⟩
      · exact .inr ⟨j + 1, e', u, rfl, by simp [Instr.findNow, q1, r1]; omega, by simpa using r2, r3, r4⟩
    · cases h
theorem upd_sound {d : TypeDesc} {k v : AV} {k' v' : Value} (hk : VR ι k k') (hv : VR ι v v') : ∀ {cs cs2 : List AV} {es : List MapEntry} (n clock : Nat), MR ι cs es → updA d k v cs = some cs2 →
    (Instr.findNow d k' es n = some none ∧ MR ι cs2 (es ++ [{ key := k', val := v', born := clock }])) ∨
    ∃ j e, Instr.findNow d k' es n = some (some (n + j, e.val)) ∧ es[j]? = some e ∧ e.key = k' ∧ MR ι cs2 (es.modify j fun e => { e with key := k', val := v' })
  | [], cs2, es, n, clock, m, h => by
    simp only [updA] at h; cases h
    simp only [MR] at m; subst m
    exact .inl ⟨rfl, ⟨_, _, rfl, hk, hv, rfl⟩⟩
  | [_], cs2, es, n, clock, m, h => m.elim
  | x :: u :: cs, cs2, es, n, clock, m, h => by
    obtain ⟨e, es', rfl, h1, h2, h3⟩ := m
    simp only [updA] at h
    split at h
    · rename_i hs
      cases h
      obtain ⟨q1, q2⟩ := same_sound hk h1 hs
      exact .inr ⟨0, e, by simp [Instr.findNow, q1], rfl, (q2 rfl).symm, ⟨_, _, rfl, hk, hv, h3⟩⟩
    · rename_i hs
      obtain ⟨q1, _⟩ := same_sound hk h1 hs
      split at h
      · rename_i r' e1
        cases h
        rcases upd_sound hk hv (n + 1) clock h3 e1 with ⟨q, r⟩ | ⟨j, e', r1, r2, r3, r4⟩
        · exact .inl ⟨by simp [Instr.findNow, q1, q], ⟨_, _, rfl, h1, h2, r⟩⟩
        · exact .inr ⟨j + 1, e', by simp [Instr.findNow, q1, r1]; omega, by simpa using r2, r3, ⟨_, _, rfl, h1, h2, r4⟩⟩
      · cases h
    · cases h
theorem key_sound {d : TypeDesc} {k : AV} {k' : Value} (hk : VR ι k k') (h : keyA d k = true) : MapKept.IsKey d k' := by
  unfold keyA at h
  split at h
  · simp only [VR] at hk; subst hk; simpa [MapKept.IsKey] using h
  · simp only [VR] at hk; subst hk; trivial
  · cases h

/-- a new block of whatever kind -/
theorem step_any {H' : Heap} {id : Nat} (hw : WR ι H w) (hid : ι id = none) (hn : id < H.next) {o : Obj} (h : H.add id o = some H') (l : Loc) (hl : l.blk = w.heap.size) {w' : World}
    (hheap : ∀ k, k < w.heap.size → w'.heap[k]? = w.heap[k]?) (hsz : w.heap.size ≤ w'.heap.size) (hos : w'.os = w.os) (htape : w'.tape = w.tape) (hout : w'.output = w.output) (hB : Blk ι w' l o) :
    Step (· = id) ι H w (fun b => if b = id then some l else ι b) H' w' := by
  obtain ⟨hg, rfl⟩ := Heap.add_eq h
  have hext : Ext ι (fun b => if b = id then some l else ι b) := fun b l hb => by
    have : b ≠ id := fun e => by rw [e, hid] at hb; cases hb
    simp [this, hb]
  have hlt : ∀ b l o, ι b = some l → H.get b = some o → l.blk < w.heap.size := fun b l o hb ho => (hw.obj b l o hb ho).lt
  refine ⟨hext, ⟨?_, ?_, ?_, ?_⟩, Nat.le_refl _, ?_, ?_, ?_, hos, htape, hout, hsz, ?_, ?_⟩
  · intro b l1 o1 hb ho
    rw [Heap.get_put] at ho
    by_cases e : b = id
    · subst e
      simp at hb ho
      subst hb ho
      exact hB.mono hext rfl
    · simp only [e, if_false] at hb ho
      exact (hw.obj b l1 o1 hb ho).mono hext (hheap _ (hlt b l1 o1 hb ho))
  · intro b1 b2 l1 l2 o1 o2 hne e1 e2 g1 g2 hb
    rw [Heap.get_put] at g1 g2
    by_cases q1 : b1 = id
    · have q2 : b2 ≠ id := fun e => hne (q1.trans e.symm)
      simp only [q1, if_true] at e1; simp only [q2, if_false] at e2 g2
      cases e1
      have := hlt b2 l2 o2 e2 g2
      omega
    · by_cases q2 : b2 = id
      · simp only [q2, if_true] at e2; simp only [q1, if_false] at e1 g1
        cases e2
        have := hlt b1 l1 o1 e1 g1
        omega
      · simp only [q1, q2, if_false] at e1 e2 g1 g2
        exact hw.apart b1 b2 l1 l2 o1 o2 hne e1 e2 g1 g2 hb
  · intro b hb
    have : b ≠ id := by have := Heap.next_put H id o; omega
    simp only [this, if_false]; exact hw.new b hb
  · intro b l hb; rw [Heap.get_put]; split
    · simp
    · rename_i e; simp only [e, if_false] at hb; exact hw.vis b l hb
  · intro b hb hn'
    by_cases e : b = id
    · exact .inl e
    · simp [e, hb] at hn'
  · intro b hb; rw [Heap.get_put]; split
    · simp
    · exact hb
  · intro b l hb hg'; rw [Heap.get_put] at hg'
    have : b ≠ id := fun e => by rw [e, hid] at hb; cases hb
    simpa [this] using hg'
  · intro k hk _; exact hheap k hk
  · intro b l1 hb hl1
    by_cases e : b = id
    · simp [e] at hl1; subst hl1; exact .inl (by omega)
    · simp [e, hb] at hl1

theorem makeMap_sound {id : Nat} (hw : WR ι H w) (hid : ι id = none) (hn : id < H.next) {v : AV} {H' : Heap} (h : makeMapA H id = some (v, H')) (t : TypeId) :
    ∃ v' ι' w', (Instr.makeMap t none).run P w = .ok v' w' ∧ VR ι' v v' ∧ Step (· = id) ι H w ι' H' w' := by
  unfold makeMapA at h
  split at h
  · rename_i H1 e
    cases h
    have hheap := MapKept.heap_alloc w (.map #[] 0)
    refine ⟨_, _, w.alloc (.map #[] 0), rfl, ?_, step_any hw hid hn e ⟨w.heap.size, 0, 0, 0⟩ rfl hheap.2 (by show w.heap.size ≤ (w.heap.push _).size; simp) rfl rfl rfl (.of_map rfl ⟨#[], 0, hheap.1, rfl⟩)⟩
    simp only [VR]; exact ⟨⟨w.heap.size, 0, 0, 0⟩, by simp, rfl⟩
  · cases h

/-- a map is written -/
theorem step_map {ids : Nat → Prop} {b : Nat} {l : Loc} {ob : Obj} (hw : WR ι H w) (hb : ι b = some l) (hoc : H.entries b = some ob) (cs : List AV) (es : Array MapEntry) (clock : Nat) (hm : MR ι cs es.toList) :
    Step ids ι H w ι (H.put b { ob with cs := cs }) { w with heap := w.heap.setIfInBounds l.blk (.map es clock) } := by
  obtain ⟨ho, hk⟩ := Heap.entries_eq hoc
  have hf : ob.kind.isFree = true := by cases q : ob.kind <;> rw [q] at hk <;> first | rfl | cases hk
  have hlt := (hw.obj b l ob hb ho).lt
  have hother : ∀ k, k ≠ l.blk → (w.heap.setIfInBounds l.blk (.map es clock))[k]? = w.heap[k]? := fun k h => by rw [Array.getElem?_setIfInBounds_ne (Ne.symm h)]
  refine ⟨Ext.refl _, ⟨?_, ?_, hw.new, ?_⟩, Nat.le_refl _, fun _ h k => (k h).elim, ?_, ?_, rfl, rfl, rfl, by simp, ?_, fun _ _ h k => by rw [h] at k; cases k⟩
  · intro b1 l1 o1 e1 g1
    rw [Heap.get_put] at g1
    by_cases q : b1 = b
    · subst q
      rw [hb] at e1; cases e1
      simp only [if_true] at g1; cases g1
      exact .of_map hk ⟨es, clock, by simp [hlt], hm⟩
    · simp only [q, if_false] at g1
      refine (hw.obj b1 l1 o1 e1 g1).mono (Ext.refl _) (hother _ fun heq => ?_)
      have := (hw.apart b1 b l1 l o1 ob q e1 hb g1 ho heq).2.1
      rw [hf] at this; cases this
  · intro b1 b2 l1 l2 o1 o2 hne e1 e2 g1 g2 heq
    rw [Heap.get_put] at g1 g2
    by_cases q1 : b1 = b
    · subst q1
      have q2 : b2 ≠ b1 := Ne.symm hne
      simp only [q2, if_false] at g2
      rw [hb] at e1; cases e1
      have := (hw.apart b1 b2 l l2 ob o2 hne hb e2 ho g2 heq).1
      rw [hf] at this; cases this
    · by_cases q2 : b2 = b
      · subst q2
        simp only [q1, if_false] at g1
        rw [hb] at e2; cases e2
        have := (hw.apart b1 b2 l1 l o1 ob hne e1 hb g1 ho heq).2.1
        rw [hf] at this; cases this
      · simp only [q1, q2, if_false] at g1 g2
        exact hw.apart b1 b2 l1 l2 o1 o2 hne e1 e2 g1 g2 heq
  · intro b1 l1 hb1; rw [Heap.get_put]; split
    · simp
    · exact hw.vis b1 l1 hb1
  · intro b1 h; rw [Heap.get_put]; split
    · simp
    · exact h
  · intro b1 l1 e1 h; rw [Heap.get_put] at h
    by_cases q : b1 = b
    · subst q; rw [ho]; simp
    · simpa [q] using h
  · intro k hk' hfr
    exact hother k (fun e => hfr b l hb (by rw [ho]; simp) e.symm)

include hC
theorem mapUpdate_sound {ids : Nat → Prop} (hw : WR ι H w) {t : TypeId} {m k v : AV} {m' k' v' : Value} (hm : VR ι m m') (hk : VR ι k k') (hv : VR ι v v') {H' : Heap} (h : mapUpdateA C H t m k v = some H') :
    ∃ w', (Instr.mapUpdate t m' k' v').run P w = .ok () w' ∧ Step ids ι H w ι H' w' := by
  unfold mapUpdateA at h
  split at h
  · rename_i i e1
    split at h
    · rename_i kt et hd
      split at h
      · rename_i ki b e2
        obtain ⟨hkey, h⟩ : keyA ki.desc k = true ∧ _ := by
          cases hq : keyA ki.desc k with
          | false => rw [hq] at h; cases h
          | true => rw [hq] at h; exact ⟨rfl, h⟩
        simp only [cond_true] at h
        split at h
        · rename_i ob e3
          split at h
          · rename_i cs e4
            cases h
            simp only [VR] at hm
            obtain ⟨l, hb, rfl⟩ := hm
            obtain ⟨ho, hmk⟩ := Heap.entries_eq e3
            obtain ⟨es, clock, q1, q2⟩ := (hw.obj b l ob hb ho).map hmk
            have h1 := run_underlying hC (w := w) e1
            rw [hd] at h1
            have hu := (hC.ty kt ki e2).1
            have hik := key_sound hk hkey
            rcases upd_sound hk hv 0 clock q2 e4 with ⟨r1, r2⟩ | ⟨j, e, r1, r2, r3, r4⟩
            · refine ⟨{ w with heap := w.heap.setIfInBounds l.blk (.map (es.push { key := k', val := v', born := clock }) (clock + 1)) }, ?_, (step_map hw hb e3 cs _ _ (by simpa using r2)).cast (HEq2.refl _) (HEq2.write _ _ _)⟩
              simp [Instr.mapUpdate, h1, MapKept.run_getObj_map q1, MapKept.run_checkKey hu hik, MapKept.run_findKey hu r1, MapKept.run_setObj_map _ q1, Result.andThen]
            · refine ⟨{ w with heap := w.heap.setIfInBounds l.blk (.map (es.modify j fun e => { e with key := k', val := v' }) clock) }, ?_, (step_map hw hb e3 cs _ _ (by simpa using r4)).cast (HEq2.refl _) (HEq2.write _ _ _)⟩
              have r2' : es[j]? = some e := by simpa using r2
              simp [Instr.mapUpdate, h1, MapKept.run_getObj_map q1, MapKept.run_checkKey hu hik, MapKept.run_findKey hu r1, r2', r3, MapKept.run_keyThatStays hik, MapKept.run_setObj_map _ q1, Result.andThen]
          · cases h
        · cases h
      · cases h
    · cases h
  · cases h
omit hC
theorem look_sound {d : TypeDesc} {z : Option AV} {ok : Bool} {k : AV} {k' : Value} (hk : VR ι k k') {cs : List AV} {es : List MapEntry} (hm : MR ι cs es) {v : AV} (h : lookA d z ok k cs = some v) :
    ∃ r, Instr.findNow d k' es 0 = some r ∧ ((∃ u x, r = some u ∧ VR ι x u.2 ∧ v = cond ok (.tup [x, .bool true]) x) ∨ (r = none ∧ ∃ x, z = some x ∧ v = cond ok (.tup [x, .bool false]) x)) := by
  unfold lookA at h
  split at h
  · rename_i x e
    cases h
    rcases find_sound hk (n := 0) hm e with ⟨q, _⟩ | ⟨j, en, u, q, r1, r2, r3, r4⟩
    · cases q
    · cases q; exact ⟨_, r1, .inl ⟨_, _, rfl, r4, rfl⟩⟩
  · rename_i e
    cases z with
    | none => cases h
    | some x =>
      cases h
      rcases find_sound hk (n := 0) hm e with ⟨_, q⟩ | ⟨j, en, u, q, _⟩
      · exact ⟨_, q, .inr ⟨rfl, x, rfl, rfl⟩⟩
      · cases q
  · cases h
include hC
theorem lookup_sound (hw : WR ι H w) {t : TypeId} {m k : AV} {m' k' : Value} (hm : VR ι m m') (hk : VR ι k k') {ok : Bool} {v : AV} (h : lookupA C H t m k ok = some v) :
    ∃ v', (Instr.lookup t m' k' ok).run P w = .ok v' w ∧ VR ι v v' := by
  unfold lookupA at h
  split at h
  · rename_i i e1
    split at h
    · rename_i kt et hd
      split at h
      · rename_i ki ei e2 e3
        obtain ⟨hkey, h⟩ : keyA ki.desc k = true ∧ _ := by
          cases hq : keyA ki.desc k with
          | false => rw [hq] at h; cases h
          | true => rw [hq] at h; exact ⟨rfl, h⟩
        simp only [cond_true] at h
        have h1 := run_underlying hC (w := w) e1
        rw [hd] at h1
        have hu := (hC.ty kt ki e2).1
        have hik := key_sound hk hkey
        have hz : ∀ x, ei.zval = some x → ∃ z, (zeroValue et).run P w = .ok z w ∧ VR ι x z := fun x hx => by
          obtain ⟨j, z, q1, q2, q3⟩ := hC.zv et ei x e3 hx
          exact ⟨z, by simp [zeroValue, typeInfo, q1, q2], q3 ι⟩
        have fin : ∀ (es : Array MapEntry) (cs : List AV), MR ι cs es.toList → lookA ki.desc ei.zval ok k cs = some v →
            ((m' = .map none ∧ es = #[]) ∨ ∃ r clock, m' = .map (some r) ∧ w.heap[r]? = some (.map es clock)) →
            ∃ v', (Instr.lookup t m' k' ok).run P w = .ok v' w ∧ VR ι v v' := by
          intro es cs hmr hl hes
          obtain ⟨r, hf, hr⟩ := look_sound hk hmr hl
          rcases hr with ⟨u, x, rfl, hx, rfl⟩ | ⟨rfl, x, hzx, rfl⟩
          · cases ok with
            | true => exact ⟨.tuple #[u.2, .bool true], by
              rcases hes with ⟨rfl, rfl⟩ | ⟨r, clock, rfl, q1⟩
              · simp_all [Instr.lookup, MapKept.run_checkKey hu hik, MapKept.run_findKey hu hf, Result.andThen]
              · have q2 := MapKept.run_getObj_map (P := P) q1
                simp [Instr.lookup, h1, q2, MapKept.run_checkKey hu hik, MapKept.run_findKey hu hf, Result.andThen], by simp only [cond_true, VR]; exact ⟨[u.2, .bool true], VRs_cons hx (VRs_cons (by simp only [VR]) VRs_nil), rfl⟩⟩
            | false => exact ⟨u.2, by
              rcases hes with ⟨rfl, rfl⟩ | ⟨r, clock, rfl, q1⟩
              · simp_all [Instr.lookup, MapKept.run_checkKey hu hik, MapKept.run_findKey hu hf, Result.andThen]
              · have q2 := MapKept.run_getObj_map (P := P) q1
                simp [Instr.lookup, h1, q2, MapKept.run_checkKey hu hik, MapKept.run_findKey hu hf, Result.andThen], hx⟩
          · obtain ⟨z, hzr, hzv⟩ := hz x hzx
            cases ok with
            | true => exact ⟨.tuple #[z, .bool false], by
              rcases hes with ⟨rfl, rfl⟩ | ⟨r, clock, rfl, q1⟩
              · simp_all [Instr.lookup, MapKept.run_checkKey hu hik, MapKept.run_findKey hu hf, hzr, Result.andThen]
              · have q2 := MapKept.run_getObj_map (P := P) q1
                simp [Instr.lookup, h1, q2, MapKept.run_checkKey hu hik, MapKept.run_findKey hu hf, hzr, Result.andThen], by simp only [cond_true, VR]; exact ⟨[z, .bool false], VRs_cons hzv (VRs_cons (by simp only [VR]) VRs_nil), rfl⟩⟩
            | false => exact ⟨z, by
              rcases hes with ⟨rfl, rfl⟩ | ⟨r, clock, rfl, q1⟩
              · simp_all [Instr.lookup, MapKept.run_checkKey hu hik, MapKept.run_findKey hu hf, hzr, Result.andThen]
              · have q2 := MapKept.run_getObj_map (P := P) q1
                simp [Instr.lookup, h1, q2, MapKept.run_checkKey hu hik, MapKept.run_findKey hu hf, hzr, Result.andThen], hzv⟩
        split at h
        · simp only [VR] at hm; subst hm
          exact fin #[] [] rfl h (.inl ⟨rfl, rfl⟩)
        · rename_i b _
          split at h
          · rename_i ob e4
            simp only [VR] at hm
            obtain ⟨l, hb, rfl⟩ := hm
            obtain ⟨ho, hmk⟩ := Heap.entries_eq e4
            obtain ⟨es, clock, q1, q2⟩ := (hw.obj b l ob hb ho).map hmk
            exact fin es ob.cs q2 h (.inr ⟨_, clock, rfl, q1⟩)
          · cases h
        · cases h
      · cases h
    · cases h
  · cases h
omit hC
theorem MR.len : ∀ {cs : List AV} {es : List MapEntry}, MR ι cs es → cs.length / 2 = es.length
  | [], es, m => by simp only [MR] at m; subst m; rfl
  | [_], es, m => m.elim
  | x :: v :: r, es, m => by obtain ⟨e, es', rfl, _, _, h⟩ := m; have := MR.len h; simp only [List.length_cons]; omega
include hC
theorem lenMap_sound (hw : WR ι H w) {t : TypeId} {i : TI} (ht : C.ty t = some i) {x : AV} {x' : Value} (hx : VR ι x x') {v : AV} (h : lenMapA H i.desc x = some v) (tys : Array TypeId) (h0 : tys[0]? = some t) (ty : TypeId) (args : Array Value) (ha : args[0]? = some x') :
    ∃ v', (Builtin.len_ tys ty args).run P w = .ok v' w ∧ VR ι v v' := by
  have h1 := run_underlying hC (w := w) ht
  unfold lenMapA at h
  split at h
  · rename_i k e b hd
    split at h
    · rename_i ob e4
      cases h
      rw [hd] at h1
      simp only [VR] at hx
      obtain ⟨l, hb, rfl⟩ := hx
      obtain ⟨ho, hmk⟩ := Heap.entries_eq e4
      obtain ⟨es, clock, q1, q2⟩ := (hw.obj b l ob hb ho).map hmk
      have q3 := MapKept.run_getObj_map (P := P) q1
      have := q2.len
      simp only [VR]
      exact ⟨.int .i64 es.size, by simp [Builtin.len_, h0, ha, h1, q3, goInt], by rw [this]; simp⟩
    · cases h
  · cases h
omit hC
theorem bytes_sound : ∀ {cs : List AV} {vs : List Value} {s : List UInt8}, bytesA cs = some s → VRs ι cs vs → ∃ ns : List Int, vs = ns.map (fun n => Value.int .u8 n) ∧ s = ns.map fun n => UInt8.ofNat n.toNat
  | [], vs, s, h, r => by simp only [bytesA] at h; cases h; simp only [VRs] at r; subst r; exact ⟨[], rfl, rfl⟩
  | x :: cs, vs, s, h, r => by
    unfold bytesA at h
    split at h
    · rename_i e; cases e
    · rename_i n r' e
      cases e
      split at h
      · rename_i s' e2
        cases h
        simp only [VRs, VR] at r
        obtain ⟨y, ys, rfl, hys, rfl⟩ := r
        obtain ⟨ns, rfl, rfl⟩ := bytes_sound e2 hys
        exact ⟨n :: ns, rfl, rfl⟩
      · cases h
    · cases h
theorem num_min {k : IntKind} {e : Exp} : VR ι (numA k e) (.int k e.eval) := by
  unfold numA
  split
  · simp only [VR, Exp.eval]
  · simp only [VR]
theorem minMax_sound (hC : C.Ok P) {mn : Bool} {x y : AV} {x' y' : Value} (hx : VR ι x x') (hy : VR ι y y') {v : AV} (h : minMaxA C mn x y = some v) (tys : Array TypeId) (ty : TypeId) :
    ∃ v', (cond mn (Builtin.min_ tys ty #[x', y']) (Builtin.max_ tys ty #[x', y'])).run P w = .ok v' w ∧ VR ι v v' := by
  unfold minMaxA at h
  split at h
  · rename_i k a k' b
    cases h
    simp only [VR] at hx hy; subst hx; subst hy
    cases mn
    · exact ⟨.int k (if b > a then b else a), by simp [Builtin.max_, Builtin.max2], by simp only [cond_false, VR]⟩
    · exact ⟨.int k (if b < a then b else a), by simp [Builtin.min_, Builtin.min2], by simp only [cond_true, VR]⟩
  · split at h
    · rename_i k a k' b e1 e2
      have hx' := num_sound hx e1
      have hy' := num_sound hy e2
      subst hx'; subst hy'
      cases mn
      · simp only [cond_false] at h ⊢
        split at h
        · rename_i e; cases h
          have := hC.orc _ _ _ _ e
          simp only [cmpVal, decide_eq_true_eq] at this
          refine ⟨.int k b.eval, by simp [Builtin.max_, Builtin.max2]; omega, num_min⟩
        · rename_i e; cases h
          have := hC.orc _ _ _ _ e
          simp only [cmpVal, decide_eq_false_iff_not] at this
          refine ⟨.int k a.eval, by simp [Builtin.max_, Builtin.max2]; omega, num_min⟩
        · cases h
      · simp only [cond_true] at h ⊢
        split at h
        · rename_i e; cases h
          have := hC.orc _ _ _ _ e
          simp only [cmpVal, decide_eq_true_eq] at this
          refine ⟨.int k b.eval, by simp [Builtin.min_, Builtin.min2]; omega, num_min⟩
        · rename_i e; cases h
          have := hC.orc _ _ _ _ e
          simp only [cmpVal, decide_eq_false_iff_not] at this
          refine ⟨.int k a.eval, by simp [Builtin.min_, Builtin.min2]; omega, num_min⟩
        · cases h
    · cases h
omit [Env] in
theorem push_from (ns : List Int) : ∀ s : List UInt8, ns.foldl (fun r n => r.push (UInt8.ofNat n.toNat)) (⟨⟨s⟩⟩ : ByteArray) = ⟨⟨s ++ ns.map fun n => UInt8.ofNat n.toNat⟩⟩ := by
  induction ns with
  | nil => intro s; simp
  | cons n ns ih =>
    intro s
    have : (⟨⟨s⟩⟩ : ByteArray).push (UInt8.ofNat n.toNat) = ⟨⟨s ++ [UInt8.ofNat n.toNat]⟩⟩ := by
      apply ByteArray.ext; simp [ByteArray.push]
    rw [List.foldl_cons, this, ih]; simp
omit [Env] in
theorem push_all (ns : List Int) : ns.foldl (fun r n => r.push (UInt8.ofNat n.toNat)) ByteArray.empty = ⟨⟨ns.map fun n => UInt8.ofNat n.toNat⟩⟩ := push_from ns []
theorem toString_sound (hC : C.Ok P) (hw : WR ι H w) {src dst : TypeId} {x : AV} {x' : Value} (hx : VR ι x x') {v : AV} (h : toStringA C H src dst x = some v) : ∃ v', (convert src dst x').run P w = .ok v' w ∧ VR ι v v' := by
  unfold toStringA at h
  split at h
  · rename_i i j e1 e2
    have h1 := run_underlying hC (w := w) e1
    have h2 := run_underlying hC (w := w) e2
    split at h
    · rename_i e hi hj
      rw [hi] at h1; rw [hj] at h2
      split at h
      · rename_i ei e3
        have h3 := run_underlying hC (w := w) e3
        split at h
        · rename_i hd
          cases h
          rw [hd] at h3
          simp only [VR] at hx; subst hx
          exact ⟨.string .empty, by simp [convert, h1, h2, h3, Conv.bytesToString], by simp only [VR]; rfl⟩
        · rename_i b o n hd
          rw [hd] at h3
          split at h
          · rename_i ob e4
            cases hle : Nat.ble (o + n) ob.cs.length with
            | false => rw [hle] at h; cases h
            | true =>
              rw [hle] at h
              simp only [cond_true] at h
              split at h
              · rename_i s e5
                cases h
                simp only [VR] at hx
                obtain ⟨l, cap, hb, hcap, hroom, rfl⟩ := hx
                obtain ⟨vs, k1, k2, k3⟩ := cells_at hw hb e4 o n (Nat.le_of_ble_eq_true hle)
                obtain ⟨ns, rfl, rfl⟩ := bytes_sound e5 k2
                have hlen : ns.length = n := by simpa using k1
                have hl := run_loadCells_list (P := P) w ⟨l.blk, l.shift + o, none⟩ (ns.map fun n => Value.int .u8 n) (fun j v hv => by rw [add_addr]; exact k3 j v hv)
                rw [k1] at hl
                have := run_bytesToString (P := P) w ⟨l.blk, l.shift + o, none⟩ n cap ns hl
                refine ⟨_, by simp only [convert, Sem.run_bind, h1, h2, Result.andThen_ok, h3]; exact this, ?_⟩
                simp only [VR]
                rw [push_all]
              · cases h
          · cases h
        · cases h
      · cases h
    · cases h
  · cases h
end
end Go.Ev
