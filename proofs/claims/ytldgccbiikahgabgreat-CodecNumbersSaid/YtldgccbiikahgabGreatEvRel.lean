import Derived.Test.YtldgccbiikahgabGreatEvDef
import Derived.Laws.IdiomCopy
import Derived.Laws.Cells
import Derived.Laws.Strings
import Derived.Laws.Sem
import Derived.Lib.SmallJoins
namespace Go.Ev
open Go Go.RowKit
variable [Env]

/-- keys and values by turns -/
def MR (ι : Map) : List AV → List MapEntry → Prop
  | [], es => es = []
  | [_], _ => False
  | k :: v :: r, es => ∃ e es', es = e :: es' ∧ VR ι k e.key ∧ VR ι v e.val ∧ MR ι r es'
theorem MR.ext {ι ι' : Map} (h : Ext ι ι') : ∀ {cs : List AV} {es : List MapEntry}, MR ι cs es → MR ι' cs es
  | [], es, r => r
  | [_], es, r => r.elim
  | k :: v :: r, es, m => by obtain ⟨e, es', h1, h2, h3, h4⟩ := m; exact ⟨e, es', h1, h2.ext h, h3.ext h, MR.ext h h4⟩

def CellsR (ι : Map) (w : World) (l : Loc) (o : Obj) : Prop := ∃ c et lo hi, w.heap[l.blk]? = some (.cells c et (lo, hi)) ∧ c.size = l.room ∧ (∀ i, i < l.room → ¬ (lo ≤ i ∧ i < hi)) ∧
    l.es = o.es ∧ l.shift + o.cs.length ≤ l.room ∧ ∀ (i : Nat) (x : AV), o.cs[i]? = some x → ∃ v, c[l.shift + i]? = some v ∧ VR ι x v
def MapR (ι : Map) (w : World) (l : Loc) (o : Obj) : Prop := ∃ es clock, w.heap[l.blk]? = some (.map es clock) ∧ MR ι o.cs es.toList
/-- a block is what its object says -/
def Blk (ι : Map) (w : World) (l : Loc) (o : Obj) : Prop := cond o.kind.isMap (MapR ι w l o) (CellsR ι w l o)
theorem Blk.cells {ι : Map} {w : World} {l : Loc} {o : Obj} (h : Blk ι w l o) (hk : o.kind.isMap = false) : CellsR ι w l o := by unfold Blk at h; rw [hk] at h; exact h
theorem Blk.of_cells {ι : Map} {w : World} {l : Loc} {o : Obj} (hk : o.kind.isMap = false) (h : CellsR ι w l o) : Blk ι w l o := by unfold Blk; rw [hk]; exact h
theorem Blk.map {ι : Map} {w : World} {l : Loc} {o : Obj} (h : Blk ι w l o) (hk : o.kind.isMap = true) : MapR ι w l o := by unfold Blk at h; rw [hk] at h; exact h
theorem Blk.of_map {ι : Map} {w : World} {l : Loc} {o : Obj} (hk : o.kind.isMap = true) (h : MapR ι w l o) : Blk ι w l o := by unfold Blk; rw [hk]; exact h
theorem Blk.lt {ι : Map} {w : World} {l : Loc} {o : Obj} (h : Blk ι w l o) : l.blk < w.heap.size := by
  cases hk : o.kind.isMap with
  | false => obtain ⟨c, et, lo, hi, h1, _⟩ := h.cells hk; exact (Array.getElem?_eq_some_iff.1 h1).1
  | true => obtain ⟨es, clock, h1, _⟩ := h.map hk; exact (Array.getElem?_eq_some_iff.1 h1).1
theorem Blk.mono {ι ι' : Map} {w w' : World} {l : Loc} {o : Obj} (h : Blk ι w l o) (he : Ext ι ι') (hb : w'.heap[l.blk]? = w.heap[l.blk]?) : Blk ι' w' l o := by
  cases hk : o.kind.isMap with
  | false =>
    obtain ⟨c, et, lo, hi, h1, h2, h3, h4, h5, h6⟩ := h.cells hk
    exact .of_cells hk ⟨c, et, lo, hi, by rw [hb]; exact h1, h2, h3, h4, h5, fun i x hx => by obtain ⟨v, hv, r⟩ := h6 i x hx; exact ⟨v, hv, r.ext he⟩⟩
  | true => obtain ⟨es, clock, h1, h2⟩ := h.map hk; exact .of_map hk ⟨es, clock, by rw [hb]; exact h1, h2.ext he⟩
omit [Env] in
theorem Heap.cells_eq {H : Heap} {b : Nat} {o : Obj} (h : H.cells b = some o) : H.get b = some o ∧ o.kind.isMap = false := by
  unfold Heap.cells at h
  split at h
  · rename_i x e
    cases hk : x.kind.isMap with
    | true => rw [hk] at h; cases h
    | false => rw [hk] at h; cases h; exact ⟨e, hk⟩
  · cases h
omit [Env] in
theorem Heap.cells_get {H H2 : Heap} {b : Nat} (h : H2.get b = H.get b) : H2.cells b = H.cells b := by unfold Heap.cells; rw [h]

/-- the world holds what the abstract heap says -/
structure WR (ι : Map) (H : Heap) (w : World) : Prop where
  obj : ∀ b l o, ι b = some l → H.get b = some o → Blk ι w l o
  apart : ∀ b1 b2 l1 l2 o1 o2, b1 ≠ b2 → ι b1 = some l1 → ι b2 = some l2 → H.get b1 = some o1 → H.get b2 = some o2 → l1.blk = l2.blk →
    o1.kind.isFree = false ∧ o2.kind.isFree = false ∧ (o1.kind.isOld = false → o2.kind.isOld = true ∧ l2.shift + o2.cs.length ≤ l1.shift + o1.kind.own ∧ o1.kind.own ≤ o1.cs.length)
  new : ∀ b, H.next ≤ b → ι b = none
  vis : ∀ b l, ι b = some l → H.get b ≠ none

theorem WR.cells {ι : Map} {H : Heap} {w : World} (h : WR ι H w) {b : Nat} {l : Loc} {o : Obj} (hb : ι b = some l) (ho : H.cells b = some o) : CellsR ι w l o :=
  (h.obj b l o hb (Heap.cells_eq ho).1).cells (Heap.cells_eq ho).2

/-- one step of whatever size; 'ids' are the numbers that were kept for it -/
structure Step (ids : Nat → Prop) (ι : Map) (H : Heap) (w : World) (ι' : Map) (H' : Heap) (w' : World) : Prop where
  ext : Ext ι ι'
  wr : WR ι' H' w'
  next : H.next ≤ H'.next
  dom : ∀ b, ι b = none → ι' b ≠ none → ids b ∨ H.next ≤ b
  keep : ∀ b, H.get b ≠ none → H'.get b ≠ none
  junk : ∀ b l, ι b = some l → H'.get b ≠ none → H.get b ≠ none
  os : w'.os = w.os
  tape : w'.tape = w.tape
  output : w'.output = w.output
  size : w.heap.size ≤ w'.heap.size
  frame : ∀ c, c < w.heap.size → (∀ b l, ι b = some l → H.get b ≠ none → l.blk ≠ c) → w'.heap[c]? = w.heap[c]?
  fresh : ∀ b l, ι b = none → ι' b = some l → w.heap.size ≤ l.blk ∨ ∃ b0 l0, ι b0 = some l0 ∧ H.get b0 ≠ none ∧ l0.blk = l.blk

theorem Step.refl {ids : Nat → Prop} {ι : Map} {H : Heap} {w : World} (h : WR ι H w) : Step ids ι H w ι H w :=
  ⟨Ext.refl _, h, Nat.le_refl _, fun _ h k => (k h).elim, fun _ h => h, fun _ _ _ h => h, rfl, rfl, rfl, Nat.le_refl _, fun _ _ _ => rfl, fun _ _ h k => by rw [h] at k; cases k⟩

theorem Step.trans {i1 i2 ids : Nat → Prop} {ι ι1 ι2 : Map} {H H1 H2 : Heap} {w w1 w2 : World} (h1 : ∀ b, i1 b → ids b) (h2 : ∀ b, i2 b → ids b)
    (h : Step i1 ι H w ι1 H1 w1) (k : Step i2 ι1 H1 w1 ι2 H2 w2) : Step ids ι H w ι2 H2 w2 where
  ext := h.ext.trans k.ext
  wr := k.wr
  next := Nat.le_trans h.next k.next
  dom b hb hn := by
    by_cases e : ι1 b = none
    · rcases k.dom b e hn with q | q
      · exact .inl (h2 b q)
      · exact .inr (Nat.le_trans h.next q)
    · rcases h.dom b hb e with q | q
      · exact .inl (h1 b q)
      · exact .inr q
  keep b hb := k.keep b (h.keep b hb)
  junk b l hb hn := h.junk b l hb (k.junk b l (h.ext b l hb) hn)
  os := k.os.trans h.os
  tape := k.tape.trans h.tape
  output := k.output.trans h.output
  size := Nat.le_trans h.size k.size
  frame c hc hf := by
    rw [k.frame c (Nat.lt_of_lt_of_le hc h.size), h.frame c hc hf]
    intro b l hb hg
    cases e : ι b with
    | some l' =>
      have := h.ext b l' e; rw [hb] at this; cases this
      exact hf b l e (h.junk b l e hg)
    | none =>
      rcases h.fresh b l e hb with q | ⟨b0, l0, e0, g0, q⟩
      · omega
      · rw [← q]; exact hf b0 l0 e0 g0
  fresh b l hb hl := by
    cases e : ι1 b with
    | some l' =>
      have := k.ext b l' e; rw [hl] at this; cases this
      exact h.fresh b l hb e
    | none =>
      rcases k.fresh b l e hl with q | ⟨b0, l0, e0, g0, q⟩
      · exact .inl (Nat.le_trans h.size q)
      · cases e1 : ι b0 with
        | some l' =>
          have := h.ext b0 l' e1; rw [e0] at this; cases this
          exact .inr ⟨b0, l0, e1, h.junk b0 l0 e1 g0, q⟩
        | none =>
          rcases h.fresh b0 l0 e1 e0 with r | ⟨b3, l3, e3, g3, r⟩
          · exact .inl (by omega)
          · exact .inr ⟨b3, l3, e3, g3, r.trans q⟩

theorem Step.weaken {i1 ids : Nat → Prop} {ι ι1 : Map} {H H1 : Heap} {w w1 : World} (h1 : ∀ b, i1 b → ids b) (h : Step i1 ι H w ι1 H1 w1) : Step ids ι H w ι1 H1 w1 :=
  { h with dom := fun b hb hn => (h.dom b hb hn).imp (h1 b) id }

/-! ### the world's side -/
omit [Env] in
theorem heap_setCell_at (w : World) (b o : Nat) (v : Value) (c : Array Value) (et : TypeId) (fr : Nat × Nat) (h : w.heap[b]? = some (.cells c et fr)) :
    (w.setCell ⟨b, o, none⟩ v).heap[b]? = some (.cells (c.setIfInBounds o v) et fr) := by
  simp [World.setCell, Array.getElem?_modify, h]

omit [Env] in
theorem setCells_block (b : Nat) (et : TypeId) (fr : Nat × Nat) : ∀ (vs : List Value) (o : Nat) (w : World) (c : Array Value), w.heap[b]? = some (.cells c et fr) → o + vs.length ≤ c.size →
    ∃ c', (w.setCells b o vs).heap[b]? = some (.cells c' et fr) ∧ c'.size = c.size ∧ ∀ j, c'[j]? = if o ≤ j ∧ j < o + vs.length then vs[j - o]? else c[j]?
  | [], o, w, c, h, _ => ⟨c, h, rfl, fun j => by rw [if_neg (by simp only [List.length_nil]; omega)]⟩
  | v :: vs, o, w, c, h, hl => by
    obtain ⟨c', h1, h2, h3⟩ := setCells_block b et fr vs (o + 1) (w.setCell ⟨b, o, none⟩ v) (c.setIfInBounds o v) (heap_setCell_at w b o v c et fr h) (by simp at hl ⊢; omega)
    refine ⟨c', h1, by simpa using h2, fun j => ?_⟩
    rw [h3 j]
    by_cases e : o + 1 ≤ j ∧ j < o + 1 + vs.length
    · rw [if_pos e, if_pos (by simp; omega)]
      have : j - o = (j - (o + 1)) + 1 := by omega
      rw [this]; simp
    · rw [if_neg e]
      by_cases e2 : j = o
      · subst e2
        have hjc : j < c.size := by simp at hl; omega
        rw [if_pos (by simp)]; simp [hjc]
      · rw [if_neg (by simp; omega), Array.getElem?_setIfInBounds_ne (by omega)]

omit [Env] in
theorem setCells_other (b : Nat) : ∀ (vs : List Value) (o : Nat) (w : World) (k : Nat), k ≠ b → (w.setCells b o vs).heap[k]? = w.heap[k]?
  | [], _, _, _, _ => rfl
  | v :: vs, o, w, k, h => by rw [World.setCells, setCells_other b vs (o + 1) _ k h, Below.heap_setCell _ _ _ _ (by simpa using h)]
omit [Env] in
theorem setCells_size (b : Nat) : ∀ (vs : List Value) (o : Nat) (w : World), (w.setCells b o vs).heap.size = w.heap.size
  | [], _, _ => rfl
  | v :: vs, o, w => by rw [World.setCells, setCells_size b vs (o + 1)]; simp [World.setCell]
omit [Env] in
theorem setCells_rest (b : Nat) : ∀ (vs : List Value) (o : Nat) (w : World), (w.setCells b o vs).os = w.os ∧ (w.setCells b o vs).tape = w.tape ∧ (w.setCells b o vs).output = w.output
  | [], _, _ => ⟨rfl, rfl, rfl⟩
  | v :: vs, o, w => by rw [World.setCells]; exact setCells_rest b vs (o + 1) _

omit [Env] in
theorem Heap.get_put (H : Heap) (b : Nat) (o : Obj) (j : Nat) : (H.put b o).get j = if j = b then some o else H.get j := Tr.get_set _ _ _ _
omit [Env] in
theorem Heap.next_put (H : Heap) (b : Nat) (o : Obj) : (H.put b o).next = H.next := rfl
omit [Env] in
theorem Heap.add_eq {H H' : Heap} {b : Nat} {o : Obj} (h : H.add b o = some H') : H.get b = none ∧ H' = H.put b o := by
  unfold Heap.add at h
  cases e : H.get b with
  | none => rw [e] at h; cases h; exact ⟨rfl, rfl⟩
  | some x => rw [e] at h; cases h

/-- a new row in the world, a new block in the abstract heap -/
theorem step_new {ι : Map} {H H' : Heap} {w : World} {id : Nat} {cs : List AV} {es : Nat} (hw : WR ι H w) (hid : ι id = none) (hn : id < H.next) {kind : Kind} (hkm : kind.isMap = false)
    (h : H.add id { cs, es, kind } = some H') (c : Array Value) (et : TypeId) (hsz : cs.length ≤ c.size) (hc : ∀ (i : Nat) (x : AV), cs[i]? = some x → ∃ v, c[i]? = some v ∧ VR ι x v) (w0 : World) (hw0 : w0.heap = w.heap)
    (hos : w0.os = w.os) (htape : w0.tape = w.tape) (hout : w0.output = w.output) :
    Step (· = id) ι H w (fun b => if b = id then some ⟨w.heap.size, 0, c.size, es⟩ else ι b) H' { w0 with heap := w0.heap.push (.cells c et) } := by
  obtain ⟨hg, rfl⟩ := Heap.add_eq h
  have hext : Ext ι (fun b => if b = id then some ⟨w.heap.size, 0, c.size, es⟩ else ι b) := fun b l hb => by
    have : b ≠ id := fun e => by rw [e, hid] at hb; cases hb
    simp [this, hb]
  have hlt : ∀ b l o, ι b = some l → H.get b = some o → l.blk < w.heap.size := fun b l o hb ho => by
    exact (hw.obj b l o hb ho).lt
  refine ⟨hext, ⟨?_, ?_, ?_, ?_⟩, Nat.le_refl _, ?_, ?_, ?_, hos, htape, hout, by simp [hw0], ?_, ?_⟩
  · intro b l o hb ho
    rw [Heap.get_put] at ho
    by_cases e : b = id
    · subst e
      simp at hb ho
      subst hb ho
      refine .of_cells hkm ⟨c, et, 0, 0, by simp [hw0], rfl, by omega, rfl, by simpa using hsz, fun i x hx => ?_⟩
      obtain ⟨v, hv, r⟩ := hc i x hx
      exact ⟨v, by simpa using hv, r.ext hext⟩
    · simp only [e, if_false] at hb ho
      refine (hw.obj b l o hb ho).mono hext ?_
      have := hlt b l o hb ho
      simp only [hw0]
      rw [Array.getElem?_push, if_neg (by omega)]
  · intro b1 b2 l1 l2 o1 o2 hne e1 e2 g1 g2 hb
    rw [Heap.get_put] at g1 g2
    by_cases q1 : b1 = id
    · have q2 : b2 ≠ id := fun e => hne (q1.trans e.symm)
      simp only [q1, if_true] at e1; simp only [q2, if_false] at e2 g2
      cases e1
      have := hlt b2 l2 o2 e2 g2
      simp at hb; omega
    · by_cases q2 : b2 = id
      · simp only [q2, if_true] at e2; simp only [q1, if_false] at e1 g1
        cases e2
        have := hlt b1 l1 o1 e1 g1
        simp at hb; omega
      · simp only [q1, q2, if_false] at e1 e2 g1 g2
        exact hw.apart b1 b2 l1 l2 o1 o2 hne e1 e2 g1 g2 hb
  · intro b hb
    have : b ≠ id := by have := Heap.next_put H id { cs, es, kind }; omega
    simp only [this, if_false]; exact hw.new b hb
  · intro b l hb; rw [Heap.get_put]; split
    · simp
    · rename_i e; simp only [e, if_false] at hb; exact hw.vis b l hb
  · intro b hb hn'
    by_cases e : b = id
    · exact .inl e
    · simp [e, hb] at hn'
  · intro b hb; rw [Heap.get_put]; split
    · simp
    · exact hb
  · intro b l hb hg'; rw [Heap.get_put] at hg'
    have : b ≠ id := fun e => by rw [e, hid] at hb; cases hb
    simpa [this] using hg'
  · intro k hk _
    simp only [hw0]
    rw [Array.getElem?_push, if_neg (by omega)]
  · intro b l hb hl
    by_cases e : b = id
    · simp [e] at hl; subst hl; exact .inl (Nat.le_refl _)
    · simp [e, hb] at hl

/-- a part of a block is written anew -/
theorem step_store {ids : Nat → Prop} {ι : Map} {H : Heap} {w : World} {b : Nat} {l : Loc} {ob : Obj} (hw : WR ι H w) (hb : ι b = some l) (hoc : H.cells b = some ob)
    (o : Nat) (hf : ob.kind.lets o = true) (xs : List AV) (vs : List Value) (hx : VRs ι xs vs) (hl : o + xs.length ≤ ob.cs.length) :
    Step ids ι H w ι (H.put b { ob with cs := splice ob.cs o xs }) (w.setCells l.blk (l.shift + o) vs) := by
  obtain ⟨c, et, lo, hi, h1, h2, h3, h4, h5, h6⟩ := hw.cells hb hoc
  obtain ⟨ho, hkm⟩ := Heap.cells_eq hoc
  have hno : ob.kind.isOld = false := by cases hk : ob.kind <;> rw [hk] at hf <;> first | rfl | cases hf
  have hown : ob.kind.isFree = false → ob.kind.own ≤ o := fun hk => by
    cases hk2 : ob.kind with
    | free => rw [hk2] at hk; cases hk
    | tip n => rw [hk2] at hf; simpa [Kind.lets, Kind.own] using hf
    | old => rw [hk2] at hf; cases hf
    | map => rw [hk2] at hf; cases hf
  have hlen := hx.len
  have hsl : (splice ob.cs o xs).length = ob.cs.length := by simp [splice]; omega
  obtain ⟨c', k1, k2, k3⟩ := setCells_block l.blk et (lo, hi) vs (l.shift + o) w c h1 (by omega)
  refine ⟨Ext.refl _, ⟨?_, ?_, ?_, ?_⟩, Nat.le_refl _, fun _ h k => (k h).elim, ?_, ?_, (setCells_rest _ _ _ _).1, (setCells_rest _ _ _ _).2.1, (setCells_rest _ _ _ _).2.2, by rw [setCells_size]; exact Nat.le_refl _, ?_, fun _ _ h k => by rw [h] at k; cases k⟩
  · intro b1 l1 o1 e1 g1
    rw [Heap.get_put] at g1
    by_cases q : b1 = b
    · subst q
      rw [hb] at e1; cases e1
      simp only [if_true] at g1; cases g1
      refine .of_cells hkm ⟨c', et, lo, hi, k1, k2.trans h2, h3, h4, by simp only [hsl]; exact h5, fun i x hi' => ?_⟩
      simp only at hi'
      rw [k3]
      have hix : i < ob.cs.length := by rw [← hsl]; exact (List.getElem?_eq_some_iff.1 hi').1
      by_cases q2 : o ≤ i ∧ i < o + xs.length
      · rw [if_pos (by omega)]
        have hxi : xs[i - o]? = some x := by
          rw [← hi', splice, List.append_assoc, List.getElem?_append_right (by simp; omega), List.getElem?_append_left (by simp; omega)]
          simp; congr 1; omega
        obtain ⟨v, hv, r⟩ := hx.get hxi
        exact ⟨v, by rw [← hv]; congr 1; omega, r⟩
      · rw [if_neg (by omega)]
        refine h6 i x ?_
        rw [← hi', splice, List.append_assoc]
        by_cases q3 : i < o
        · rw [List.getElem?_append_left (by simp; omega), List.getElem?_take, if_pos q3]
        · rw [List.getElem?_append_right (by simp; omega), List.getElem?_append_right (by simp; omega), List.getElem?_drop]
          congr 1; simp; omega
    · simp only [q, if_false] at g1
      by_cases heq : l1.blk = l.blk
      · obtain ⟨r1, r2, r3⟩ := hw.apart b b1 l l1 ob o1 (Ne.symm q) hb e1 ho g1 heq.symm
        obtain ⟨r4, r5, r6⟩ := r3 hno
        have hk1 : o1.kind.isMap = false := by cases hk : o1.kind <;> rw [hk] at r4 <;> first | rfl | cases r4
        obtain ⟨c2, et2, lo2, hi2, m1, m2, m3, m4, m5, m6⟩ := (hw.obj b1 l1 o1 e1 g1).cells hk1
        rw [heq, h1] at m1; cases m1
        refine .of_cells hk1 ⟨c', et, lo, hi, by rw [heq]; exact k1, k2.trans m2, m3, m4, m5, fun i x hx' => ?_⟩
        have := (List.getElem?_eq_some_iff.1 hx').1
        have := hown r1
        rw [k3, if_neg (by omega)]
        exact m6 i x hx'
      · exact (hw.obj b1 l1 o1 e1 g1).mono (Ext.refl _) (setCells_other _ _ _ _ _ heq)
  · intro b1 b2 l1 l2 o1 o2 hne e1 e2 g1 g2 heq
    rw [Heap.get_put] at g1 g2
    by_cases q1 : b1 = b
    · subst q1
      have q2 : b2 ≠ b1 := Ne.symm hne
      simp only [q2, if_false] at g2
      simp only [if_true] at g1; cases g1
      have := hw.apart b1 b2 l1 l2 ob o2 hne e1 e2 ho g2 heq
      simpa only [hsl] using this
    · by_cases q2 : b2 = b
      · subst q2
        simp only [q1, if_false] at g1
        simp only [if_true] at g2; cases g2
        have := hw.apart b1 b2 l1 l2 o1 ob hne e1 e2 g1 ho heq
        simpa only [hsl] using this
      · simp only [q1, q2, if_false] at g1 g2
        exact hw.apart b1 b2 l1 l2 o1 o2 hne e1 e2 g1 g2 heq
  · exact hw.new
  · intro b1 l1 hb1; rw [Heap.get_put]; split
    · simp
    · exact hw.vis b1 l1 hb1
  · intro b1 h; rw [Heap.get_put]; split
    · simp
    · exact h
  · intro b1 l1 e1 h; rw [Heap.get_put] at h
    by_cases q : b1 = b
    · subst q; rw [ho]; simp
    · simpa [q] using h
  · intro k hk hfr
    exact setCells_other _ _ _ _ _ (fun e => hfr b l hb (by rw [ho]; simp) e.symm)

/-- a block from which something has been appended -/
theorem step_old {ids : Nat → Prop} {ι : Map} {H : Heap} {w : World} {b : Nat} {ob : Obj} (hw : WR ι H w) (hoc : H.cells b = some ob) : Step ids ι H w ι (H.put b { ob with kind := .old }) w := by
  obtain ⟨ho, hkm⟩ := Heap.cells_eq hoc
  refine ⟨Ext.refl _, ⟨?_, ?_, hw.new, ?_⟩, Nat.le_refl _, fun _ h k => (k h).elim, ?_, ?_, rfl, rfl, rfl, Nat.le_refl _, fun _ _ _ => rfl, fun _ _ h k => by rw [h] at k; cases k⟩
  · intro b1 l1 o1 e1 g1
    rw [Heap.get_put] at g1
    by_cases q : b1 = b
    · subst q; simp only [if_true] at g1; cases g1
      exact .of_cells rfl ((hw.obj b1 l1 ob e1 ho).cells hkm)
    · simp only [q, if_false] at g1; exact hw.obj b1 l1 o1 e1 g1
  · intro b1 b2 l1 l2 o1 o2 hne e1 e2 g1 g2 heq
    rw [Heap.get_put] at g1 g2
    by_cases q1 : b1 = b
    · have q2 : b2 ≠ b := fun e => hne (q1.trans e.symm)
      simp only [q1, if_true] at g1; simp only [q2, if_false] at g2; cases g1
      subst q1
      exact ⟨rfl, (hw.apart b1 b2 l1 l2 ob o2 hne e1 e2 ho g2 heq).2.1, fun h => by cases h⟩
    · by_cases q2 : b2 = b
      · simp only [q2, if_true] at g2; simp only [q1, if_false] at g1; cases g2
        subst q2
        obtain ⟨k1, k2, k3⟩ := hw.apart b1 b2 l1 l2 o1 ob hne e1 e2 g1 ho heq
        exact ⟨k1, rfl, fun h => ⟨rfl, (k3 h).2⟩⟩
      · simp only [q1, q2, if_false] at g1 g2; exact hw.apart b1 b2 l1 l2 o1 o2 hne e1 e2 g1 g2 heq
  · intro b1 l1 hb1; rw [Heap.get_put]; split
    · simp
    · exact hw.vis b1 l1 hb1
  · intro b1 h; rw [Heap.get_put]; split
    · simp
    · exact h
  · intro b1 l1 e1 h; rw [Heap.get_put] at h
    by_cases q : b1 = b
    · subst q; rw [ho]; simp
    · simpa [q] using h

/-- an append that found room behind the block's cells -/
theorem step_tail {ι : Map} {H H' : Heap} {w : World} {b id : Nat} {l : Loc} {ob : Obj} (hw : WR ι H w) (hid : ι id = none) (hn : id < H.next) (hb : ι b = some l) (hoc : H.cells b = some ob) (hk : ob.kind.isOld = false)
    (o : Nat) (hoo : o ≤ ob.cs.length) (xs : List AV) (vs : List Value) (hx : VRs ι xs vs) (hl : l.shift + ob.cs.length + xs.length ≤ l.room)
    (h : (H.put b { ob with kind := .old }).add id { cs := ob.cs.drop o ++ xs, es := ob.es, kind := .tip (ob.cs.drop o).length } = some H') :
    Step (· = id) ι H w (fun j => if j = id then some ⟨l.blk, l.shift + o, l.room, l.es⟩ else ι j) H' (w.setCells l.blk (l.shift + ob.cs.length) vs) := by
  obtain ⟨hg, rfl⟩ := Heap.add_eq h
  obtain ⟨ho, hkm⟩ := Heap.cells_eq hoc
  have hbid : b ≠ id := fun e => by rw [← e] at hid; rw [hid] at hb; cases hb
  rw [Heap.get_put, if_neg (Ne.symm hbid)] at hg
  have hext : Ext ι (fun j => if j = id then some ⟨l.blk, l.shift + o, l.room, l.es⟩ else ι j) := fun j lj hj => by
    have : j ≠ id := fun e => by rw [e, hid] at hj; cases hj
    simp [this, hj]
  obtain ⟨c, et, lo, hi, h1, h2, h3, h4, h5, h6⟩ := hw.cells hb hoc
  have hlen := hx.len
  obtain ⟨c', k1, k2, k3⟩ := setCells_block l.blk et (lo, hi) vs (l.shift + ob.cs.length) w c h1 (by omega)
  have hget : ∀ j, ((H.put b { ob with kind := .old }).put id { cs := ob.cs.drop o ++ xs, es := ob.es, kind := .tip (ob.cs.drop o).length }).get j = if j = id then some { cs := ob.cs.drop o ++ xs, es := ob.es, kind := .tip (ob.cs.drop o).length } else if j = b then some { ob with kind := .old } else H.get j := fun j => by rw [Heap.get_put, Heap.get_put]
  refine ⟨hext, ⟨?_, ?_, ?_, ?_⟩, Nat.le_refl _, ?_, ?_, ?_, (setCells_rest _ _ _ _).1, (setCells_rest _ _ _ _).2.1, (setCells_rest _ _ _ _).2.2, by rw [setCells_size]; exact Nat.le_refl _, ?_, ?_⟩
  · intro b1 l1 o1 e1 g1
    rw [hget] at g1
    by_cases q : b1 = id
    · subst q
      simp only [if_true] at e1 g1; cases e1; cases g1
      refine .of_cells rfl ⟨c', et, lo, hi, k1, k2.trans h2, h3, h4, by simp; omega, fun i x hi' => ?_⟩
      simp only at hi' ⊢
      rw [k3]
      by_cases q2 : i < ob.cs.length - o
      · rw [List.getElem?_append_left (by simp; omega), List.getElem?_drop] at hi'
        rw [if_neg (by omega)]
        obtain ⟨v, hv, r⟩ := h6 (o + i) x hi'
        exact ⟨v, by rw [← hv]; congr 1; omega, r.ext hext⟩
      · rw [List.getElem?_append_right (by simp; omega)] at hi'
        simp only [List.length_drop] at hi'
        have := (List.getElem?_eq_some_iff.1 hi').1
        rw [if_pos (by omega)]
        obtain ⟨v, hv, r⟩ := hx.get hi'
        exact ⟨v, by rw [← hv]; congr 1; omega, r.ext hext⟩
    · simp only [q, if_false] at e1 g1
      by_cases hblk : l1.blk = l.blk
      · have old : ∃ o2, H.get b1 = some o2 ∧ o2.cs = o1.cs ∧ o2.es = o1.es ∧ o2.kind.isMap = false ∧ o1.kind.isMap = false ∧ l1.shift + o2.cs.length ≤ l.shift + ob.cs.length := by
          by_cases q2 : b1 = b
          · subst q2; rw [hb] at e1; cases e1; simp only [if_true] at g1; cases g1; exact ⟨ob, ho, rfl, rfl, hkm, rfl, Nat.le_refl _⟩
          · simp only [q2, if_false] at g1
            obtain ⟨r4, r5, r6⟩ := (hw.apart b b1 l l1 ob o1 (Ne.symm q2) hb e1 ho g1 hblk.symm).2.2 hk
            have hk1 : o1.kind.isMap = false := by cases hk : o1.kind <;> rw [hk] at r4 <;> first | rfl | cases r4
            exact ⟨o1, g1, rfl, rfl, hk1, hk1, by omega⟩
        obtain ⟨o2, g2, ecs, ees, hk2, hk1, hend⟩ := old
        obtain ⟨c2, et2, lo2, hi2, m1, m2, m3, m4, m5, m6⟩ := (hw.obj b1 l1 o2 e1 g2).cells hk2
        rw [hblk] at m1
        rw [h1] at m1; cases m1
        refine .of_cells hk1 ⟨c', et, lo, hi, by rw [hblk]; exact k1, k2.trans m2, m3, by rw [m4, ees], by rw [← ecs]; exact m5, fun i x hx' => ?_⟩
        rw [← ecs] at hx'
        have := (List.getElem?_eq_some_iff.1 hx').1
        rw [k3, if_neg (by omega)]
        obtain ⟨v, hv, r⟩ := m6 i x hx'; exact ⟨v, hv, r.ext hext⟩
      · have q2 : b1 ≠ b := fun e => by subst e; rw [hb] at e1; cases e1; exact hblk rfl
        simp only [q2, if_false] at g1
        exact (hw.obj b1 l1 o1 e1 g1).mono hext (setCells_other _ _ _ _ _ hblk)
  · intro b1 b2 l1 l2 o1 o2 hne e1 e2 g1 g2 heq
    rw [hget] at g1 g2
    by_cases q1 : b1 = id
    · have q2 : b2 ≠ id := fun e => hne (q1.trans e.symm)
      simp only [q1, if_true] at e1 g1; simp only [q2, if_false] at e2 g2; cases e1; cases g1
      simp only at heq
      by_cases q3 : b2 = b
      · subst q3
        simp only [if_true] at g2; cases g2
        rw [hb] at e2; cases e2
        exact ⟨rfl, rfl, fun _ => ⟨rfl, by simp [Kind.own]; omega, by simp [Kind.own]⟩⟩
      · simp only [q3, if_false] at g2
        obtain ⟨r1, r2, r3⟩ := hw.apart b b2 l l2 ob o2 (Ne.symm q3) hb e2 ho g2 heq
        exact ⟨rfl, r2, fun _ => ⟨(r3 hk).1, by have := (r3 hk).2; simp [Kind.own]; omega, by simp [Kind.own]⟩⟩
    · simp only [q1, if_false] at e1 g1
      by_cases q2 : b2 = id
      · simp only [q2, if_true] at e2 g2; cases e2; cases g2
        simp only at heq
        by_cases q3 : b1 = b
        · subst q3
          simp only [if_true] at g1; cases g1
          exact ⟨rfl, rfl, fun h => by cases h⟩
        · simp only [q3, if_false] at g1
          obtain ⟨r1, r2, r3⟩ := hw.apart b b1 l l1 ob o1 (Ne.symm q3) hb e1 ho g1 heq.symm
          exact ⟨r2, rfl, fun h => by rw [(r3 hk).1] at h; cases h⟩
      · simp only [q2, if_false] at e2 g2
        by_cases q3 : b1 = b
        · subst q3
          have q4 : b2 ≠ b1 := Ne.symm hne
          simp only [if_true] at g1; simp only [q4, if_false] at g2; cases g1
          exact ⟨rfl, (hw.apart b1 b2 l1 l2 ob o2 hne e1 e2 ho g2 heq).2.1, fun h => by cases h⟩
        · simp only [q3, if_false] at g1
          by_cases q4 : b2 = b
          · subst q4
            simp only [if_true] at g2; cases g2
            obtain ⟨r1, r2, r3⟩ := hw.apart b1 b2 l1 l2 o1 ob hne e1 e2 g1 ho heq
            exact ⟨r1, rfl, fun h => ⟨rfl, (r3 h).2⟩⟩
          · simp only [q4, if_false] at g2
            exact hw.apart b1 b2 l1 l2 o1 o2 hne e1 e2 g1 g2 heq
  · intro j hj
    have : j ≠ id := by have e1 : H.next ≤ j := hj; omega
    simp only [this, if_false]; exact hw.new j hj
  · intro j lj ej; rw [hget]; split
    · simp
    · rename_i e; simp only [e, if_false] at ej; split
      · simp
      · exact hw.vis j lj ej
  · intro j hj hn'
    by_cases e : j = id
    · exact .inl e
    · simp [e, hj] at hn'
  · intro j hj; rw [hget]; split
    · simp
    · split
      · simp
      · exact hj
  · intro j lj ej hj
    rw [hget] at hj
    have : j ≠ id := fun e => by rw [e, hid] at ej; cases ej
    simp only [this, if_false] at hj
    by_cases q : j = b
    · subst q; rw [ho]; simp
    · simpa [q] using hj
  · intro k hk' hfr
    exact setCells_other _ _ _ _ _ (fun e => hfr b l hb (by rw [ho]; simp) e.symm)
  · intro j lj ej hl'
    by_cases e : j = id
    · simp [e] at hl'; subst hl'
      exact .inr ⟨b, l, hb, by rw [ho]; simp, rfl⟩
    · simp [e, ej] at hl'

/-- heaps that hold the same, by their numbers -/
structure HEq2 (H H' : Heap) : Prop where
  get : ∀ b, H'.get b = H.get b
  next : H'.next = H.next
theorem WR.cast {ι : Map} {H H' : Heap} {w : World} (e : HEq2 H H') (h : WR ι H w) : WR ι H' w :=
  ⟨fun b l o hb ho => h.obj b l o hb (by rw [← e.get]; exact ho), fun b1 b2 l1 l2 o1 o2 hne e1 e2 g1 g2 => h.apart b1 b2 l1 l2 o1 o2 hne e1 e2 (by rw [← e.get]; exact g1) (by rw [← e.get]; exact g2),
    fun b hb => h.new b (by rw [← e.next]; exact hb), fun b l hb => by rw [e.get]; exact h.vis b l hb⟩
theorem Step.cast {ids : Nat → Prop} {ι ι' : Map} {H H' K K' : Heap} {w w' : World} (e : HEq2 H K) (e' : HEq2 H' K') (h : Step ids ι H w ι' H' w') : Step ids ι K w ι' K' w' :=
  ⟨h.ext, h.wr.cast e', by rw [e.next, e'.next]; exact h.next, fun b hb hn => by rw [e.next]; exact h.dom b hb hn, fun b hb => by rw [e'.get]; exact h.keep b (by rw [← e.get]; exact hb),
    fun b l hb hn => by rw [e.get]; exact h.junk b l hb (by rw [← e'.get]; exact hn), h.os, h.tape, h.output, h.size,
    fun c hc hf => h.frame c hc (fun b l hb hg => hf b l hb (by rw [e.get]; exact hg)),
    fun b l hb hl => (h.fresh b l hb hl).imp id fun ⟨b0, l0, e0, g0, q⟩ => ⟨b0, l0, e0, by rw [e.get]; exact g0, q⟩⟩
omit [Env] in
theorem HEq2.refl (H : Heap) : HEq2 H H := ⟨fun _ => rfl, rfl⟩
omit [Env] in
theorem HEq2.log (H : Heap) (l : List Nat) : HEq2 H { H with log := l } := ⟨fun _ => rfl, rfl⟩
omit [Env] in
theorem HEq2.log' (H : Heap) (l : List Nat) : HEq2 { H with log := l } H := ⟨fun _ => rfl, rfl⟩
omit [Env] in
theorem HEq2.write (H : Heap) (b : Nat) (o : Obj) : HEq2 (H.put b o) (H.write b o) := ⟨fun _ => rfl, rfl⟩
omit [Env] in
theorem HEq2.write' (H : Heap) (b : Nat) (o : Obj) : HEq2 (H.write b o) (H.put b o) := ⟨fun _ => rfl, rfl⟩
omit [Env] in
theorem Heap.get_write (H : Heap) (b : Nat) (o : Obj) (j : Nat) : (H.write b o).get j = if j = b then some o else H.get j := Tr.get_set _ _ _ _
end Go.Ev
