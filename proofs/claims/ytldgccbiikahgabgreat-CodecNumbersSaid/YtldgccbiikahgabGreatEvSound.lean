import Derived.Test.YtldgccbiikahgabGreatEvZero
namespace Go.Ev
open Go Go.RowKit
variable [Env]

/-- what a call of the abstract machine says of the program -/
def CallSound (P : Program) (call : CallA) : Prop := ∀ H f args v H', call H f args = some (v, H') →
  (∃ fn, P.funcs[f]? = some fn ∧ fn.body.isSome = true ∧ fn.name ≠ "runtime.NumGoroutine") ∧
  ∀ (ι : Map) (w : World) (args' : List Value), WR ι H w → VRs ι args args' →
    Calls P f args'.toArray w fun e w' => ∃ v' ι', e = .returned v' ∧ VR ι' v v' ∧ Step (fun _ => False) ι H w ι' H' w'

section
variable {C : Ctx} {P : Program} (hC : C.Ok P) {ι : Map} {H : Heap} {w : World}

omit [Env] in
theorem same_eq {H H' : Heap} {r : Option AV} {v : AV} (h : same H r = some (v, H')) : r = some v ∧ H' = H := by
  cases r with
  | none => cases h
  | some u => simp only [same] at h; cases h; exact ⟨rfl, rfl⟩

theorem evOpt_sound {T : Tr AV} {a : Act} (hT : TR ι T a.tmps) {x : Option Operand} {v : Option AV} (h : evOpt T x = some v) : BR ι v (x.map a.eval) := by
  cases x with
  | none => simp only [evOpt] at h; cases h; simp [BR]
  | some y =>
    simp only [evOpt] at h
    split at h
    · rename_i u e; cases h; exact ev_sound hT e
    · cases h

omit [Env] in
theorem calls_enter {f : FuncId} {fn : Func} (hf : P.funcs[f]? = some fn) (hb : fn.body.isSome = true) (hn : fn.name ≠ "runtime.NumGoroutine") (args : Array Value) :
    (callFunc f args).run P w = .ok (.enter f args) w := by
  have hb' : fn.body ≠ none := by intro h; rw [h] at hb; cases hb
  simp [callFunc, hf, hn, hb']

theorem evs_sound' {T : Tr AV} {a : Act} : ∀ {xs : List Operand} {vs : List AV}, (∀ x, x ∈ xs → ∀ v, ev T x = some v → VR ι v (a.eval x)) → evs T xs = some vs → VRs ι vs (xs.map a.eval)
  | [], vs, _, h => by cases h; exact VRs_nil
  | x :: xs, vs, hx, h => by
    simp only [evs] at h
    split at h
    · rename_i v ws e1 e2
      cases h; exact VRs_cons (hx x (by simp) v e1) (evs_sound' (fun y hy => hx y (by simp [hy])) e2)
    · cases h
theorem evParts_sound' {T : Tr AV} {a : Act} : ∀ {xs : List (Nat × Operand)} {ps : List (Nat × AV)}, (∀ x, x ∈ xs.map (·.2) → ∀ v, ev T x = some v → VR ι v (a.eval x)) → evParts T xs = some ps → PR ι ps (xs.map fun (i, x) => (i, a.eval x))
  | [], ps, _, h => by cases h; exact PR.nil
  | (i, x) :: xs, ps, hx, h => by
    simp only [evParts] at h
    split at h
    · rename_i v ws e1 e2
      cases h
      obtain ⟨h1, h2⟩ := evParts_sound' (fun y hy => hx y (by simp at hy ⊢; exact .inr hy)) e2
      exact ⟨by simpa using h1, by simpa using VRs_cons (hx x (by simp) v e1) h2⟩
    · cases h
theorem evOpt_sound' {T : Tr AV} {a : Act} {x : Option Operand} {v : Option AV} (hx : ∀ y, x = some y → ∀ v, ev T y = some v → VR ι v (a.eval y)) (h : evOpt T x = some v) : BR ι v (x.map a.eval) := by
  cases x with
  | none => simp only [evOpt] at h; cases h; simp [BR]
  | some y =>
    simp only [evOpt] at h
    split at h
    · rename_i u e; cases h; exact hx y rfl u e
    · cases h
include hC
theorem evOp_sound' {call : CallA} (hcall : CallSound P call) {T : Tr AV} {a : Act} (hw : WR ι H w) {o : Oper} (hev : ∀ x, x ∈ o.op.operands → ∀ v, ev T x = some v → VR ι v (a.eval x)) {id : Nat} (hid : ι id = none) (hn : id < H.next) {v : AV} {H' : Heap}
    (h : evOp C call H id T o = some (v, H')) {next : Act → World → Prop} {Q : Exit → Act → World → Prop}
    (hk : ∀ ι' v' w', Step (· = id) ι H w ι' H' w' → VR ι' v v' → next (a.put o.dst v') w') : o.wp P a w next Q := by
  have pureCase : ∀ {v' : Value}, (execOp a.eval o).run P w = .ok (.value v') w → VR ι v v' → H' = H → o.wp P a w next Q := by
    intro v' h1 h2 h3
    subst h3
    unfold Oper.wp; rw [h1]
    exact hk ι v' w (Step.refl hw) h2
  have newCase : (∃ v' ι' w', (execOp a.eval o).run P w = .ok (.value v') w' ∧ VR ι' v v' ∧ Step (· = id) ι H w ι' H' w') → o.wp P a w next Q := by
    rintro ⟨v', ι', w', h1, h2, h3⟩
    unfold Oper.wp; rw [h1]
    exact hk ι' v' w' h3 h2
  unfold evOp at h
  split at h
  · -- move
    rename_i x ho
    obtain ⟨e, rfl⟩ := same_eq h
    exact pureCase (by simp [execOp, ho]) (hev x (by simp [ho, Op.operands]) _ e) rfl
  · -- assign
    rename_i x ho
    obtain ⟨e, rfl⟩ := same_eq h
    exact pureCase (by simp [execOp, ho]) (hev x (by simp [ho, Op.operands]) _ e) rfl
  · -- pick
    rename_i c x y ho
    split at h
    · rename_i t e1
      have hb := hev _ (by simp [ho, Op.operands]) _ e1
      simp only [VR] at hb
      split at h
      · obtain ⟨e, rfl⟩ := same_eq h
        exact pureCase (by simp [execOp, ho, hb, asBool]) (hev _ (by simp [ho, Op.operands]) _ e) rfl
      · obtain ⟨e, rfl⟩ := same_eq h
        exact pureCase (by simp [execOp, ho, hb, asBool]) (hev _ (by simp [ho, Op.operands]) _ e) rfl
    · cases h
  · -- alloc
    rename_i t ho
    obtain ⟨v', ι', w', h1, h2, h3⟩ := alloc_sound hC hw hid hn h
    exact newCase ⟨v', ι', w', by simp [execOp, ho, h1], h2, h3⟩
  · -- box
    rename_i t x ho
    split at h
    · rename_i u e1
      obtain ⟨v', ι', w', h1, h2, h3⟩ := box_sound (P := P) (t := t) hw hid hn (hev _ (by simp [ho, Op.operands]) _ e1) h
      exact newCase ⟨v', ι', w', by simp [execOp, ho, h1], h2, h3⟩
    · cases h
  · -- build
    rename_i t parts ho
    split at h
    · rename_i ps e1
      obtain ⟨e, rfl⟩ := same_eq h
      have hp := evParts_sound' (fun x hx => hev x (by simpa [ho, Op.operands] using hx)) e1
      obtain ⟨v', h1, h2⟩ := build_sound hC (w := w) (qs := parts.map fun (i, x) => (i, a.eval x)) (by simpa using hp) e
      exact pureCase (by simp [execOp, ho, h1]) h2 rfl
    · cases h
  · -- buildSlice
    rename_i t len parts ho
    split at h
    · rename_i ps e1
      have hp := evParts_sound' (fun x hx => hev x (by simpa [ho, Op.operands] using hx)) e1
      obtain ⟨v', ι', w', h1, h2, h3⟩ := buildSlice_sound hC hw hid hn (qs := parts.map fun (i, x) => (i, a.eval x)) (by simpa using hp) h
      exact newCase ⟨v', ι', w', by simp [execOp, ho, h1], h2, h3⟩
    · cases h
  · -- load
    rename_i t x ho
    split at h
    · rename_i u e1
      obtain ⟨e, rfl⟩ := same_eq h
      obtain ⟨v', h1, h2⟩ := load_sound hC hw (hev _ (by simp [ho, Op.operands]) _ e1) e
      exact pureCase (by simp [execOp, ho, h1]) h2 rfl
    · cases h
  · -- store
    rename_i t x y ho
    split at h
    · rename_i u1 u2 e1 e2
      split at h
      · rename_i H1 e3
        cases h
        obtain ⟨w', h1, h2⟩ := store_sound hC hw (hev _ (by simp [ho, Op.operands]) _ e1) (hev _ (by simp [ho, Op.operands]) _ e2) e3 (· = id)
        unfold Oper.wp
        rw [show (execOp a.eval o).run P w = .ok .skip w' by simp [execOp, ho, h1]]
        exact hk ι undef w' h2 (by simp only [VR, undefA, undef]; exact ⟨[], VRs_nil, rfl⟩)
      · cases h
    · cases h
  · -- nilCheck
    rename_i x ho
    split at h
    · rename_i b off e1
      cases h
      have := hev _ (by simp [ho, Op.operands]) _ e1
      obtain ⟨ad, e2⟩ := this.ptr_inv
      exact pureCase (v' := a.eval x) (by simp [execOp, ho, e2]) this rfl
    · rename_i f x1 x2 e1
      cases h
      have := hev _ (by simp [ho, Op.operands]) _ e1
      have h2 := this
      simp only [VR] at h2
      obtain ⟨p, q, _, _, e2⟩ := h2
      exact pureCase (v' := a.eval x) (by simp [execOp, ho, e2]) this rfl
    · cases h
  · -- binOp
    rename_i op t x y ty ho
    split at h
    · rename_i u1 u2 e1 e2
      obtain ⟨e, rfl⟩ := same_eq h
      obtain ⟨v', h1, h2⟩ := binOp_sound hC (w := w) (hev _ (by simp [ho, Op.operands]) _ e1) (hev _ (by simp [ho, Op.operands]) _ e2) e x y
      exact pureCase (v' := v') (by simp only [Sem.run_bind] at h1; simp only [execOp, ho, Sem.run_bind]; rw [h1]; simp) h2 rfl
    · cases h
  · -- unOp
    rename_i op t x ho
    split at h
    · rename_i u1 e1
      obtain ⟨e, rfl⟩ := same_eq h
      obtain ⟨v', h1, h2⟩ := unOp_sound (P := P) (w := w) (hev _ (by simp [ho, Op.operands]) _ e1) e
      exact pureCase (by simp [execOp, ho, h1]) h2 rfl
    · cases h
  · -- convert
    rename_i s d x ho
    split at h
    · rename_i u1 e1
      obtain ⟨e, rfl⟩ := same_eq h
      have hcv : ∃ v', (convert s d (a.eval x)).run P w = .ok v' w ∧ VR ι v v' := by
        unfold convertHA at e
        split at e
        · rename_i e2; cases e; exact convert_sound hC (w := w) (hev _ (by simp [ho, Op.operands]) _ e1) e2
        · exact toString_sound hC hw (hev _ (by simp [ho, Op.operands]) _ e1) e
      obtain ⟨v', h1, h2⟩ := hcv
      exact pureCase (by simp [execOp, ho, h1]) h2 rfl
    · cases h
  · -- field
    rename_i t x f ho
    split at h
    · rename_i u1 e1
      obtain ⟨e, rfl⟩ := same_eq h
      obtain ⟨v', h1, h2⟩ := field_sound hC (w := w) (hev _ (by simp [ho, Op.operands]) _ e1) e
      exact pureCase (by simp [execOp, ho, h1]) h2 rfl
    · cases h
  · -- fieldAddr
    rename_i t x f ho
    split at h
    · rename_i u1 e1
      obtain ⟨e, rfl⟩ := same_eq h
      obtain ⟨v', h1, h2⟩ := fieldAddr_sound hC (w := w) (hev _ (by simp [ho, Op.operands]) _ e1) e
      exact pureCase (by simp [execOp, ho, h1]) h2 rfl
    · cases h
  · -- indexAddr
    rename_i t x i ho
    split at h
    · rename_i u1 u2 e1 e2
      obtain ⟨e, rfl⟩ := same_eq h
      obtain ⟨v', h1, h2⟩ := indexAddr_sound hC (w := w) (hev _ (by simp [ho, Op.operands]) _ e1) (hev _ (by simp [ho, Op.operands]) _ e2) e
      exact pureCase (by simp [execOp, ho, h1]) h2 rfl
    · cases h
  · -- index
    rename_i t x i ho
    split at h
    · rename_i u1 u2 e1 e2
      obtain ⟨e, rfl⟩ := same_eq h
      obtain ⟨v', h1, h2⟩ := index_sound hC (w := w) (hev _ (by simp [ho, Op.operands]) _ e1) (hev _ (by simp [ho, Op.operands]) _ e2) e
      exact pureCase (by simp [execOp, ho, h1]) h2 rfl
    · cases h
  · -- slice
    rename_i t x lo hi ho
    split at h
    · rename_i u1 l1 h1' e1 e2 e3
      obtain ⟨e, rfl⟩ := same_eq h
      obtain ⟨v', h1, h2⟩ := slice_sound hC hw (hev _ (by simp [ho, Op.operands]) _ e1) (evOpt_sound' (fun y hy => hev y (by simp [ho, Op.operands, hy])) e2) (evOpt_sound' (fun y hy => hev y (by simp [ho, Op.operands, hy])) e3) e
      exact pureCase (by simp [execOp, ho, h1]) h2 rfl
    · cases h
  · -- extract
    rename_i x i ho
    split at h
    · rename_i vs e1
      obtain ⟨e, rfl⟩ := same_eq h
      have hx := hev _ (by simp [ho, Op.operands]) _ e1
      simp only [VR] at hx
      obtain ⟨vs', hv, e2⟩ := hx
      obtain ⟨v', h1, h2⟩ := hv.get e
      exact pureCase (by simp [execOp, ho, e2, Instr.extract, h1]) h2 rfl
    · cases h
  · -- makeSlice
    rename_i t x y ho
    split at h
    · rename_i u1 u2 e1 e2
      obtain ⟨v', ι', w', h1, h2, h3⟩ := makeSlice_sound hC hw hid hn (hev _ (by simp [ho, Op.operands]) _ e1) (hev _ (by simp [ho, Op.operands]) _ e2) h
      exact newCase ⟨v', ι', w', by simp [execOp, ho, h1], h2, h3⟩
    · cases h
  · -- call
    rename_i c ho
    unfold callA at h
    split at h
    · cases h
    · rename_i vs e1
      have hvs := evs_sound' (fun x hx => hev x (by simp only [ho, Op.operands, Call.operands]; exact Array.mem_append.2 (.inr (by simpa using hx)))) e1
      split at h
      · rename_i f hcal
        split at h
        · rename_i g first captured e2
          have hf := hev f (by simp [ho, Op.operands, Call.operands, hcal]) _ e2
          simp only [VR] at hf
          obtain ⟨p, q, hp, hq, e3⟩ := hf
          obtain ⟨⟨fn, hfn, hb, hname⟩, hcs⟩ := hcall H g _ v H' h
          have hc := hcs ι w (p ++ c.args.toList.map a.eval ++ q) hw ((hp.append hvs).append hq)
          unfold Oper.wp
          have hrun : (execOp a.eval o).run P w = .ok (.enter g (p ++ c.args.toList.map a.eval ++ q).toArray) w := by
            have harr : p.toArray ++ Array.map a.eval c.args ++ q.toArray = (p ++ c.args.toList.map a.eval ++ q).toArray := by
              apply Array.ext'; simp
            simp only [execOp, ho, resolve, hcal, e3, Deferred.ofValue, Sem.run_bind, Sem.run_pure, Result.andThen_ok, invoke, harr]
            exact calls_enter hfn hb hname _
          rw [hrun, Oper.upon_enter]
          refine hc.mono ?_
          rintro e w' ⟨v', ι', rfl, h2, h3⟩
          exact hk ι' v' w' (h3.weaken (fun _ q => q.elim)) h2
        · cases h
      · rename_i hcal
        split at h
        · rename_i t x vs2 e2
          split at h
          · rename_i i e3
            obtain ⟨e, rfl⟩ := same_eq h
            simp only [VRs] at hvs
            obtain ⟨x', rest', hx, _, e4⟩ := hvs
            have e4' : (c.args.map a.eval)[0]? = some x' := by
              rw [← Array.getElem?_toList, Array.toList_map, e4]; rfl
            have hlv : ∃ v', (Builtin.len_ c.argTypes o.type (c.args.map a.eval)).run P w = .ok v' w ∧ VR ι v v' := by
              unfold lenHA at e
              split at e
              · exact lenMap_sound hC hw e3 hx e c.argTypes (by assumption) o.type (c.args.map a.eval) e4'
              · exact len_sound hC (w := w) e3 hx e c.argTypes (by assumption) o.type (c.args.map a.eval) e4'
            obtain ⟨v', h1, h2⟩ := hlv
            exact pureCase (by simp only [execOp, ho, resolve, hcal, Sem.run_bind, Sem.run_pure, Result.andThen_ok, invoke, builtin, h1]) h2 rfl
          · cases h
        · cases h
      · rename_i hcal
        split at h
        · rename_i t xt s x e2
          simp only [VRs] at hvs
          obtain ⟨s', rest1, hs, ⟨x', rest2, hx, hnil, er⟩, e4⟩ := hvs
          subst hnil; subst er
          have e4' : c.args.map a.eval = #[s', x'] := by
            apply Array.ext'; rw [Array.toList_map, e4]
          have e5 : c.argTypes = #[t, xt] := by apply Array.ext'; rw [e2]
          obtain ⟨v', ι', w', h1, h2, h3⟩ := appendH_sound hC hw hid hn hs hx h o.type
          exact newCase ⟨v', ι', w', by simp only [execOp, ho, resolve, hcal, Sem.run_bind, Sem.run_pure, Result.andThen_ok, invoke, builtin, e4', e5, h1], h2, h3⟩
        · cases h
      · rename_i hcal
        split at h
        · rename_i x y
          simp only [VRs] at hvs
          obtain ⟨x', rest1, hx, ⟨y', rest2, hy, hnil, er⟩, e4⟩ := hvs
          subst hnil; subst er
          obtain ⟨e, rfl⟩ := same_eq h
          have e4' : c.args.map a.eval = #[x', y'] := by
            apply Array.ext'; rw [Array.toList_map, e4]
          obtain ⟨v', h1, h2⟩ := minMax_sound (w := w) hC hx hy e c.argTypes o.type
          simp only [cond_true] at h1
          exact pureCase (by simp only [execOp, ho, resolve, hcal, Sem.run_bind, Sem.run_pure, Result.andThen_ok, invoke, builtin, e4', h1]) h2 rfl
        · cases h
      · rename_i hcal
        split at h
        · rename_i x y
          simp only [VRs] at hvs
          obtain ⟨x', rest1, hx, ⟨y', rest2, hy, hnil, er⟩, e4⟩ := hvs
          subst hnil; subst er
          obtain ⟨e, rfl⟩ := same_eq h
          have e4' : c.args.map a.eval = #[x', y'] := by
            apply Array.ext'; rw [Array.toList_map, e4]
          obtain ⟨v', h1, h2⟩ := minMax_sound (w := w) hC hx hy e c.argTypes o.type
          simp only [cond_false] at h1
          exact pureCase (by simp only [execOp, ho, resolve, hcal, Sem.run_bind, Sem.run_pure, Result.andThen_ok, invoke, builtin, e4', h1]) h2 rfl
        · cases h
      · cases h
  · -- makeFunc
    rename_i f first captured ho
    split at h
    · rename_i u1 u2 e1 e2
      cases h
      have h1 := evs_sound' (fun x hx => hev x (by simp only [ho, Op.operands]; exact Array.mem_append.2 (.inl (by simpa using hx)))) e1
      have h2 := evs_sound' (fun x hx => hev x (by simp only [ho, Op.operands]; exact Array.mem_append.2 (.inr (by simpa using hx)))) e2
      exact pureCase (v' := .func f (first.map a.eval) (captured.map a.eval)) (by simp [execOp, ho, Instr.makeFunc]) (by simp only [VR]; exact ⟨_, _, h1, h2, by congr 1 <;> apply Array.ext' <;> simp⟩) rfl
    · cases h
  · -- makeMap
    rename_i t ho
    obtain ⟨v', ι', w', h1, h2, h3⟩ := makeMap_sound (P := P) hw hid hn h t
    exact newCase ⟨v', ι', w', by simp [execOp, ho, h1], h2, h3⟩
  · -- lookup
    rename_i t m k ok ho
    split at h
    · rename_i u1 u2 e1 e2
      obtain ⟨e, rfl⟩ := same_eq h
      obtain ⟨v', h1, h2⟩ := lookup_sound hC hw (hev _ (by simp [ho, Op.operands]) _ e1) (hev _ (by simp [ho, Op.operands]) _ e2) e
      exact pureCase (by simp [execOp, ho, h1]) h2 rfl
    · cases h
  · -- mapUpdate
    rename_i t m k x ho
    split at h
    · rename_i u1 u2 u3 e1 e2 e3
      split at h
      · rename_i H1 e4
        cases h
        obtain ⟨w', h1, h2⟩ := mapUpdate_sound (ids := (· = id)) hC hw (hev _ (by simp [ho, Op.operands]) _ e1) (hev _ (by simp [ho, Op.operands]) _ e2) (hev _ (by simp [ho, Op.operands]) _ e3) e4
        unfold Oper.wp
        rw [show (execOp a.eval o).run P w = .ok .skip w' by simp [execOp, ho, h1]]
        exact hk ι undef w' h2 (by simp only [VR, undefA, undef]; exact ⟨[], VRs_nil, rfl⟩)
      · cases h
    · cases h
  · cases h

theorem evOp_sound {call : CallA} (hcall : CallSound P call) {T : Tr AV} {a : Act} (hw : WR ι H w) (hT : TR ι T a.tmps) {id : Nat} (hid : ι id = none) (hn : id < H.next) {o : Oper} {v : AV} {H' : Heap}
    (h : evOp C call H id T o = some (v, H')) {next : Act → World → Prop} {Q : Exit → Act → World → Prop}
    (hk : ∀ ι' v' w', Step (· = id) ι H w ι' H' w' → VR ι' v v' → next (a.put o.dst v') w') : o.wp P a w next Q :=
  evOp_sound' hC hcall hw (fun x _ v hx => ev_sound hT hx) hid hn h hk
end
end Go.Ev
