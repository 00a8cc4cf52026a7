import Derived.Test.YtcbdmlpfepdblaaGreatDoorEvE
import Derived.Recover
import Derived.Lib.Join
namespace Go.Ev
noncomputable section
open Go Go.RowKit
variable [Env]

/-- what the walk of code gives -/
def CodeOk (P : Program) (lo : Bool) (run : Code → St → Option (X × St)) : Prop :=
  ∀ (dd : List Deferred) (ro : Option Nat) (n0 : Nat) (c : Code) (s : St) (x : X) (s' : St) (ι : Map) (a : Act) (w : World) (Q : Exit → Act → World → Prop), run c s = some (x, s') → SM lo n0 dd ι s a w → RoOk ro ι s.H →
    (∀ ι' a' w' e, Step Nope ι s.H w ι' s'.H w' → XM lo n0 dd ι' x s' a' w' e → s'.N = s.N → Q e a' w') → c.wpIn (Fr ro) 0 P Q a w

theorem SM.step {lo : Bool} {n0 : Nat} {dd : List Deferred} {ι ι' : Map} {s : St} {a : Act} {w w' : World} {H' : Heap} {ids : Nat → Prop} (h : SM lo n0 dd ι s a w) (st : Step ids ι s.H w ι' H' w') : SM lo n0 dd ι' { s with H := H' } a w' := by
  obtain ⟨ds, m, hs⟩ := h
  exact ⟨ds, m.step st hs.wr, st.wr, hs.tr.ext st.ext, hs.size, hs.defers⟩

theorem round_sound {P : Program} {lo : Bool} {run : Code → St → Option (X × St)} (hr : CodeOk P lo run) {ro : Option Nat} : YSound P (roundA run) ro := by
  intro H b vs H' h ι w l args' hw hb hv
  unfold roundA at h
  split at h
  case h_2 => cases h
  rename_i o ho
  split at h
  case h_2 => cases h
  rename_i L hk
  obtain ⟨hc, h⟩ := bound_of_cond h
  simp only [Bool.and_eq_true, Tr.nbeq, decide_eq_true_eq] at hc
  obtain ⟨hlen, hbel⟩ := hc
  split at h
  case h_2 => cases h
  rename_i s1 e1
  split at h
  case h_2 => cases h
  rename_i H1 e2
  split at h
  case h_2 => cases h
  rename_i s2 e3
  obtain ⟨r, hr0, k1, k2, k3, k4, k5, k6, k7⟩ := (hw.obj b l o hb ho).loop hk
  have hl := hv.len
  have hps : r.params.size = L.ps.length := by rw [← k3]; simp
  refine ⟨r, hr0, by simp; omega, roundIn_of_wpIn trivial ?_⟩
  have hfold : ((r.params.zip args'.toArray).foldl (fun tmps (t, a) => tmps.setIfInBounds t a) r.tmps) = ((L.ps.zip args').foldl (fun t (p, v) => t.setIfInBounds p v) r.tmps) := by
    rw [← Array.foldl_toList, Array.toList_zip, k3]
  obtain ⟨t1, t2⟩ := enterP_tr (ps := L.ps) (T := L.T) (tmps := r.tmps) k7 hv (by rw [k6]; exact hbel) hlen
  have hs0 : SM lo 0 [] ι { T := enterP L.ps vs L.T, N := L.N, H := H } { tmps := (r.params.zip args'.toArray).foldl (fun tmps (t, a) => tmps.setIfInBounds t a) r.tmps, defers := [] } w :=
    ⟨[], Marks.refl (Nat.zero_le _), hw, by rw [hfold]; exact t1, by show _ = _; simp only [hfold]; rw [t2, k6], rfl⟩
  have hro : RoOk (some l.blk) ι H := fun l0 e => by cases e; exact ⟨b, l, o, hb, rfl, ho, by rw [hk]; rfl⟩
  rw [k4]
  show Code.wpIn (Fr (some l.blk)) 0 P L.assign _ _ w
  refine hr [] (some l.blk) 0 L.assign _ .normal s1 ι _ w _ e1 hs0 hro fun ι1 a1 w1 e q1 q2 _ => ?_
  obtain ⟨ds1, m1, rfl, q2⟩ := q2
  obtain ⟨o1, L1, ho1, hk1, rfl⟩ := setLoop_eq e2
  have hb1 := q1.ext b l hb
  obtain ⟨r1, hr1, j1, j2, j3, j4, j5, j6, j7⟩ := (q2.wr.obj b l o1 hb1 ho1).loop hk1
  have hlt1 := (Array.getElem?_eq_some_iff.1 hr1).1
  refine ⟨_, run_beginRound hr1 j1, ?_⟩
  have st1 : Step Nope ι1 s1.H w1 ι1 _ _ := step_loop (ids := Nope) (q := .busy) (r := { r1 with state := .busy }) q2.wr hb1 ho1 hk1
    ⟨_, World.putObj_heap_same hlt1, rfl, j2, j3, j4, j5, j6, j7⟩
  have hs2 := SM.step (H' := s1.H.write b { o1 with kind := .loop .busy L1 }) ⟨ds1, m1, q2⟩ st1
  rw [k5]
  refine hr [] (some l.blk) 0 L.body _ .normal s2 ι1 a1 _ _ e3 hs2 ((hro.step q1).step st1) fun ι2 a2 w2 e p1 p2 _ => ?_
  obtain ⟨ds2, m2, rfl, p2⟩ := p2
  obtain ⟨o2, L2, ho2, hk2, rfl⟩ := setLoop_eq h
  have hb2 := p1.ext b l (st1.ext b l hb1)
  obtain ⟨r2, hr2, i1, i2, i3, i4, i5, i6, i7⟩ := (p2.wr.obj b l o2 hb2 ho2).loop hk2
  have hlt2 := (Array.getElem?_eq_some_iff.1 hr2).1
  have st2 := step_loop (ids := Nope) (q := .ready) (r := { r2 with state := .ready, pending := none }) p2.wr hb2 ho2 hk2
    ⟨_, World.putObj_heap_same hlt2, rfl, rfl, i3, i4, i5, i6, i7⟩
  refine ⟨_, _, run_endRound none hr2, rfl, ι2, ?_⟩
  exact ((q1.trans (fun _ h => h) (fun _ h => h) st1).trans (fun _ h => h) (fun _ h => h) p1).trans (fun _ h => h) (fun _ h => h) st2
section
variable {C : Ctx} {P : Program} (hC : C.Ok P)
include hC
omit hC in
theorem range_sound {call : CallA} (hcall : CallSound P call) {ro : Option Nat} {n0 : Nat} {dd : List Deferred} {f : Operand} {ps : Array Tmp} {assign body : Code} {s : St} {H1 H2 H3 : Heap} {g : FuncId} {first captured : List AV} {v : AV} (e1 : ev s.T f = some (.fn (.func g) first captured))
    (e2 : ({ s.H with next := s.H.next + 1 } : Heap).add s.H.next { cs := [], es := 0, kind := .loop .ready ⟨s.T, s.N, ps.toList, assign, body⟩ } = some H1) (e3 : call H1 g (first ++ [.yld s.H.next] ++ captured) = some (v, H2)) (hv : ∀ x, v ≠ .pan x) (e4 : setLoop H2 s.H.next .ready .dead = some H3)
    {ι : Map} {a : Act} {w : World} {Q : Exit → Act → World → Prop} (hs : SM true n0 dd ι s a w) (hro : RoOk ro ι s.H)
    (hQ : ∀ ι' a' w', Step Nope ι s.H w ι' H3 w' → SM true n0 dd ι' { s with H := H3 } a' w' → Q .normal a' w') : (Code.rangeFunc f ps assign body).wpIn (Fr ro) 0 P Q a w := by
  obtain ⟨ds, ⟨hn0, ms, rfl, _, hnd, hms⟩, hs⟩ := hs
  have hf := ev_sound hs.tr e1
  simp only [VR] at hf
  obtain ⟨p, q, hp, hq, hfe⟩ := hf
  have hid : ι s.H.next = none := hs.wr.new _ (Nat.le_refl _)
  refine wpIn_rangeFunc fun fn _ => ?_
  obtain ⟨l, mark, w1, r, henter, hl, hr, k1, k2, k3, k4, k5, k6, hheap, hsz, hos, htape, hout, hnd', hmark⟩ : ∃ (l : Nat) (mark : List Deferred) (w1 : World) (r : Loop), (Instr.enterLoop fn a.tmps ps assign body ro).run P w = .ok (l, mark) w1 ∧ w.heap.size ≤ l ∧ w1.heap[l]? = some (.loop r) ∧
      r.state = .ready ∧ r.pending = none ∧ r.params = ps ∧ r.assign = assign ∧ r.body = body ∧ r.tmps = a.tmps ∧ (∀ k, k < w.heap.size → w1.heap[k]? = w.heap[k]?) ∧ w.heap.size ≤ w1.heap.size ∧ w1.os = w.os ∧ w1.tape = w.tape ∧ w1.output = w.output ∧
      (mark ++ ms).Nodup ∧ (∀ m ∈ mark, ∃ r, n0 ≤ r ∧ m = { target := .collected r, args := #[] } ∧ w1.heap[r]? = some (.deferred (some []))) := by
    cases ro with
    | none =>
      refine ⟨_, _, _, { state := .ready, pending := none, fn, tmps := a.tmps, params := ps, assign, body, defers := w.heap.size }, run_enterLoop_outer fn a.tmps ps assign body, by omega, ?_, rfl, rfl, rfl, rfl, rfl, rfl, fun k hk => ?_, ?_, rfl, rfl, rfl, ?_, fun m hm => ?_⟩
      · have := World.alloc_heap_new (w.alloc (.deferred (some []))) (.loop { state := .ready, pending := none, fn, tmps := a.tmps, params := ps, assign, body, defers := w.heap.size })
        rw [World.size_alloc] at this
        exact this
      · show ((w.heap.push _).push _)[k]? = _
        rw [Array.getElem?_push_lt (by simp; omega), ← Array.getElem?_eq_getElem, Array.getElem?_push_lt hk, ← Array.getElem?_eq_getElem]
      · show w.heap.size ≤ ((w.heap.push _).push _).size
        simp; omega
      · rw [List.singleton_append, List.nodup_cons]
        refine ⟨fun hm => ?_, hnd⟩
        obtain ⟨x, _, x2, x3⟩ := hms _ hm
        cases x2
        have := (Array.getElem?_eq_some_iff.1 x3).1
        omega
      · simp only [List.mem_singleton] at hm
        refine ⟨w.heap.size, hn0, hm, ?_⟩
        show ((w.heap.push _).push _)[w.heap.size]? = _
        rw [Array.getElem?_push_lt (by simp), ← Array.getElem?_eq_getElem]
        simp
    | some l0 =>
      obtain ⟨b, l1, o, hb, rfl, ho, hlo⟩ := hro l0 rfl
      obtain ⟨st, L, hk⟩ := isLoop_ex hlo
      obtain ⟨r0, hr0, _⟩ := (hs.wr.obj b l1 o hb ho).loop hk
      refine ⟨_, _, _, { state := .ready, pending := none, fn, tmps := a.tmps, params := ps, assign, body, defers := r0.defers }, run_enterLoop_inner hr0 fn a.tmps ps assign body, Nat.le_refl _, World.alloc_heap_new _ _, rfl, rfl, rfl, rfl, rfl, rfl, fun k hk => ?_, ?_, rfl, rfl, rfl, hnd, fun m hm => by simp at hm⟩
      · show (w.heap.push _)[k]? = _
        rw [Array.getElem?_push_lt hk, ← Array.getElem?_eq_getElem]
      · show w.heap.size ≤ (w.heap.push _).size
        simp
  have hw0 : WR ι { s.H with next := s.H.next + 1 } w := hs.wr.heap (fun _ _ => rfl) (Nat.le_add_right _ _)
  have st1 := step_any (w' := w1) hw0 hid (Nat.lt_succ_self _) e2 ⟨l, 0, 0, 0⟩ hl hheap hsz hos htape hout
    (.of_loop rfl ⟨r, hr, k1, k2, by rw [k3], k4, k5, by rw [k6]; exact hs.size, fun t x hx => by obtain ⟨u, hu, h⟩ := hs.tr t x hx; exact ⟨u, by rw [k6]; exact hu, h⟩⟩)
  generalize hι : (fun b => if b = s.H.next then some (⟨l, 0, 0, 0⟩ : Loc) else ι b) = ι1 at st1
  have hb1 : ι1 s.H.next = some ⟨l, 0, 0, 0⟩ := by rw [← hι]; simp
  obtain ⟨⟨fn', hfn, hb, hname⟩, hc⟩ := hcall H1 g _ v H2 e3
  have hargs : VRs ι1 (first ++ [.yld s.H.next] ++ captured) (p ++ [.func (.yield l) #[] #[]] ++ q) :=
    ((hp.ext st1.ext).append (VRs_cons (by simp only [VR]; exact ⟨_, hb1, rfl⟩) VRs_nil)).append (hq.ext st1.ext)
  have hcall1 := hc ι1 w1 _ st1.wr hargs
  have harr : (p.toArray ++ #[.func (.yield l) #[] #[]]) ++ q.toArray = (p ++ [Value.func (.yield l) #[] #[]] ++ q).toArray := by apply Array.ext'; simp
  refine ⟨l, mark, w1, { target := .fn (.func g) q.toArray, args := p.toArray ++ #[.func (.yield l) #[] #[]] }, w1, g, (p ++ [Value.func (.yield l) #[] #[]] ++ q).toArray, w1, henter, ?_, fun _ _ => trivial, ?_, (fun h => by cases h), ?_⟩
  · have hconst : a.eval (.const (.func (.yield l) #[] #[])) = .func (.yield l) #[] #[] := rfl
    simp [resolve, hfe, Deferred.ofValue, hconst]
  · have := calls_enter (P := P) (w := w1) hfn hb hname (p ++ [Value.func (.yield l) #[] #[]] ++ q).toArray
    simp only [invoke, harr]; exact this
  · refine CallsIn.mono (calls_fr hcall1) ?_
    rintro e w2 ⟨ι2, hends, st2⟩
    obtain ⟨v', rfl⟩ : ∃ v', e = .returned v' := by
      cases v with
      | pan x => exact (hv x rfl).elim
      | _ => obtain ⟨v', h, _⟩ := hends; exact ⟨v', h⟩
    obtain ⟨o2, L2, ho2, hk2, rfl⟩ := setLoop_eq e4
    have hb2 := st2.ext _ _ hb1
    obtain ⟨r2, hr2, i1, i2, _⟩ := (st2.wr.obj _ _ o2 hb2 ho2).loop hk2
    have hlt2 := (Array.getElem?_eq_some_iff.1 hr2).1
    have st3 := step_loop (ids := fun _ => False) (q := .dead) (r := { r2 with state := .exhausted }) st2.wr hb2 ho2 hk2 ⟨_, World.putObj_heap_same hlt2, trivial⟩
    have hend := run_endLoop (P := P) hr2 (by rw [i1]; intro h; cases h)
    have hend' := hend.trans (show _ = Result.ok none (w2.putObj l (.loop { r2 with state := .exhausted })) by simp only [i2])
    have stA := st1.trans (ids := (· = s.H.next)) (fun _ h => h) (fun _ h => h.elim) (st2.trans (fun _ h => h) (fun _ h => h) st3)
    have hgrow : s.H.next + 1 ≤ (H2.write s.H.next { o2 with kind := .loop .dead L2 }).next := stA.next
    have stB : Step Nope ι s.H w ι2 (H2.write s.H.next { o2 with kind := .loop .dead L2 }) (w2.putObj l (.loop { r2 with state := .exhausted })) :=
      ⟨stA.ext, stA.wr, Nat.le_trans (Nat.le_add_right _ _) hgrow, fun b h1 h2 => .inr (by
        rcases stA.dom b h1 h2 with e | e
        · omega
        · have e' : s.H.next + 1 ≤ b := e
          omega), stA.keep, stA.junk, stA.os, stA.tape, stA.output, stA.size, stA.stay, stA.frame, stA.fresh⟩
    refine ⟨_, _, hend', ?_⟩
    refine hQ ι2 _ _ stB ⟨mark ++ (ms ++ dd), ⟨Nat.le_trans hn0 stB.size, mark ++ ms, by simp, (fun h => by cases h), hnd', fun m hm => ?_⟩, stB.wr, hs.tr.ext stB.ext, hs.size, by rw [hs.defers]⟩
    rcases List.mem_append.1 hm with hm | hm
    · obtain ⟨x, x1, x2, x3⟩ := hmark m hm
      refine ⟨x, x1, x2, (st2.trans (ids := fun _ => False) (fun _ h => h) (fun _ h => h) st3).deferred st1.wr x3⟩
    · obtain ⟨x, x1, x2, x3⟩ := hms m hm
      exact ⟨x, x1, x2, stB.deferred hs.wr x3⟩
omit hC
theorem XM.normal {lo : Bool} {n0 : Nat} {dd : List Deferred} {ι : Map} {s : St} {a : Act} {w : World} {e : Exit} (h : XM lo n0 dd ι .normal s a w e) : e = .normal ∧ SM lo n0 dd ι s a w := by
  obtain ⟨ds, m, h1, h2⟩ := h; exact ⟨h1, ds, m, h2⟩
theorem XM.of {lo : Bool} {n0 : Nat} {dd : List Deferred} {ι : Map} {x : X} {s : St} {a : Act} {w : World} {e : Exit} (hx : e = (match x with | .exit id => .exit id | .ret => .ret | _ => .normal)) (h : SM lo n0 dd ι s a w) (hp : (match x with | .panic _ => False | _ => True) := by trivial) : XM lo n0 dd ι x s a w e := by
  obtain ⟨ds, m, hs⟩ := h
  refine ⟨ds, m, ?_⟩
  cases x
  · exact ⟨hx, hs⟩
  · exact ⟨hx, hs⟩
  · exact ⟨hx, hs⟩
  · exact hp.elim
include hC
theorem evCode_sound {call : CallA} (hcall : CallSound P call) (hheap : CallHeap call) : ∀ n : Nat, CodeOk P C.loops (evCode C call n) ∧
    (∀ (dd : List Deferred) (ro : Option Nat) (n0 : Nat) (c : Code) (s : St) (x : X) (s' : St) (ι : Map) (a : Act) (w : World) (Q : Exit → Act → World → Prop), evLoop C call n c s = some (x, s') → SM C.loops n0 dd ι s a w → RoOk ro ι s.H →
      (∀ ι' a' w' e, Step Nope ι s.H w ι' s'.H w' → XM C.loops n0 dd ι' x s' a' w' e → s'.N = s.N → Q e a' w') → Code.roundsIn (Fr ro) 0 P c Q n a w)
  | 0 => ⟨fun dd ro n0 c s x s' ι a w Q h => by simp [evCode] at h, fun dd ro n0 c s x s' ι a w Q h => by simp [evLoop] at h⟩
  | n + 1 => by
    obtain ⟨ihc, ihl⟩ := evCode_sound hcall hheap n
    refine ⟨fun dd ro n0 c s x s' ι a w Q h hs hro hQ => ?_, fun dd ro n0 c s x s' ι a w Q h hs hro hQ => ?_⟩
    · cases c <;> simp only [evCode, St.cut_eq] at h <;> try (cases h; done)
      case skip => cases h; exact wpIn_skip (hQ ι a w _ (Step.refl hs.wr) (XM.of rfl hs) rfl)
      case label l => cases h; exact wpIn_label (hQ ι a w _ (Step.refl hs.wr) (XM.of rfl hs) rfl)
      case ret => cases h; exact wpIn_ret (hQ ι a w _ (Step.refl hs.wr) (XM.of rfl hs) rfl)
      case exit id => cases h; exact wpIn_exit (hQ ι a w _ (Step.refl hs.wr) (XM.of rfl hs) rfl)
      case region id ops draw =>
        obtain ⟨hnd, h⟩ := bound_of_cond h
        have nd := noDefer_sound hnd
        have hno : ∀ (a : Act) (w : World), ¬ ((Exit.outgrown ≠ .outgrown) ∧ Q .outgrown a w) := fun a w h => h.1 rfl
        refine wpIn_mono (?_ : Code.wpIn (Fr ro) 0 P _ (fun e a w => e ≠ .outgrown ∧ Q e a w) a w) (fun e a w h => h.2)
        obtain ⟨ds, mk, hs⟩ := hs
        cases draw with
        | false =>
          simp only at h
          exact wpIn_region (region_in hC hcall (round_sound ihc) nd h hs fun ι' a' w' e q1 q2 q3 => ⟨q2.ne, hQ ι' a' w' e q1 ⟨ds, mk.step q1 hs.wr, q2⟩ q3⟩)
        | true =>
          simp only at h
          refine wpIn_region_any hC.mixed (anyIn_of nd hno _ _ _ _ ?_)
          split at h
          · rename_i s1 e1
            cases h
            exact coin_ops hC hcall e1 hs fun ι' a' w' q1 q2 q3 => ⟨(fun h => by cases h), hQ ι' a' w' .normal q1 ⟨ds, mk.step q1 hs.wr, rfl, q2⟩ q3⟩
          · exact draw_ops hC hcall hheap h hs fun ι' a' w' e q1 q2 q3 => ⟨q2.ne, hQ ι' a' w' e q1 ⟨ds, mk.step q1 hs.wr, q2⟩ q3⟩
      case seq b c =>
        split at h
        · rename_i s1 e1
          refine wpIn_seq (ihc dd ro n0 b s .normal s1 ι a w _ e1 hs hro fun ι1 a1 w1 e h1 h2 h3 => ?_)
          obtain ⟨rfl, h2'⟩ := h2.normal
          refine ihc dd ro n0 c s1 x s' ι1 a1 w1 Q h h2' (hro.step h1) fun ι' a' w' e k1 k2 k3 => ?_
          exact hQ ι' a' w' e (h1.trans (fun _ h => h) (fun _ h => h) k1) k2 (k3.trans h3)
        · rename_i hno
          refine wpIn_seq (ihc dd ro n0 b s x s' ι a w _ h hs hro fun ι1 a1 w1 e h1 h2 h3 => ?_)
          cases x with
          | normal => exact absurd h (hno s')
          | exit id => have h2' := h2; obtain ⟨_, _, rfl, _⟩ := h2; exact hQ ι1 a1 w1 _ h1 h2' h3
          | ret => have h2' := h2; obtain ⟨_, _, rfl, _⟩ := h2; exact hQ ι1 a1 w1 _ h1 h2' h3
          | panic v => have h2' := h2; obtain ⟨_, _, v', rfl, _⟩ := h2; exact hQ ι1 a1 w1 _ h1 h2' h3
      case cond x0 b c =>
        split at h
        · rename_i e1
          have hb := ev_sound hs.tr e1
          simp only [VR] at hb
          exact wpIn_cond_true hb (ihc dd ro n0 b s x s' ι a w Q h hs hro hQ)
        · rename_i e1
          have hb := ev_sound hs.tr e1
          simp only [VR] at hb
          exact wpIn_cond_false hb (ihc dd ro n0 c s x s' ι a w Q h hs hro hQ)
        · rename_i e1
          have hb := ev_sound hs.tr e1
          simp only [VR] at hb
          obtain ⟨bb, hb⟩ := hb
          split at h
          · rename_i sa sb e2 e3
            split at h
            · rename_i s1 e4
              cases h
              unfold joinSt at e4
              split at e4
              · rename_i K e5
                cases e4
                obtain ⟨kA, kB, _⟩ := joinHeap_sound ((evCode_heap hheap (C := C) n).1 _ _ _ _ e2) ((evCode_heap hheap (C := C) n).1 _ _ _ _ e3) e5
                cases bb with
                | true =>
                  have hs1 : SM C.loops n0 dd ι { s with H := { s.H with next := s.H.next + (aheadIn c - aheadIn b), log := [] } } a w := hs.same (hs.wr.heap (fun _ _ => rfl) (Nat.le_add_right _ _)) rfl rfl
                  refine wpIn_cond_true hb (ihc dd ro n0 b _ .normal sa ι a w Q e2 hs1 (fun l0 e => hro l0 e) fun ι' a' w' e k1 k2 k3 => ?_)
                  obtain ⟨ds, mk, k2⟩ := k2
                  refine hQ ι' a' w' e ?_ ⟨ds, mk, k2.1, k2.2.less kA k3.symm fun t y hy => (Tr.meet_get hy).1⟩ rfl
                  have k4 := k1.less hs1.wr.vis kA
                  exact ⟨k4.ext, k4.wr, Nat.le_trans (Nat.le_add_right _ _) k4.next, fun b hb hn => (k4.dom b hb hn).imp id (fun h => Nat.le_trans (Nat.le_add_right _ _) h), k4.keep, k4.junk, k4.os, k4.tape, k4.output, k4.size, k4.stay, k4.frame, k4.fresh⟩
                | false =>
                  have hs1 : SM C.loops n0 dd ι { s with H := { s.H with log := [] } } a w := hs.same (hs.wr.heap (fun _ _ => rfl) (Nat.le_refl _)) rfl rfl
                  refine wpIn_cond_false hb (ihc dd ro n0 c _ .normal sb ι a w Q e3 hs1 (fun l0 e => hro l0 e) fun ι' a' w' e k1 k2 k3 => ?_)
                  obtain ⟨ds, mk, k2⟩ := k2
                  refine hQ ι' a' w' e ?_ ⟨ds, mk, k2.1, k2.2.less kB k3.symm fun t y hy => (Tr.meet_get hy).2⟩ rfl
                  exact (k1.less hs1.wr.vis kB).cast (HEq2.log' s.H []) (HEq2.refl _)
              · cases e4
            · cases h
          · cases h
        · cases h
      case block id b =>
        split at h
        · rename_i i s1 e1
          cases h
          refine wpIn_block (ihc dd ro n0 b s (.exit i) _ ι a w _ e1 hs hro fun ι1 a1 w1 e h1 h2 h3 => ?_)
          obtain ⟨ds, mk, rfl, h2⟩ := h2
          have hq := hQ ι1 a1 w1
          simp only [Exit.inBlock]
          cases q : Nat.beq i id with
          | true => simp only [q, cond_true] at hq; simp only [Tr.nbeq, decide_eq_true_eq] at q; rw [if_pos q]; exact hq _ h1 ⟨ds, mk, rfl, h2⟩ h3
          | false => simp only [q, cond_false] at hq; simp only [Tr.nbeq, decide_eq_false_iff_not] at q; rw [if_neg q]; exact hq _ h1 ⟨ds, mk, rfl, h2⟩ h3
        · rename_i hno
          refine wpIn_block (ihc dd ro n0 b s x s' ι a w _ h hs hro fun ι1 a1 w1 e h1 h2 h3 => ?_)
          cases x with
          | normal => have h2' := h2; obtain ⟨_, _, rfl, _⟩ := h2; exact hQ ι1 a1 w1 _ h1 h2' h3
          | exit id => exact absurd h (hno id s')
          | ret => have h2' := h2; obtain ⟨_, _, rfl, _⟩ := h2; exact hQ ι1 a1 w1 _ h1 h2' h3
          | panic v => have h2' := h2; obtain ⟨_, _, v', rfl, _⟩ := h2; exact hQ ι1 a1 w1 _ h1 h2' h3
      case rangeFunc f ps assign body =>
        obtain ⟨hlo, h⟩ := bound_of_cond h
        split at h
        case h_2 => cases h
        rename_i g first captured e1
        split at h
        case h_2 => cases h
        rename_i H1 e2
        split at h
        · cases h
        · rename_i v H2 hno e3
          split at h
          · rename_i H3 e4
            cases h
            have hs' : SM true n0 dd ι s a w := by rw [← hlo]; exact hs
            refine range_sound hcall e1 e2 e3 (fun y hy => hno y hy) e4 hs' hro fun ι' a' w' k1 k2 => hQ ι' a' w' .normal k1 ?_ rfl
            rw [hlo]; exact XM.of rfl k2
          · cases h
        · cases h
      case loop b => exact wpIn_loop_rounds n (ihl dd ro n0 b s x s' ι a w Q h hs hro hQ)
    · simp only [evLoop] at h
      rw [roundsIn_succ]
      split at h
      · rename_i s1 e1
        refine ihc dd ro n0 c s .normal s1 ι a w _ e1 hs hro fun ι1 a1 w1 e h1 h2 h3 => ?_
        obtain ⟨rfl, h2'⟩ := h2.normal
        refine ihl dd ro n0 c s1 x s' ι1 a1 w1 Q h h2' (hro.step h1) fun ι' a' w' e k1 k2 k3 => ?_
        exact hQ ι' a' w' e (h1.trans (fun _ h => h) (fun _ h => h) k1) k2 (k3.trans h3)
      · rename_i hno
        refine ihc dd ro n0 c s x s' ι a w _ h hs hro fun ι1 a1 w1 e h1 h2 h3 => ?_
        cases x with
        | normal => exact absurd h (hno s')
        | exit id => have h2' := h2; obtain ⟨_, _, rfl, _⟩ := h2; exact hQ ι1 a1 w1 _ h1 h2' h3
        | ret => have h2' := h2; obtain ⟨_, _, rfl, _⟩ := h2; exact hQ ι1 a1 w1 _ h1 h2' h3
        | panic v => have h2' := h2; obtain ⟨_, _, v', rfl, _⟩ := h2; exact hQ ι1 a1 w1 _ h1 h2' h3
end
end
end Go.Ev
namespace Go.Ev
noncomputable section
open Go Go.RowKit
variable [Env]
section
variable {dd : List Deferred} {C : Ctx} {P : Program} (hC : C.Ok P)
include hC
theorem evCode_wp (hlo : C.loops = false) {call : CallA} (hcall : CallSound P call) (hheap : CallHeap call) (n : Nat) (c : Code) (s : St) (x : X) (s' : St) (ι : Map) (a : Act) (w : World) (Q : Exit → Act → World → Prop) (h : evCode C call n c s = some (x, s')) (hs : SR dd ι s a w)
    (hQ : ∀ ι' a' w' e, Step Nope ι s.H w ι' s'.H w' → XR dd ι' x s' a' w' e → s'.N = s.N → Q e a' w') : c.wp P Q a w :=
  wpIn_wide.1 ((evCode_sound hC hcall hheap n).1 dd none 0 c s x s' ι a w Q h ⟨dd, Marks.refl (Nat.zero_le _), hs⟩ (fun _ e => by cases e) fun ι' a' w' e h1 h2 h3 => hQ ι' a' w' e h1 (by
    obtain ⟨ds, ⟨_, ms, rfl, hm, _⟩, h2⟩ := h2
    rw [hm hlo] at h2; exact h2) h3)
omit hC
omit [Env] in
theorem enterT_get : ∀ (vs : List AV) (i : Nat) (T : Tr AV) (t : Nat), (enterT i vs T).get t = if i ≤ t ∧ t < i + vs.length then vs[t - i]? else T.get t
  | [], i, T, t => by rw [if_neg (by simp only [List.length_nil]; omega)]; rfl
  | v :: vs, i, T, t => by
    simp only [enterT]
    rw [enterT_get vs (i + 1), Tr.get_set]
    by_cases e : i + 1 ≤ t ∧ t < i + 1 + vs.length
    · rw [if_pos e, if_pos (by simp; omega)]
      have : t - i = (t - (i + 1)) + 1 := by omega
      rw [this]; simp
    · rw [if_neg e]
      by_cases e2 : t = i
      · subst e2; simp
      · rw [if_neg e2, if_neg (by simp; omega)]

def resOne (tmps : Array Value) : ResultVar → Sem Value
  | .tmp t => pure (tmps.getD t undef)
  | .cell b t => do loadVar t (← asAddr (tmps.getD b undef))
omit [Env] in
theorem results_eq (fn : Func) (tmps : Array Value) : results fn tmps = (do let vs ← fn.results.mapM (resOne tmps); pure (if h : vs.size = 1 then vs[0] else .tuple vs)) := rfl
include hC
theorem result_sound {ι : Map} {s : St} {a : Act} {w : World} (hs : SR dd ι s a w) {r : ResultVar} {v : AV} (h : resultA C s r = some v) :
    ∃ v', (resOne a.tmps r).run P w = .ok v' w ∧ VR ι v v' := by
  cases r with
  | tmp t =>
    simp only [resultA] at h
    obtain ⟨u, hu, q⟩ := hs.tr t v h
    exact ⟨u, by simp [resOne, hu], q⟩
  | cell b t =>
    simp only [resultA] at h
    split at h
    · rename_i p e1
      obtain ⟨u, hu, q⟩ := hs.tr b p e1
      obtain ⟨v', h1, h2⟩ := load_sound hC hs.wr q h
      cases p <;> simp only [evLoad] at h <;> try (cases h; done)
      obtain ⟨ad, rfl⟩ := q.ptr_inv
      refine ⟨v', ?_, h2⟩
      simp only [Instr.loadAt, Instr.sureAddr, Sem.run_bind, Sem.run_pure, Result.andThen_ok] at h1
      simp [resOne, hu, asAddr, h1]
    · cases h
theorem results_sound {ι : Map} {s : St} {a : Act} {w : World} (hs : SR dd ι s a w) (fn : Func) {vs : List AV} (h : resultsA C s fn.results.toList = some vs) :
    ∃ v', (results fn a.tmps).run P w = .ok v' w ∧ VR ι (shut vs) v' := by
  have key : ∀ (rs : List ResultVar) (vs : List AV), resultsA C s rs = some vs → ∃ vs', (rs.mapM (resOne a.tmps)).run P w = .ok vs' w ∧ VRs ι vs vs' := by
    intro rs
    induction rs with
    | nil => intro vs h; simp only [resultsA] at h; cases h; exact ⟨[], by simp, VRs_nil⟩
    | cons r rs ih =>
      intro vs h
      simp only [resultsA] at h
      split at h
      · rename_i v vs2 e1 e2
        cases h
        obtain ⟨v', h1, h2⟩ := result_sound hC hs e1
        obtain ⟨vs', h3, h4⟩ := ih vs2 e2
        exact ⟨v' :: vs', by simp only [List.mapM_cons, Sem.run_bind, h1, h3, Result.andThen_ok, Sem.run_pure], VRs_cons h2 h4⟩
      · cases h
  obtain ⟨vs', h1, h2⟩ := key fn.results.toList vs h
  have hl := h2.len
  rw [results_eq, Array.mapM_eq_mapM_toList]
  simp only [Sem.run_bind, Sem.run_map, h1, Result.andThen_ok, Sem.run_pure]
  refine ⟨_, rfl, ?_⟩
  match vs, vs', h2, hl with
  | [], vs', h2, hl =>
    have : vs' = [] := List.eq_nil_of_length_eq_zero (by simpa using hl)
    subst this
    simp only [shut, VR]; exact ⟨[], VRs_nil, by simp⟩
  | [v], [v'], h2, hl =>
    simp only [VRs] at h2
    obtain ⟨y, ys, hy, hys, e⟩ := h2
    cases e
    simpa [shut] using hy
  | v :: u :: vs, vs', h2, hl =>
    simp only [shut, VR]
    refine ⟨vs', h2, ?_⟩
    rw [dif_neg (by simp; simp at hl; omega)]
end
end
end Go.Ev
/-! Functions that defer one call, which begins by asking for the panic's value. -/
namespace Go.Ev
noncomputable section
open Go Go.RowKit
variable [Env]

omit [Env] in
theorem wpOps_append {P : Program} {ops : Array Oper} {Q : Exit → Act → World → Prop} : ∀ (l k : List Nat) (a : Act) (w : World),
    wpOps P ops (fun e a w => match e with | .normal => wpOps P ops Q k a w | e => Q e a w) l a w → (∀ a w, ¬ Q .outgrown a w) → wpOps P ops Q (l ++ k) a w
  | [], k, a, w, h, _ => h
  | i :: l, k, a, w, h, hno => by
    simp only [List.cons_append, wpOps] at h ⊢
    split
    · rename_i e; rw [e] at h; exact wpOps_append l k a w h hno
    · rename_i o e
      rw [e] at h
      simp only at h
      split
      · rename_i hw
        rw [if_pos hw] at h
        rcases h with h | ⟨_, a0, w0, h⟩
        · left
          unfold Oper.wp at h ⊢
          generalize (execOp a.eval o).run P w = r at h ⊢
          cases r with
          | ok nx w' =>
            cases nx <;> simp only [Oper.upon] at h ⊢ <;> first
              | exact wpOps_append l k _ _ h hno
              | exact h.elim
              | (refine h.mono ?_
                 intro e w'' he
                 cases e with
                 | returned v => exact wpOps_append l k _ _ he hno
                 | panicked ch => exact he
                 | outgrown => obtain ⟨a0, w0, h0⟩ := he; exact (hno a0 w0 h0).elim)
              | exact h.mono (fun v w'' he => wpOps_append l k _ _ he hno)
          | halt x w' => cases x <;> simp only [Oper.upon] at h ⊢ <;> exact h
        · exact (hno a0 w0 h).elim
      · rename_i hw
        rw [if_neg hw] at h
        exact wpOps_append l k _ _ h hno

omit [Env] in
/-- operations of which none asks for the panic's value -/
theorem opsS_of {P : Program} {ops : Array Oper} {Q : Exit → Act → World → Prop} {cs : List Frame} : ∀ (l : List Nat) (a : Act) (w : World), wpOps P ops Q l a w → (∀ a w, ¬ Q .outgrown a w) →
    wpOpsS P ops (fun e a cs' w => cs' = cs ∧ Q e a w) l a cs w
  | [], a, w, h, _ => ⟨rfl, h⟩
  | i :: l, a, w, h, hno => by
    simp only [wpOps] at h
    simp only [wpOpsS]
    split
    · rename_i e; rw [e] at h; exact opsS_of l a w h hno
    · rename_i o e
      rw [e] at h
      simp only at h
      split
      · rename_i hw
        rw [if_pos hw] at h
        rcases h with h | ⟨_, a0, w0, h⟩
        · unfold Oper.wp at h
          generalize (execOp a.eval o).run P w = r at h ⊢
          cases r with
          | ok nx w' =>
            cases nx <;> simp only [Oper.upon] at h ⊢ <;> first
              | exact opsS_of l _ _ h hno
              | exact h.elim
              | (refine h.mono ?_
                 intro e w'' he
                 cases e with
                 | returned v => exact opsS_of l _ _ he hno
                 | panicked ch => first | exact ⟨rfl, he⟩ | exact ⟨trivial, he⟩
                 | outgrown => obtain ⟨a0, w0, h0⟩ := he; exact (hno a0 w0 h0).elim)
              | exact h.mono (fun v w'' he => opsS_of l _ _ he hno)
          | halt x w' => cases x <;> simp only [Oper.upon] at h ⊢ <;> first | exact h.elim | exact ⟨rfl, h⟩ | exact ⟨trivial, h⟩
        · exact (hno a0 w0 h).elim
      · rename_i hw
        rw [if_neg hw] at h
        exact opsS_of l _ _ h hno

omit [Env] in
theorem recOf_run {o : Oper} {d : Tmp} (h : recOf o = some d) (P : Program) (ρ : Operand → Value) (w : World) : (execOp ρ o).run P w = .ok .recover w ∧ o.guard = none ∧ o.dst = some d := by
  unfold recOf at h
  split at h
  · rename_i c ho
    split at h
    · rename_i hc
      obtain ⟨hg, h⟩ := bound_of_cond h
      simp only [Option.isNone_iff_eq_none] at hg
      exact ⟨by simp [execOp, ho, resolve, hc, invoke, builtin], hg, h⟩
    · cases h
  · cases h

/-- the mode of the frame that defers, behind the call -/
def spent : FrameMode → FrameMode
  | .panicking [{ v := v, recovered := false, goexit := false }] => .panicking [{ v := v, recovered := true }]
  | u => u
/-- what a deferred call that asks is handed -/
def Asks (ι : Map) (r : AV) (u : FrameMode) : Prop := (u = .returning ∧ r = .nilif) ∨ ∃ v, u = .panicking [{ v := v, recovered := false }] ∧ VR ι r v

section
variable {C : Ctx} {P : Program} (hC : C.Ok P)
include hC
theorem late_sound (hlo : C.loops = false) {call : CallA} (hcall : CallSound P call) (hheap : CallHeap call) {n : Nat} {H H' : Heap} {g : FuncId} {args : List AV} {r : AV} (h : evLate C call n H g args r = some H') {ι : Map} {w : World} {args' : List Value} {u : FrameMode}
    (hw : WR ι H w) (ha : VRs ι args args') (hu : Asks ι r u) :
    (∃ fn, P.funcs[g]? = some fn ∧ fn.body.isSome = true ∧ fn.name ≠ "runtime.NumGoroutine") ∧
    CallsD P g args'.toArray u w fun e u' w' => (∃ v, e = .returned v) ∧ u' = spent u ∧ ∃ ι', Step Nope ι H w ι' H' w' := by
  unfold evLate at h
  split at h
  · rename_i fn e1
    split at h
    · rename_i id ops rest e2
      split at h
      · rename_i o os e3
        split at h
        · rename_i d e4
          obtain ⟨hb, h⟩ := bound_of_cond h
          simp only [Bool.and_eq_true, Nat.ble_eq, Nat.blt_eq] at hb
          obtain ⟨hlen, hd⟩ := hb
          have hfn := hC.fn g fn e1
          refine ⟨⟨fn, hfn, by rw [e2]; rfl, hC.name g fn e1⟩, ?_⟩
          split at h
          · rename_i s1 e5
            have hl := ha.len
            have hsz : ops.size = os.length + 1 := by rw [← Array.length_toList, e3]; rfl
            have ho : ops[0]? = some o := by rw [← Array.getElem?_toList, e3]; rfl
            have hos : ∀ k o', os[k]? = some o' → ops[1 + k]? = some o' := fun k o' hk => by
              rw [← Array.getElem?_toList, e3, show 1 + k = k + 1 by omega]; simpa using hk
            refine callsD_of_wpS hfn e2 fun c₀ cs hc => ?_
            -- what is handed
            obtain ⟨rv, cs1, hrec, hrv, hcs1⟩ : ∃ rv cs1, ((recoverD (c₀ :: cs) = some (rv, cs1)) ∨ (recoverD (c₀ :: cs) = none ∧ rv = .nilIface ∧ cs1 = c₀ :: cs)) ∧ VR ι r rv ∧ cs1 = { c₀ with mode := spent u } :: cs := by
              rcases hu with ⟨hu, hr⟩ | ⟨v, hu, hr⟩
              · refine ⟨.nilIface, c₀ :: cs, .inr ⟨?_, rfl, rfl⟩, by rw [hr]; simp only [VR], ?_⟩
                · unfold recoverD; simp only; rw [hc, hu]
                · rw [hu]; simp only [spent]; rw [← hu, ← hc]
              · refine ⟨v, { c₀ with mode := .panicking [{ v := v, recovered := true }] } :: cs, .inl ?_, hr, ?_⟩
                · unfold recoverD; simp only; rw [hc, hu]
                · rw [hu]; simp only [spent]
            have hs0 : SR [] ι { T := (enterT 0 args .nil).set d r, N := fn.ntmps, H := { H with next := H.next + ops.size, log := [] } } (({ tmps := args'.toArray ++ Array.replicate (fn.ntmps - args'.toArray.size) undef, defers := [] } : Act).put (some d) rv) w := by
              have hsize : (args'.toArray ++ Array.replicate (fn.ntmps - args'.toArray.size) undef).size = fn.ntmps := by simp; omega
              refine ⟨hw.heap (fun _ _ => rfl) (Nat.le_add_right _ _), ?_, by simp only [Act.put, Array.size_setIfInBounds]; exact hsize, rfl⟩
              intro t x ht
              simp only at ht
              rw [Act.put_get (by simp only; rw [hsize]; exact hd)]
              rw [Tr.get_set] at ht
              by_cases q0 : t = d
              · rw [if_pos q0] at ht ⊢; cases ht; exact ⟨rv, rfl, hrv⟩
              · rw [if_neg q0] at ht ⊢
                rw [enterT_get] at ht
                by_cases q : 0 ≤ t ∧ t < 0 + args.length
                · rw [if_pos q] at ht
                  obtain ⟨u, hu, r⟩ := ha.get ht
                  have : t < args'.length := by omega
                  exact ⟨u, by simp only; rw [Array.getElem?_append_left (by simpa using this)]; simpa using hu, r⟩
                · rw [if_neg q] at ht; cases ht
            apply wpS_seq
            apply wpS_region
            rw [show List.range ops.size = 0 :: List.range' 1 os.length by rw [List.range_eq_range', hsz, List.range'_succ]]
            obtain ⟨hrun, hguard, hdst⟩ := recOf_run e4 P (({ tmps := args'.toArray ++ Array.replicate (fn.ntmps - args'.toArray.size) undef, defers := [] } : Act).eval) w
            have hwant : Region.wanted o (yielded ops (args'.toArray ++ Array.replicate (fn.ntmps - args'.toArray.size) undef)) = true := by unfold Region.wanted; rw [hguard]
            simp only [wpOpsS, ho, hwant, if_true, hrun, hdst]
            -- the rest of the region, and the rest of the body
            have main : wpOpsS P ops (Exit.thenS (Code.wpS P rest (bodyPostS P fn c₀ cs fun e u' w' => (∃ v, e = .returned v) ∧ u' = spent u ∧ ∃ ι', Step Nope ι H w ι' H' w')) (bodyPostS P fn c₀ cs fun e u' w' => (∃ v, e = .returned v) ∧ u' = spent u ∧ ∃ ι', Step Nope ι H w ι' H' w'))
                (List.range' 1 os.length) (({ tmps := args'.toArray ++ Array.replicate (fn.ntmps - args'.toArray.size) undef, defers := [] } : Act).put (some d) rv) cs1 w := by
              have fin : ∀ (s2 : St) (ι1 ι2 : Map) (a1 a2 : Act) (w1 w2 : World) (hst1 : Step (fun b => H.next + 1 ≤ b) ι { H with next := H.next + ops.size, log := [] } w ι1 s1.H w1) (hst2 : Step Nope ι1 s1.H w1 ι2 s2.H w2) (hs2 : SR [] ι2 s2 a2 w2) (vs : List AV), resultsA C s2 fn.results.toList = some vs → H' = H.back s2.H →
                  a2.defers = [] ∧ ∃ u', cs1 = { c₀ with mode := u' } :: cs ∧ ∃ v, (results fn a2.tmps).run P w2 = .ok v w2 ∧ ((∃ v', Ending.returned v = .returned v') ∧ u' = spent u ∧ ∃ ι', Step Nope ι H w ι' H' w2) := by
                intro s2 ι1 ι2 a1 a2 w1 w2 hst1 hst2 hs2 vs hvs hH
                obtain ⟨v', r1, _⟩ := results_sound hC hs2 fn hvs
                refine ⟨hs2.defers, spent u, hcs1, v', r1, ⟨v', rfl⟩, rfl, ι2, ?_⟩
                have t1 : Step (fun b => H.next ≤ b) ι H w ι1 s1.H w1 := by
                  refine ⟨hst1.ext, hst1.wr, Nat.le_trans (Nat.le_add_right _ _) hst1.next, fun b hb hn => ?_, hst1.keep, hst1.junk, hst1.os, hst1.tape, hst1.output, hst1.size, hst1.stay, hst1.frame, hst1.fresh⟩
                  rcases hst1.dom b hb hn with e | e
                  · exact .inl (by omega)
                  · have e' : H.next + ops.size ≤ b := e
                    exact .inl (by omega)
                have t2 := t1.trans (ids := fun b => H.next ≤ b) (fun _ h => h) (fun _ h => h.elim) hst2
                have t3 := t2.cast (HEq2.refl _) (HEq2.log s2.H (s2.H.log.filter (fun b => (H.get b).isSome) ++ H.log))
                rw [hH]
                exact { t3 with dom := fun b hb hn => .inr (by rcases t3.dom b hb hn with e | e <;> exact e) }
              have hops : wpOps P ops (fun e a w1 => e = .normal ∧ ∃ ι1, Step (fun b => H.next + 1 ≤ b) ι { H with next := H.next + ops.size, log := [] } w ι1 s1.H w1 ∧ SR [] ι1 s1 a w1) (List.range' 1 os.length) (({ tmps := args'.toArray ++ Array.replicate (fn.ntmps - args'.toArray.size) undef, defers := [] } : Act).put (some d) rv) w := by
                refine evOps_sound hC hcall os 1 e5 hos hs0 (fun j h1 h2 => hw.new _ (by omega)) (by simp only; omega) fun ι1 a1 w1 e q1 q2 q3 => ?_
                obtain ⟨rfl, q2⟩ := q2
                exact ⟨rfl, ι1, q1, q2⟩
              have hopsS := opsS_of (cs := cs1) _ _ _ hops (fun a w h => by cases h.1)
              -- on to the rest
              have mono : ∀ (l : List Nat) (a : Act) (cs' : List Frame) (w0 : World) {Q Q' : Exit → Act → List Frame → World → Prop}, (∀ e a cs w, Q e a cs w → Q' e a cs w) → wpOpsS P ops Q l a cs' w0 → wpOpsS P ops Q' l a cs' w0 := by
                intro l
                induction l with
                | nil => intro a cs' w0 Q Q' hq h; exact hq _ _ _ _ h
                | cons i l ih =>
                  intro a cs' w0 Q Q' hq h
                  simp only [wpOpsS] at h ⊢
                  split
                  · rename_i e; rw [e] at h; exact ih _ _ _ hq h
                  · rename_i o e
                    rw [e] at h
                    simp only at h
                    split
                    · rename_i hw
                      rw [if_pos hw] at h
                      generalize (execOp a.eval o).run P w0 = r at h ⊢
                      cases r with
                      | ok nx w' =>
                        cases nx <;> simp only [Oper.upon] at h ⊢ <;> first
                          | exact ih _ _ _ hq h
                          | exact h.elim
                          | (cases hr : recoverD cs' with
                             | none => rw [hr] at h; exact ih _ _ _ hq h
                             | some p => obtain ⟨v9, c9⟩ := p; rw [hr] at h; exact ih _ _ _ hq h)
                          | (refine h.mono ?_
                             intro e w'' he
                             cases e with
                             | returned v => exact ih _ _ _ hq he
                             | panicked ch => exact hq _ _ _ _ he
                             | outgrown => obtain ⟨a0, w0, h0⟩ := he; exact ⟨a0, w0, hq _ _ _ _ h0⟩)
                          | exact h.mono (fun v w'' he => ih _ _ _ hq he)
                      | halt x w' => cases x <;> simp only [Oper.upon] at h ⊢ <;> first | exact h.elim | exact hq _ _ _ _ h
                    · rename_i hw
                      rw [if_neg hw] at h
                      exact ih _ _ _ hq h
              refine mono _ _ _ _ ?_ hopsS
              rintro e a1 cs' w1 ⟨rfl, rfl, ι1, q1, q2⟩
              simp only [Exit.thenS]
              split at h
              · rename_i s2 e6
                split at h
                · rename_i vs e7
                  cases h
                  refine wpS_of_wp (evCode_wp hC hlo hcall hheap n rest s1 .normal s2 ι1 a1 w1 _ e6 q2 fun ι2 a2 w2 e k1 k2 _ => ?_)
                  obtain ⟨rfl, k2⟩ := k2
                  exact fin s2 ι1 ι2 a1 a2 w1 w2 q1 k1 k2 vs e7 rfl
                · cases h
              · rename_i s2 e6
                split at h
                · rename_i vs e7
                  cases h
                  refine wpS_of_wp (evCode_wp hC hlo hcall hheap n rest s1 .ret s2 ι1 a1 w1 _ e6 q2 fun ι2 a2 w2 e k1 k2 _ => ?_)
                  obtain ⟨rfl, k2⟩ := k2
                  exact fin s2 ι1 ι2 a1 a2 w1 w2 q1 k1 k2 vs e7 rfl
                · cases h
              · cases h
            rcases hrec with hrec | ⟨hrec, hrv2, hcs2⟩
            · rw [hrec]; exact main
            · rw [hrec]; subst hrv2; subst hcs2; exact main
          · cases h
        · cases h
      · cases h
    · cases h
  · cases h
end
end
end Go.Ev
/-! Functions, called. -/
namespace Go.Ev
noncomputable section
open Go Go.RowKit
variable [Env]

omit [Env] in
theorem back_heap {H K : Heap} (h : HRel (fun _ => False) { H with log := [] } K) : HRel (fun _ => False) H (H.back K) := by
  obtain ⟨l, h1, h2⟩ := h.log
  refine ⟨h.next, h.made, ⟨_, rfl, fun b hb hn => ?_⟩, h.keep⟩
  refine h2 b hb fun hm => hn ?_
  simp only at h1
  rw [List.append_nil] at h1
  rw [List.mem_filter]
  exact ⟨by rw [h1]; exact hm, by cases e : H.get b <;> simp_all⟩
omit [Env] in
theorem region_heap {call : CallA} (hheap : CallHeap call) {C : Ctx} {ops : Array Oper} {l : List Oper} {i : Nat} {_s : St} {H : Heap} {x : X} {s' : St} {T : Tr AV} {N : Nat} (h : evOps C call noY ops H.next i l { T := T, N := N, H := { H with next := H.next + ops.size } } = some (x, s')) (hl : i + l.length ≤ ops.size) : HRel (fun _ => False) H s'.H := by
  have hr := evOps_heap hheap (yc := noY) (fun _ _ _ _ h => by cases h) (n := ops.size) l i _ x s' h hl
  refine ⟨Nat.le_trans (Nat.le_add_right _ _) hr.next, fun b hb hn => .inr ?_, hr.log, hr.keep⟩
  have hnx : H.next + ops.size ≤ s'.H.next := hr.next
  rcases hr.made b hb hn with e | e
  · omega
  · have : H.next + ops.size ≤ b := e.1
    exact ⟨by omega, e.2⟩
omit [Env] in
theorem late_heap {call : CallA} (hheap : CallHeap call) {C : Ctx} {n : Nat} {H H' : Heap} {g : FuncId} {args : List AV} {r : AV} (h : evLate C call n H g args r = some H') : HRel (fun _ => False) H H' := by
  unfold evLate at h
  split at h
  · rename_i fn e1
    split at h
    · rename_i id ops rest e2
      split at h
      · rename_i o os e3
        split at h
        · rename_i d e4
          obtain ⟨_, h⟩ := bound_of_cond h
          have hsz : ops.size = os.length + 1 := by rw [← Array.length_toList, e3]; rfl
          split at h
          · rename_i s1 e5
            have h1 := region_heap (_s := s1) (H := { H with log := [] }) hheap e5 (by omega)
            split at h
            · rename_i s2 e6
              split at h
              · cases h
                exact back_heap (h1.trans (fun _ h => h) (fun _ h => h) ((evCode_heap hheap n).1 _ _ _ _ e6))
              · cases h
            · rename_i s2 e6
              split at h
              · cases h
                exact back_heap (h1.trans (fun _ h => h) (fun _ h => h) ((evCode_heap hheap n).1 _ _ _ _ e6))
              · cases h
            · cases h
          · cases h
        · cases h
      · cases h
    · cases h
  · cases h
omit [Env] in
theorem shut_heap {call : CallA} (hheap : CallHeap call) {C : Ctx} {n : Nat} {H H' : Heap} {fn : Func} {f r v : AV} {s : St} (h : evShut C call n H fn f r s = some (v, H')) (hs : HRel (fun _ => False) { H with log := [] } s.H) : HRel (fun _ => False) H H' := by
  unfold evShut at h
  split at h
  · split at h
    · rename_i K e1
      split at h
      · cases h
        exact back_heap (hs.trans (fun _ h => h) (fun _ h => h) (late_heap hheap e1))
      · cases h
    · cases h
  · cases h
omit [Env] in
theorem form_len {code : Code} {F : Code × Array Oper × List Oper × Operand × Code} (h : lateForm code = some F) : ∃ (id : Nat) (o : Oper), code = .seq F.1 (.seq (.region id F.2.1 false) F.2.2.2.2) ∧ F.2.1.toList = F.2.2.1 ++ [o] ∧ lateOf o = some F.2.2.2.1 := by
  unfold lateForm at h
  split at h
  · rename_i a id ops b
    split at h
    · rename_i o os e
      split at h
      · rename_i f e2
        cases h
        refine ⟨id, o, rfl, ?_, e2⟩
        have := congrArg List.reverse e
        simpa using this
      · cases h
    · cases h
  · cases h
omit [Env] in
theorem defer_heap {call : CallA} (hheap : CallHeap call) {C : Ctx} {n : Nat} {H H' : Heap} {fn : Func} {args : List AV} {code : Code} {F : Code × Array Oper × List Oper × Operand × Code} (hF : lateForm code = some F) {v : AV} (h : evDefer C call n H fn args F = some (v, H')) : HRel (fun _ => False) H H' := by
  obtain ⟨id, o, _, hops, _⟩ := form_len hF
  have hsz : F.2.1.size = F.2.2.1.length + 1 := by rw [← Array.length_toList, hops]; simp
  unfold evDefer at h
  split at h
  · rename_i s1 e1
    have h1 := (evCode_heap hheap n).1 _ _ _ _ e1
    split at h
    · rename_i s2 e2
      have h2 := h1.trans (ids := fun _ => False) (fun _ h => h) (fun _ h => h) (region_heap (_s := s1) hheap e2 (by omega))
      split at h
      · split at h
        · rename_i e3; exact shut_heap hheap h (h2.trans (fun _ h => h) (fun _ h => h) ((evCode_heap hheap n).1 _ _ _ _ e3))
        · rename_i e3; exact shut_heap hheap h (h2.trans (fun _ h => h) (fun _ h => h) ((evCode_heap hheap n).1 _ _ _ _ e3))
        · rename_i e3; exact shut_heap hheap h (h2.trans (fun _ h => h) (fun _ h => h) ((evCode_heap hheap n).1 _ _ _ _ e3))
        · cases h
      · cases h
    · cases h
  · cases h
omit [Env] in
theorem evFun_heap {C : Ctx} {prim : CallA} (hprim : CallHeap prim) : ∀ n, CallHeap (evFun C prim n)
  | 0 => fun H f args v H' h => by simp [evFun] at h
  | n + 1 => fun H f args v H' h => by
    simp only [evFun] at h
    split at h
    · rename_i r e1
      cases h
      exact hprim H f args v H' e1
    · split at h
      · split at h
        · obtain ⟨_, h⟩ := bound_of_cond h
          split at h
          · rename_i F hF
            exact defer_heap (evFun_heap hprim n) hF h
          · split at h
            · cases h
            · rename_i y s1 e5
              cases h
              exact back_heap ((evCode_heap (evFun_heap hprim n) n).1 _ _ _ _ e5)
            · rename_i x s1 hno hno2 e5
              split at h
              · cases h
                exact back_heap ((evCode_heap (evFun_heap hprim n) n).1 _ _ _ _ e5)
              · cases h
            · cases h
        · cases h
      · cases h

theorem not_outgrown {ι : Map} {v : AV} : ¬ EndsAs ι v .outgrown := by
  intro h
  cases v <;> (obtain ⟨_, h, _⟩ := h; cases h)
omit [Env] in
theorem lateOf_run {o : Oper} {f : Operand} (h : lateOf o = some f) (P : Program) (a : Act) (w : World) {g : Fn} {x y : Array Value} (hf : a.eval f = .func g x y) :
    (execOp a.eval o).run P w = .ok (.defer { target := .fn g y, args := x ++ #[] }) w ∧ o.guard = none ∧ o.dst = none := by
  unfold lateOf at h
  split at h
  · rename_i c ho
    split at h
    · rename_i f' hc
      obtain ⟨hg, h⟩ := bound_of_cond h
      cases h
      simp only [Bool.and_eq_true, Option.isNone_iff_eq_none, List.isEmpty_iff, Array.toList_eq_nil_iff] at hg
      refine ⟨?_, hg.1.2, hg.2⟩
      have hargs : c.args.map a.eval = #[] := by rw [hg.1.1]; simp
      simp [execOp, ho, resolve, hc, hf, Deferred.ofValue, hargs]
    · cases h
  · cases h

section
variable {dd : List Deferred} {C : Ctx} {P : Program} (hC : C.Ok P)
include hC
/-- behind all but the deferred call -/
theorem shut_sound (hlo : C.loops = false) {call : CallA} (hcall : CallSound P call) (hheap : CallHeap call) {n : Nat} {H0 H' : Heap} {fn : Func} {f r v : AV} {s : St} (h : evShut C call n H0 fn f r s = some (v, H')) {ι0 ι : Map} {w0 w : World} {a : Act} {u : FrameMode} {g : Fn} {x y : Array Value}
    (hst : Step Nope ι0 { H0 with log := [] } w0 ι s.H w) (hs : SR [{ target := .fn g y, args := x ++ #[] }] ι s a w) (hf : VR ι f (.func g x y)) (hu : Asks ι r u) (hrun : u ≠ .run) (hset : settle (spent u) = .returning) :
    Leaves P fn a.tmps (fun e w' => ∃ ι', EndsAs ι' v e ∧ Step (fun _ => False) ι0 H0 w0 ι' H' w') a.defers u w := by
  unfold evShut at h
  split at h
  · rename_i g' first captured
    split at h
    · rename_i K e1
      split at h
      · rename_i vs e2
        cases h
        simp only [VR] at hf
        obtain ⟨p, q, hp, hq, hfe⟩ := hf
        cases hfe
        obtain ⟨⟨fn', hfn, hb, hname⟩, hl⟩ := late_sound hC hlo hcall hheap e1 hs.wr (hp.append hq) hu
        rw [hs.defers]
        have harr : p.toArray ++ #[] ++ q.toArray = (p ++ q).toArray := by apply Array.ext'; simp
        refine leaves_cons hrun (f := g') (args := (p ++ q).toArray) ?_ ?_
        · have := calls_enter (P := P) (w := w) hfn hb hname (p ++ q).toArray
          simp only [invoke, harr]; exact this
        · refine CallsD.mono hl ?_
          rintro e u' w' ⟨⟨rv, rfl⟩, rfl, ι', k1⟩
          simp only
          rw [hset]
          have hs4 : SR [{ target := .fn (.func g') q.toArray, args := p.toArray ++ #[] }] ι' { s with H := K } a w' := ⟨k1.wr, hs.tr.ext k1.ext, hs.size, hs.defers⟩
          obtain ⟨v', r1, r2⟩ := results_sound hC hs4 fn e2
          exact ⟨v', r1, ι', EndsAs.of r2, (hst.trans (fun _ h => h) (fun _ h => h) k1).cast (HEq2.log' H0 []) (HEq2.log _ _)⟩
      · cases h
    · cases h
  · cases h

theorem defer_sound (hlo : C.loops = false) {call : CallA} (hcall : CallSound P call) (hheap : CallHeap call) {n : Nat} {H H' : Heap} {f : FuncId} {fn : Func} {args : List AV} {code : Code} {F : Code × Array Oper × List Oper × Operand × Code} (hfn : P.funcs[f]? = some fn) (hb : fn.body = some code)
    (hF : lateForm code = some F) (hlen : args.length ≤ fn.ntmps) {v : AV} (h : evDefer C call n H fn args F = some (v, H')) {ι : Map} {w : World} {args' : List Value} (hw : WR ι H w) (ha : VRs ι args args') :
    Calls P f args'.toArray w fun e w' => ∃ ι', EndsAs ι' v e ∧ Step (fun _ => False) ι H w ι' H' w' := by
  obtain ⟨id, o, hcode, hops, hlate⟩ := form_len hF
  have hl := ha.len
  have hsz : F.2.1.size = F.2.2.1.length + 1 := by rw [← Array.length_toList, hops]; simp
  have hoth : ∀ k o', F.2.2.1[k]? = some o' → F.2.1[0 + k]? = some o' := fun k o' hk => by
    have := (List.getElem?_eq_some_iff.1 hk).1
    rw [← Array.getElem?_toList, hops, Nat.zero_add, List.getElem?_append_left this]; exact hk
  have hlast : F.2.1[F.2.2.1.length]? = some o := by
    rw [← Array.getElem?_toList, hops, List.getElem?_append_right (Nat.le_refl _)]; simp
  have hs0 : SR [] ι { T := enterT 0 args .nil, N := fn.ntmps, H := { H with log := [] } } { tmps := args'.toArray ++ Array.replicate (fn.ntmps - args'.toArray.size) undef, defers := [] } w := by
    refine ⟨hw.cast (HEq2.log H []), ?_, by simp; omega, rfl⟩
    intro t x ht
    simp only at ht
    rw [enterT_get] at ht
    by_cases q : 0 ≤ t ∧ t < 0 + args.length
    · rw [if_pos q] at ht
      obtain ⟨u, hu, r⟩ := ha.get ht
      have : t < args'.length := by omega
      exact ⟨u, by simp only; rw [Array.getElem?_append_left (by simpa using this)]; simpa using hu, r⟩
    · rw [if_neg q] at ht; cases ht
  refine calls_of_wp_defers hfn hb ?_
  rw [hcode]
  unfold evDefer at h
  split at h
  · rename_i s1 e1
    refine wp_seq (evCode_wp hC hlo hcall hheap n F.1 _ .normal s1 ι _ w _ e1 hs0 fun ι1 a1 w1 e k1 k2 _ => ?_)
    obtain ⟨rfl, k2⟩ := k2
    split at h
    · rename_i s2 e2
      refine wp_seq (wp_region ?_)
      rw [show List.range F.2.1.size = List.range' 0 F.2.2.1.length ++ [F.2.2.1.length] by rw [List.range_eq_range', hsz, List.range'_concat]; simp]
      have hs1 : SR [] ι1 { s1 with H := { s1.H with next := s1.H.next + F.2.1.size } } a1 w1 := ⟨k2.wr.heap (fun _ _ => rfl) (Nat.le_add_right _ _), k2.tr, k2.size, k2.defers⟩
      refine wpOps_append _ _ _ _ (evOps_sound hC hcall F.2.2.1 0 e2 hoth hs1 (fun j _ _ => k2.wr.new _ (by omega)) (by simp only; omega) fun ι2 a2 w2 e q1 q2 _ => ?_) (fun a w h => not_outgrown h.choose_spec.1)
      obtain ⟨rfl, q2⟩ := q2
      split at h
      · rename_i fv e3
        have hf := ev_sound q2.tr e3
        have t1 : Step Nope ι1 s1.H w1 ι2 s2.H w2 := by
          refine ⟨q1.ext, q1.wr, Nat.le_trans (Nat.le_add_right _ _) q1.next, fun b hb hn => ?_, q1.keep, q1.junk, q1.os, q1.tape, q1.output, q1.size, q1.stay, q1.frame, q1.fresh⟩
          rcases q1.dom b hb hn with e | e
          · exact .inr (by omega)
          · have e' : s1.H.next + F.2.1.size ≤ b := e
            exact .inr (by omega)
        have t2 := k1.trans (ids := Nope) (fun _ h => h) (fun _ h => h) t1
        -- the function that is deferred
        obtain ⟨g, x, y, hfe⟩ : ∃ g x y, a2.eval F.2.2.2.1 = .func g x y := by
          have : ∃ g first captured, fv = .fn g first captured := by
            cases fv
            case fn g a c => exact ⟨g, a, c, rfl⟩
            all_goals
              exfalso
              split at h <;> first | (cases h; done) | (unfold evShut at h; cases h)
          obtain ⟨g, a, c, rfl⟩ := this
          simp only [VR] at hf
          obtain ⟨p, q, _, _, hfe⟩ := hf
          exact ⟨g, _, _, hfe⟩
        rw [hfe] at hf
        obtain ⟨hrun, hguard, hdst⟩ := lateOf_run hlate P a2 w2 hfe
        have hwant : Region.wanted o (yielded F.2.1 a2.tmps) = true := by unfold Region.wanted; rw [hguard]
        show wpOps P F.2.1 _ [F.2.2.1.length] a2 w2
        simp only [wpOps, hlast, hwant, if_true]
        left
        unfold Oper.wp
        rw [hrun, Oper.upon_defer, hdst]
        show Code.wp P F.2.2.2.2 _ _ w2
        have hs2 : SR [{ target := .fn g y, args := x ++ #[] }] ι2 s2 { a2 with defers := { target := .fn g y, args := x ++ #[] } :: a2.defers } w2 := ⟨q2.wr, q2.tr, q2.size, by rw [q2.defers]⟩
        split at h
        · rename_i pv s3 e4
          refine evCode_wp hC hlo hcall hheap n F.2.2.2.2 s2 _ s3 ι2 _ w2 _ e4 hs2 fun ι3 a3 w3 e m1 m2 _ => ?_
          obtain ⟨v', rfl, m3, m4⟩ := m2
          exact shut_sound hC hlo hcall hheap h (t2.trans (fun _ h => h) (fun _ h => h) m1) m4 (hf.ext m1.ext) (.inr ⟨v', rfl, m3⟩) (by simp) (by simp [spent, settle])
        · rename_i s3 e4
          refine evCode_wp hC hlo hcall hheap n F.2.2.2.2 s2 _ s3 ι2 _ w2 _ e4 hs2 fun ι3 a3 w3 e m1 m2 _ => ?_
          obtain ⟨rfl, m4⟩ := m2
          exact shut_sound hC hlo hcall hheap h (t2.trans (fun _ h => h) (fun _ h => h) m1) m4 (hf.ext m1.ext) (.inl ⟨rfl, rfl⟩) (by simp) (by simp [spent, settle])
        · rename_i s3 e4
          refine evCode_wp hC hlo hcall hheap n F.2.2.2.2 s2 _ s3 ι2 _ w2 _ e4 hs2 fun ι3 a3 w3 e m1 m2 _ => ?_
          obtain ⟨rfl, m4⟩ := m2
          exact shut_sound hC hlo hcall hheap h (t2.trans (fun _ h => h) (fun _ h => h) m1) m4 (hf.ext m1.ext) (.inl ⟨rfl, rfl⟩) (by simp) (by simp [spent, settle])
        · cases h
      · cases h
    · cases h
  · cases h

theorem evFun_sound {prim : CallA} (hprim : CallSound P prim) (hph : CallHeap prim) : ∀ n, CallSound P (evFun C prim n)
  | 0 => fun H f args v H' h => by simp [evFun] at h
  | n + 1 => fun H f args v H' h => by
    simp only [evFun] at h
    split at h
    · rename_i r e1
      cases h
      exact hprim H f args v H' e1
    · split at h
      · rename_i fn e2
        split at h
        · rename_i code e3
          cases e4 : Nat.ble args.length fn.ntmps with
          | false => rw [e4] at h; cases h
          | true =>
            rw [e4] at h
            simp only [cond_true] at h
            have hfn := hC.fn f fn e2
            refine ⟨⟨fn, hfn, by rw [e3]; rfl, hC.name f fn e2⟩, fun ι w args' hw ha => ?_⟩
            have hl := ha.len
            simp only [Nat.ble_eq] at e4
            have hs0 : SR [] ι { T := enterT 0 args .nil, N := fn.ntmps, H := { H with log := [] } } { tmps := args'.toArray ++ Array.replicate (fn.ntmps - args'.toArray.size) undef, defers := [] } w := by
              refine ⟨hw.cast (HEq2.log H []), ?_, by simp; omega, rfl⟩
              intro t x ht
              simp only at ht
              rw [enterT_get] at ht
              by_cases q : 0 ≤ t ∧ t < 0 + args.length
              · rw [if_pos q] at ht
                obtain ⟨u, hu, r⟩ := ha.get ht
                have : t < args'.length := by omega
                exact ⟨u, by simp only; rw [Array.getElem?_append_left (by simpa using this)]; simpa using hu, r⟩
              · rw [if_neg q] at ht; cases ht
            split at h
            · rename_i F hF
              exact defer_sound (C := { C with loops := false }) ⟨hC.ty, hC.fn, hC.name, hC.mixed, hC.orc, hC.zv, hC.fix⟩ rfl (evFun_sound hprim hph n) (evFun_heap hph n) hfn e3 hF e4 h hw ha
            refine fr_calls (ro := none) (n := 0) (callsIn_of_wp_marks hfn e3 trivial ?_)
            have hro : RoOk none ι { H with log := [] } := fun _ e => by cases e
            have hs1 : SM C.loops w.heap.size [] ι { T := enterT 0 args .nil, N := fn.ntmps, H := { H with log := [] } } _ w := ⟨[], Marks.refl (Nat.le_refl _), hs0⟩
            split at h
            · cases h
            · rename_i y s1 e5
              cases h
              refine (evCode_sound hC (evFun_sound hprim hph n) (evFun_heap hph n) n).1 [] none w.heap.size code _ _ s1 ι _ w _ e5 hs1 hro fun ι' a' w' e k1 k2 k3 => ?_
              obtain ⟨ds, ⟨_, ms, rfl, _, hnd, hms⟩, v', rfl, h2, h4⟩ := k2
              show LeavesInM _ _ _ _ _ _ a'.defers _ _
              rw [h4.defers, List.append_nil]
              exact leavesM (fun h => by cases h) ms w' hnd hms k1 fun w'' k4 => ⟨ι', ⟨v', rfl, h2⟩, k4.cast (HEq2.log' H []) (HEq2.log _ _)⟩
            · rename_i x s1 hno hno2 e5
              split at h
              · rename_i vs e6
                cases h
                refine (evCode_sound hC (evFun_sound hprim hph n) (evFun_heap hph n) n).1 [] none w.heap.size code _ x s1 ι _ w _ e5 hs1 hro fun ι' a' w' e k1 k2 k3 => ?_
                have fin : ∀ (ms : List Deferred), ms.Nodup → (∀ m ∈ ms, ∃ r, w.heap.size ≤ r ∧ m = { target := .collected r, args := #[] } ∧ w'.heap[r]? = some (.deferred (some []))) → SR (ms ++ []) ι' s1 a' w' →
                    LeavesInM (Fr none) 0 P fn a'.tmps (fun e w' => ∃ ι', EndsAs ι' (shut vs) e ∧ Step (fun _ => False) ι H w ι' (H.back s1.H) w') a'.defers .returning w' := by
                  intro ms hnd hms q
                  rw [q.defers, List.append_nil]
                  refine leavesM (fun h => by cases h) ms w' hnd hms k1 fun w'' k4 => ?_
                  have q' : SR (ms ++ []) ι' s1 a' w'' := ⟨k4.wr, q.tr, q.size, q.defers⟩
                  obtain ⟨v', h1, h2⟩ := results_sound hC q' fn e6
                  exact ⟨v', h1, ι', EndsAs.of h2, k4.cast (HEq2.log' H []) (HEq2.log _ _)⟩
                obtain ⟨ds, ⟨_, ms, rfl, _, hnd, hms⟩, k2⟩ := k2
                cases x with
                | normal =>
                  obtain ⟨rfl, k2⟩ := k2
                  exact fin ms hnd hms k2
                | exit id => exact (hno id rfl).elim
                | ret =>
                  obtain ⟨rfl, k2⟩ := k2
                  exact fin ms hnd hms k2
                | panic v => exact (hno2 v rfl).elim
              · cases h
            · cases h
        · cases h
      · cases h
end
end
end Go.Ev
namespace Go.Ev
noncomputable section
open Go Go.RowKit
variable [Env]

/-- a world that is as it was below its end -/
theorem step_below {ids : Nat → Prop} {ι : Map} {H : Heap} {w w' : World} (h : WR ι H w) (hb : Below w.heap.size w w') : Step ids ι H w ι H w' := by
  have hlt : ∀ b l, ι b = some l → l.blk < w.heap.size := fun b l e => by
    cases g : H.get b with
    | none => exact (h.vis b l e g).elim
    | some o =>
      exact (h.obj b l o e g).lt
  refine ⟨Ext.refl _, ⟨fun b l o e g => ?_, h.apart, h.new, h.vis, h.glob⟩, Nat.le_refl _, fun _ h k => (k h).elim, fun _ h => h, fun b l e _ => h.vis b l e, hb.os, hb.tape, hb.output, hb.size, fun _ _ o o' _ g g' => by rw [g] at g'; cases g'; exact ⟨fun h => h, fun h => h⟩, fun c hc _ => hb.block c hc, fun _ _ h k => by rw [h] at k; cases k⟩
  exact (h.obj b l o e g).mono (Ext.refl _) (hb.block l.blk (hlt b l e))

def strsA : List AV → Option (List (List UInt8))
  | [] => some []
  | .str s :: xs => match strsA xs with
    | some r => some (s :: r)
    | none => none
  | _ :: _ => none
theorem strsA_sound {ι : Map} : ∀ {cs : List AV} {vs : List Value} {xs : List (List UInt8)}, strsA cs = some xs → VRs ι cs vs → vs = xs.map fun s => Value.string ⟨⟨s⟩⟩
  | [], vs, xs, h, r => by simp only [strsA] at h; cases h; simp only [VRs] at r; subst r; rfl
  | x :: cs, vs, xs, h, r => by
    simp only [VRs] at r
    obtain ⟨y, ys, hy, hys, rfl⟩ := r
    cases x <;> simp only [strsA] at h <;> try (cases h; done)
    split at h
    · rename_i r e
      cases h
      simp only [VR] at hy; subst hy
      rw [strsA_sound e hys]; rfl
    · cases h

/-- strings.Join, by its contract -/
def joinP (H : Heap) : List AV → Option (AV × Heap)
  | [.sl0, .str _] => some (.str [], H)
  | [.sl b o n, .str sep] => match H.cells b with
    | some ob => cond (Nat.ble (o + n) ob.cs.length && Nat.beq ob.es 1)
      (match strsA ((ob.cs.drop o).take n) with
        | some xs => cond (Nat.ble (Lib.join xs sep).length 140737488355328 && Nat.ble n 140737488355328) (some (.str (Lib.join xs sep), H)) none
        | none => none) none
    | none => none
  | _ => none
def joinAt (f : FuncId) : CallA := fun H g args => cond (Nat.beq g f) (joinP H args) none

omit [Env] in
theorem joinP_heap {H H' : Heap} {args : List AV} {v : AV} (h : joinP H args = some (v, H')) : H' = H := by
  unfold joinP at h
  split at h
  · cases h; rfl
  · split at h
    · obtain ⟨_, h⟩ := bound_of_cond h
      split at h
      · obtain ⟨_, h⟩ := bound_of_cond h; cases h; rfl
      · cases h
    · cases h
  · cases h

omit [Env] in
theorem join_heap (f : FuncId) : CallHeap (joinAt f) := by
  intro H g args v H' h
  obtain ⟨_, h⟩ := bound_of_cond h
  rw [joinP_heap h]; exact HRel.refl _

theorem join_sound {P : Program} {f : FuncId} (hfn : ∃ fn, P.funcs[f]? = some fn ∧ fn.body.isSome = true ∧ fn.name ≠ "runtime.NumGoroutine")
    (h0 : ∀ (a : Option Addr) (c : Nat) (sep : ByteArray) (w : World), Calls P f #[.slice a 0 c, .string sep] w fun e w' => e = .returned (.string ⟨#[]⟩) ∧ w' = w)
    (hJ : ∀ (bk o c : Nat) (xs : List ByteArray) (sep : ByteArray) (w : World), (∀ (j : Nat) x, xs[j]? = some x → w.cell? ⟨bk, o + j, none⟩ = some (.string x)) → bk < w.heap.size → xs.length ≤ 140737488355328 → xs.length ≤ c →
      (Lib.join (xs.map (·.data.toList)) sep.data.toList).length ≤ 140737488355328 →
      Calls P f #[.slice (some ⟨bk, o, none⟩) xs.length c, .string sep] w fun e w' => e = .returned (.string ⟨(Lib.join (xs.map (·.data.toList)) sep.data.toList).toArray⟩) ∧ Below w.heap.size w w') :
    CallSound P (joinAt f) := by
  intro H g args v H' h
  replace h := bound_of_cond h
  obtain ⟨hg, h⟩ := h
  simp only [Tr.nbeq, decide_eq_true_eq] at hg
  subst hg
  refine ⟨hfn, fun ι w args' hw ha => ?_⟩
  have hh := joinP_heap h
  subst hh
  unfold joinP at h
  split at h
  · cases h
    simp only [VRs, VR] at ha
    obtain ⟨_, _, rfl, ⟨_, _, rfl, rfl, rfl⟩, rfl⟩ := ha
    refine (h0 none 0 _ w).mono ?_
    rintro e w' ⟨rfl, rfl⟩
    exact ⟨ι, EndsAs.of (by simp only [VR]), Step.refl hw⟩
  · rename_i b o n sep
    split at h
    · rename_i ob e1
      obtain ⟨hc, h⟩ := bound_of_cond h
      split at h
      · rename_i xs e2
        obtain ⟨hlen, h⟩ := bound_of_cond h
        cases h
        simp only [Bool.and_eq_true, Nat.ble_eq, Tr.nbeq, decide_eq_true_eq] at hc hlen
        simp only [VRs, VR] at ha
        obtain ⟨_, _, ⟨l, cap, hb, hcap, _, rfl⟩, ⟨_, _, rfl, rfl, rfl⟩, rfl⟩ := ha
        obtain ⟨vs, k1, k2, k3⟩ := cells_at hw hb e1 o n hc.1
        have hvs := strsA_sound e2 k2
        obtain ⟨c, et, lo, hi, q1, _⟩ := hw.cells hb e1
        have hxl : xs.length = n := by rw [← k1, hvs]; simp
        have := hJ l.blk (l.shift + o) cap (xs.map fun s => ⟨⟨s⟩⟩) ⟨⟨sep⟩⟩ w (fun j x hx => by
          refine k3 j _ ?_
          rw [hvs]
          simp only [List.getElem?_map, Option.map_eq_some_iff] at hx ⊢
          obtain ⟨s, hs, rfl⟩ := hx
          exact ⟨s, hs, rfl⟩) (Array.getElem?_eq_some_iff.1 q1).1 (by simp; omega) (by simp; omega) (by simp only [List.map_map, Function.comp_def, List.map_id']; exact hlen.1)
        simp only [List.length_map, hxl, List.map_map, Function.comp_def, List.map_id'] at this
        refine this.mono ?_
        rintro e w' ⟨rfl, hbel⟩
        exact ⟨ι, EndsAs.of (by simp only [VR]), step_below hw hbel⟩
      · cases h
    · cases h
  · cases h

/-- the one, or else the other -/
def orP (p q : CallA) : CallA := fun H f args => match p H f args with
  | some r => some r
  | none => q H f args
theorem orP_sound {P : Program} {p q : CallA} (hp : CallSound P p) (hq : CallSound P q) : CallSound P (orP p q) := by
  intro H f args v H' h
  unfold orP at h
  split at h
  · rename_i r e; cases h; exact hp H f args v H' e
  · exact hq H f args v H' h
omit [Env] in
theorem orP_heap {p q : CallA} (hp : CallHeap p) (hq : CallHeap q) : CallHeap (orP p q) := by
  intro H f args v H' h
  unfold orP at h
  split at h
  · rename_i r e; cases h; exact hp H f args v H' e
  · exact hq H f args v H' h
def noP : CallA := fun _ _ _ => none
theorem noP_sound (P : Program) : CallSound P noP := fun _ _ _ _ _ h => by cases h
omit [Env] in
theorem noP_heap : CallHeap noP := fun _ _ _ _ _ h => by cases h

/-! ### what an evaluation at the empty heap says -/
def H0 : Heap := { tr := .nil, next := 0, log := [] }
def noMap : Map := fun _ => none
theorem wr0 (hgl : ∀ b, Env.gl b = none) (w : World) : WR noMap H0 w := ⟨fun _ _ _ h => (by cases h), fun _ _ _ _ _ _ _ h => (by cases h), fun _ _ => rfl, fun _ _ h => (by cases h), fun b l h => (by rw [hgl b] at h; cases h)⟩

theorem calls_of (hgl : ∀ b, Env.gl b = none) {P : Program} {call : CallA} (hcall : CallSound P call) {f : FuncId} {args : List AV} {v : AV} (h : (call H0 f args).map (·.1) = some v) {args' : List Value} (ha : VRs noMap args args') (w : World) :
    Calls P f args'.toArray w fun e w' => ∃ ι', EndsAs ι' v e ∧ Below w.heap.size w w' := by
  cases e : call H0 f args with
  | none => rw [e] at h; cases h
  | some r =>
    obtain ⟨u, H'⟩ := r
    rw [e] at h; cases h
    refine ((hcall H0 f args u H' e).2 noMap w args' (wr0 hgl w) ha).mono ?_
    rintro e' w' ⟨ι', h2, h3⟩
    exact ⟨ι', h2, ⟨h3.os, h3.tape, h3.output, h3.size, fun c hc => h3.frame c hc (fun b l o hb => (by cases hb))⟩⟩

/-- the constants of the program are what a context says of it -/
theorem ctx_ok {P : Program} (hm : P.follows .mixedOrders = true) (hn : ∀ (f : Nat) (x : Func), P.funcs[f]? = some x → x.name ≠ "runtime.NumGoroutine") : (Ctx.of P).Ok P := by
  refine ⟨fun t i h => ?_, fun f x h => h, hn, hm, fun _ _ _ _ h => (by cases h), fun t i v h hv => ?_, fun _ _ h => (by cases h)⟩
  simp only [Ctx.of] at h
  split at h
  · rename_i j d e1 e2
    cases h
    refine ⟨e2, j, e1, rfl, rfl, fun zs hz => ?_⟩
    cases ez : j.zero with
    | none => rw [ez] at hz; cases hz
    | some z => rw [ez] at hz; exact ⟨z, rfl, fun ι => ofCells_sound hz ι⟩
  · cases h
  · simp only [Ctx.of] at h
    split at h
    · rename_i j d e1 e2
      cases h
      simp only at hv
      cases ez : j.zero with
      | none => rw [ez] at hv; cases hv
      | some z => rw [ez] at hv; exact ⟨j, z, e1, ez, fun ι => ofValue_sound hv ι⟩
    · cases h

/-- facts on comparisons of numbers that are not known -/
structure Fact where
  o : BinOp
  a : Exp
  b : Exp
  r : Bool
def Fact.holds (f : Fact) : Prop := cmpVal f.o f.a.eval f.b.eval = f.r
def factOf : List Fact → BinOp → Exp → Exp → Option Bool
  | [], _, _, _ => none
  | f :: fs, o, a, b => cond (f.o == o && f.a.beq a && f.b.beq b) (some f.r) (factOf fs o a b)
theorem factOf_sound : ∀ {fs : List Fact}, (∀ f ∈ fs, f.holds) → ∀ o a b r, factOf fs o a b = some r → cmpVal o a.eval b.eval = r
  | [], _, _, _, _, _, h => by cases h
  | f :: fs, hf, o, a, b, r, h => by
    simp only [factOf] at h
    cases e : (f.o == o && f.a.beq a && f.b.beq b) with
    | true =>
      rw [e] at h; cases h
      simp only [Bool.and_eq_true, beq_iff_eq] at e
      have := hf f (by simp)
      unfold Fact.holds at this
      rw [← e.1.1, ← Exp.beq_sound e.1.2, ← Exp.beq_sound e.2]; exact this
    | false =>
      rw [e] at h
      exact factOf_sound (fun g hg => hf g (by simp [hg])) o a b r h
def Ctx.withFacts (C : Ctx) (fs : List Fact) : Ctx := { C with orc := factOf fs }
theorem Ctx.Ok.withFacts {C : Ctx} {P : Program} (h : C.Ok P) {fs : List Fact} (hf : ∀ f ∈ fs, f.holds) : (C.withFacts fs).Ok P :=
  ⟨h.ty, h.fn, h.name, h.mixed, factOf_sound hf, h.zv, h.fix⟩
end
end Go.Ev
