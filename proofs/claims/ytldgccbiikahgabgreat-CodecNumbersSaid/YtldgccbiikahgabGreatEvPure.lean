import Derived.Test.YtldgccbiikahgabGreatEvMake
import GoSem.Dispatch
namespace Go.Ev
open Go Go.RowKit
variable [Env]

section
variable {C : Ctx} {P : Program} (hC : C.Ok P) {ι : Map} {H : Heap} {w : World}

theorem intArith_sound {op : BinOp} {k : IntKind} {x y : Int} {v : AV} (ho : op ≠ .shl) (ho' : op ≠ .shr) (t : TypeId) (h : intArithA op k x y = some v) :
    ∃ v', (binOp op t (.int k x) (.int k y)).run P w = .ok v' w ∧ VR ι v v' := by
  cases op <;> simp only [intArithA] at h <;> first
    | exact absurd rfl ho
    | exact absurd rfl ho'
    | (cases h; simp only [VR]; exact ⟨_, by simp [binOp, Op.intArith, Op.intBits, Op.intCmp], rfl⟩)
    | (split at h
       · cases h
       · rename_i hy; cases h; simp only [VR]; exact ⟨_, by simp [binOp, Op.intDiv, hy], rfl⟩)
theorem shift_sound {op : BinOp} {k k' : IntKind} {x y : Int} {v : AV} (t : TypeId) (h : shiftA op k x y = some v) :
    ∃ v', (binOp op t (.int k x) (.int k' y)).run P w = .ok v' w ∧ VR ι v v' := by
  cases op <;> simp only [shiftA] at h <;> first
    | (cases h; done)
    | (split at h
       · cases h
       · rename_i hy; cases h; simp only [VR]; exact ⟨_, by simp [binOp, Op.shift, hy], rfl⟩)

omit [Env] in
theorem bytes_toList (s : List UInt8) : (ByteArray.mk ⟨s⟩).toList = s := by rw [ByteArray.toList_eq]
theorem stringOp_sound {op : BinOp} {x y : List UInt8} {v : AV} (t : TypeId) (h : stringOpA op x y = some v) :
    ∃ v', (binOp op t (.string ⟨⟨x⟩⟩) (.string ⟨⟨y⟩⟩)).run P w = .ok v' w ∧ VR ι v v' := by
  cases op <;> simp only [stringOpA] at h <;> first
    | (cases h; done)
    | (cases h; simp only [VR]; exact ⟨_, by simp [binOp, Op.stringOp]; try simp [bytes_toList], rfl⟩)
    | (cases e : Nat.ble (x.length + y.length) 9223372036854775807 with
       | false => rw [e] at h; cases h
       | true =>
         rw [e] at h; cases h
         have hle := Nat.le_of_ble_eq_true e
         simp only [VR]
         refine ⟨_, ?_, rfl⟩
         have hcat : (ByteArray.mk ⟨x⟩) ++ (ByteArray.mk ⟨y⟩) = ByteArray.mk ⟨x ++ y⟩ := by
           apply ByteArray.ext; simp [ByteArray.data_append]
         have hn : ¬ ((((ByteArray.mk ⟨x⟩).size + (ByteArray.mk ⟨y⟩).size : Nat) : Int) > IntKind.i64.max) := by
           have e1 : (ByteArray.mk ⟨x⟩).size = x.length := rfl
           have e2 : (ByteArray.mk ⟨y⟩).size = y.length := rfl
           have e3 : IntKind.i64.max = 9223372036854775807 := by decide
           rw [e1, e2, e3]; omega
         simp only [binOp, Op.stringOp, hn, if_false, hcat, Sem.run_pure])

theorem VR.ptr_inv {ι : Map} {b o : Nat} {v : Value} (h : VR ι (.ptr b o) v) : ∃ a, v = .pointer (some a) := by
  simp only [VR] at h; obtain ⟨l, _, h⟩ := h; exact ⟨_, h⟩
theorem VR.sl_inv {ι : Map} {b o n : Nat} {v : Value} (h : VR ι (.sl b o n) v) : ∃ a c, v = .slice (some a) n c := by
  simp only [VR] at h; obtain ⟨l, c, _, _, _, h⟩ := h; exact ⟨_, _, h⟩
theorem VR.map_inv {ι : Map} {b : Nat} {v : Value} (h : VR ι (.map b) v) : ∃ a, v = .map (some a) := by
  simp only [VR] at h; obtain ⟨l, _, h⟩ := h; exact ⟨_, h⟩
theorem VR.fn_inv {ι : Map} {f : Fn} {a c : List AV} {v : Value} (h : VR ι (.fn f a c) v) : ∃ a' c', v = .func f a' c' := by
  simp only [VR] at h; obtain ⟨a', c', _, _, h⟩ := h; exact ⟨_, _, h⟩
omit [Env] in
theorem cmp_sound {op : BinOp} {k : IntKind} {x y : Int} (t : TypeId) (h : op = .eql ∨ op = .neq ∨ op = .lss ∨ op = .leq ∨ op = .gtr ∨ op = .geq) :
    (binOp op t (.int k x) (.int k y)).run P w = .ok (.bool (cmpVal op x y)) w := by
  rcases h with rfl | rfl | rfl | rfl | rfl | rfl <;> simp [binOp, Op.intCmp, cmpVal]
theorem num_sound {x : AV} {x' : Value} (hx : VR ι x x') {k : IntKind} {e : Exp} (h : numOf x = some (k, e)) : x' = .int k e.eval := by
  cases x <;> simp only [numOf] at h <;> try (cases h; done)
  · cases h; simpa only [VR, Exp.eval] using hx
  · cases h; simpa only [VR] using hx
include hC
theorem symOp_sound {op : BinOp} {k k' : IntKind} {a b : Exp} {v : AV} (t : TypeId) (h : symOp C op k k' a b = some v) :
    ∃ v', (binOp op t (.int k a.eval) (.int k' b.eval)).run P w = .ok v' w ∧ VR ι v v' := by
  cases op <;> simp only [symOp] at h
  case shl =>
    split at h
    · rename_i y
      split at h
      · cases h
      · rename_i hy; cases h; simp only [VR, Exp.eval]; exact ⟨_, by simp [binOp, Op.shift, hy, shVal], rfl⟩
    · cases h
  case shr =>
    split at h
    · rename_i y
      split at h
      · cases h
      · rename_i hy; cases h; simp only [VR, Exp.eval]; exact ⟨_, by simp [binOp, Op.shift, hy, shVal], rfl⟩
    · cases h
  case quo =>
    split at h
    · rename_i hk; subst hk
      split at h
      · rename_i ho
        cases h
        have := hC.orc _ _ _ _ ho
        simp only [cmpVal, Exp.eval, beq_eq_false_iff_ne, ne_eq] at this
        simp only [VR, Exp.eval]; exact ⟨_, by simp [binOp, Op.intDiv, this, opVal], rfl⟩
      · cases h
    · cases h
  case rem =>
    split at h
    · rename_i hk; subst hk
      split at h
      · rename_i ho
        cases h
        have := hC.orc _ _ _ _ ho
        simp only [cmpVal, Exp.eval, beq_eq_false_iff_ne, ne_eq] at this
        simp only [VR, Exp.eval]; exact ⟨_, by simp [binOp, Op.intDiv, this, opVal], rfl⟩
      · cases h
    · cases h
  all_goals (split at h <;> try (cases h; done))
  all_goals (rename_i hk; subst hk)
  all_goals (first
    | (cases h; simp only [VR, Exp.eval]; exact ⟨_, by simp [binOp, Op.intArith, Op.intBits, opVal], rfl⟩)
    | skip)
  all_goals (
    rw [Option.map_eq_some_iff] at h
    obtain ⟨r, hr, rfl⟩ := h
    have := hC.orc _ _ _ _ hr
    simp only [VR]
    refine ⟨_, ?_, rfl⟩
    rw [cmp_sound t (by simp), this])
theorem equal_sound {t : TypeId} {i : TI} (ht : C.ty t = some i) {x y : AV} {x' y' : Value} (hx : VR ι x x') (hy : VR ι y y') {b : Bool} (h : equalA i.desc x y = some b) :
    (Op.equal t x' y').run P w = .ok b w := by
  have hu := run_underlying hC (w := w) ht
  unfold Op.equal Op.maxDepth
  rw [show (10000 : Nat) = 9999 + 1 from rfl]
  generalize 9999 = dd
  cases x <;> cases y <;> simp only [equalA] at h <;> try (cases h; done)
  all_goals (split at h <;> try (cases h; done))
  all_goals (rename_i hd; cases h)
  all_goals (first | (obtain ⟨a1, rfl⟩ := hx.ptr_inv) | (obtain ⟨a1, c1, rfl⟩ := hx.sl_inv) | (obtain ⟨a1, rfl⟩ := hx.map_inv) | (obtain ⟨a1, c1, rfl⟩ := hx.fn_inv) | (simp only [VR] at hx; subst hx))
  all_goals (first | (obtain ⟨a2, rfl⟩ := hy.ptr_inv) | (obtain ⟨a2, c2, rfl⟩ := hy.sl_inv) | (obtain ⟨a2, rfl⟩ := hy.map_inv) | (obtain ⟨a2, c2, rfl⟩ := hy.fn_inv) | (simp only [VR] at hy; subst hy))
  all_goals (rw [hd] at hu; unfold Op.equalIn; simp [hu])

theorem binOp_sound {op : BinOp} {t : TypeId} {x y : AV} {x' y' : Value} (hx : VR ι x x') (hy : VR ι y y') {v : AV} (h : binOpA C op t x y = some v) (ox oy : Operand) :
    ∃ v', (do eqGuard op t ox oy x' y'; binOp op t x' y' : Sem Value).run P w = .ok v' w ∧ VR ι v v' := by
  have key : (eqGuard op t ox oy x' y').run P w = .ok () w ∧ ∃ v', (binOp op t x' y').run P w = .ok v' w ∧ VR ι v v' := by
    unfold binOpA at h
    split at h
    · rename_i k a k' b
      simp only [VR] at hx hy; subst hx hy
      refine ⟨by unfold eqGuard; cases op <;> simp, ?_⟩
      split at h
      · exact shift_sound t h
      · exact shift_sound t h
      · rename_i h1 h2
        split at h
        · rename_i hk; subst hk; exact intArith_sound h1 h2 t h
        · cases h
    · rename_i a b
      simp only [VR] at hx hy; subst hx hy
      exact ⟨by unfold eqGuard; cases op <;> simp, stringOp_sound t h⟩
    · rename_i hno1 hno2
      split at h
      · rename_i k a k' b e1 e2
        rw [num_sound hx e1, num_sound hy e2]
        exact ⟨by unfold eqGuard; cases op <;> simp, symOp_sound hC t h⟩
      · split at h
        · rename_i i ht
          cases e : equalA i.desc x y with
          | none => rw [e] at h; cases h
          | some b =>
            rw [e] at h; cases h
            have he := equal_sound hC (w := w) ht hx hy e
            have hg : (eqGuard .eql t ox oy x' y').run P w = .ok () w ∧ (binOp .eql t x' y').run P w = .ok (.bool b) w := by
              cases x <;> cases y <;> simp only [equalA] at e <;> try (cases e; done)
              all_goals (first | (obtain ⟨a1, rfl⟩ := hx.ptr_inv) | (obtain ⟨a1, c1, rfl⟩ := hx.sl_inv) | (obtain ⟨a1, rfl⟩ := hx.map_inv) | (obtain ⟨a1, c1, rfl⟩ := hx.fn_inv) | (simp only [VR] at hx; subst hx))
              all_goals (first | (obtain ⟨a2, rfl⟩ := hy.ptr_inv) | (obtain ⟨a2, c2, rfl⟩ := hy.sl_inv) | (obtain ⟨a2, rfl⟩ := hy.map_inv) | (obtain ⟨a2, c2, rfl⟩ := hy.fn_inv) | (simp only [VR] at hy; subst hy))
              all_goals (exact ⟨by unfold eqGuard; simp, by simp [binOp, he]⟩)
            exact ⟨hg.1, _, hg.2, by simp only [VR]⟩
        · rename_i i ht
          cases e : equalA i.desc x y with
          | none => rw [e] at h; cases h
          | some b =>
            rw [e] at h; cases h
            have he := equal_sound hC (w := w) ht hx hy e
            have hg : (eqGuard .neq t ox oy x' y').run P w = .ok () w ∧ (binOp .neq t x' y').run P w = .ok (.bool !b) w := by
              cases x <;> cases y <;> simp only [equalA] at e <;> try (cases e; done)
              all_goals (first | (obtain ⟨a1, rfl⟩ := hx.ptr_inv) | (obtain ⟨a1, c1, rfl⟩ := hx.sl_inv) | (obtain ⟨a1, rfl⟩ := hx.map_inv) | (obtain ⟨a1, c1, rfl⟩ := hx.fn_inv) | (simp only [VR] at hx; subst hx))
              all_goals (first | (obtain ⟨a2, rfl⟩ := hy.ptr_inv) | (obtain ⟨a2, c2, rfl⟩ := hy.sl_inv) | (obtain ⟨a2, rfl⟩ := hy.map_inv) | (obtain ⟨a2, c2, rfl⟩ := hy.fn_inv) | (simp only [VR] at hy; subst hy))
              all_goals (exact ⟨by unfold eqGuard; simp, by simp [binOp, he]⟩)
            exact ⟨hg.1, _, hg.2, by simp only [VR]⟩
        · cases h
  obtain ⟨h1, v', h2, h3⟩ := key
  exact ⟨v', by simp [h1, h2], h3⟩
omit hC
theorem unOp_sound {op : UnOp} {x : AV} {x' : Value} (hx : VR ι x x') {v : AV} (h : unOpA op x = some v) : ∃ v', (Op.unary op x').run P w = .ok v' w ∧ VR ι v v' := by
  unfold unOpA at h
  split at h
  · rename_i k n
    simp only [VR] at hx; subst hx; cases h
    simp only [VR]; exact ⟨_, by simp [Op.unary, Op.intArith], rfl⟩
  · rename_i k n
    simp only [VR] at hx; subst hx
    obtain ⟨v', h1, h2⟩ := intArith_sound (P := P) (w := w) (ι := ι) (by simp) (by simp) 0 h
    exact ⟨v', by simpa [Op.unary, binOp] using h1, h2⟩
  · rename_i b
    simp only [VR] at hx; subst hx; cases h
    simp only [VR]; exact ⟨_, by simp [Op.unary], rfl⟩
  · cases h
include hC
theorem convert_sound {src dst : TypeId} {x : AV} {x' : Value} (hx : VR ι x x') {v : AV} (h : convertA C src dst x = some v) : ∃ v', (convert src dst x').run P w = .ok v' w ∧ VR ι v v' := by
  unfold convertA at h
  split at h
  · rename_i i j e1 e2
    have h1 := run_underlying hC (w := w) e1
    have h2 := run_underlying hC (w := w) e2
    split at h
    · rename_i k k' n hd
      simp only [VR] at hx; subst hx
      split at h
      · cases h
      · cases h
      · cases h
      · cases h
        rename_i n1 n2 n3
        rw [hd] at h2
        simp only [VR]
        refine ⟨.int k (k.wrap n), ?_, rfl⟩
        simp only [convert, Sem.run_bind, h1, h2, Result.andThen_ok]
        cases hi : i.desc <;> first | (simp [Conv.intToInt]; done) | (simp_all; done)
    · rename_i k k' n hd
      simp only [VR] at hx; subst hx
      split at h
      · cases h
      · cases h
      · cases h
      · cases h
        rename_i n1 n2 n3
        rw [hd] at h2
        simp only [VR, Exp.eval]
        refine ⟨.int k (k.wrap n.eval), ?_, rfl⟩
        simp only [convert, Sem.run_bind, h1, h2, Result.andThen_ok]
        cases hi : i.desc <;> first | (simp [Conv.intToInt]; done) | (simp_all; done)
    · rename_i s hd
      simp only [VR] at hx; subst hx
      split at h
      · rename_i hi
        cases h
        rw [hd] at h2; rw [hi] at h1
        simp only [VR]
        exact ⟨_, by simp [convert, h1, h2], rfl⟩
      · cases h
    · cases h
  · cases h
theorem len_sound {t : TypeId} {i : TI} (ht : C.ty t = some i) {x : AV} {x' : Value} (hx : VR ι x x') {v : AV} (h : lenA i.desc x = some v) (tys : Array TypeId) (h0 : tys[0]? = some t) (ty : TypeId) (args : Array Value) (ha : args[0]? = some x') :
    ∃ v', (Builtin.len_ tys ty args).run P w = .ok v' w ∧ VR ι v v' := by
  have h1 := run_underlying hC (w := w) ht
  unfold lenA at h
  split at h
  all_goals (try (cases h; done))
  · rename_i s hd
    simp only [VR] at hx; subst hx; cases h; rw [hd] at h1
    simp only [VR]; exact ⟨.int .i64 s.length, by simp [Builtin.len_, h0, ha, h1, goInt]; rfl, rfl⟩
  · rename_i e hd
    simp only [VR] at hx; subst hx; cases h; rw [hd] at h1
    simp only [VR]; exact ⟨_, by simp [Builtin.len_, h0, ha, h1, goInt], rfl⟩
  · rename_i e b o n hd
    simp only [VR] at hx; obtain ⟨l, cap, _, _, _, rfl⟩ := hx; cases h; rw [hd] at h1
    simp only [VR]; exact ⟨_, by simp [Builtin.len_, h0, ha, h1, goInt], rfl⟩
  · rename_i n e hd
    cases h; rw [hd] at h1
    simp only [VR]; exact ⟨_, by simp [Builtin.len_, h0, ha, h1, goInt], rfl⟩
  · rename_i k e hd
    simp only [VR] at hx; subst hx; cases h; rw [hd] at h1
    simp only [VR]; exact ⟨_, by simp [Builtin.len_, h0, ha, h1, goInt], rfl⟩
theorem field_sound {t : TypeId} {f : Nat} {x : AV} {x' : Value} (hx : VR ι x x') {v : AV} (h : fieldA C t f x = some v) : ∃ v', (Instr.field t x' f).run P w = .ok v' w ∧ VR ι v v' := by
  unfold fieldA at h
  split at h
  · rename_i fs si by_ ze zv0 cs e1
    have h1 := run_underlying hC (w := w) e1
    split at h
    · rename_i fd e2
      split at h
      · rename_i j e3
        simp only [VR] at hx
        obtain ⟨cs', hcs, rfl⟩ := hx
        obtain ⟨v', h2, h3⟩ := part_sound hC (w := w) e3 hcs h
        exact ⟨v', by simp [Instr.field, h1, e2, asAgg, h2], h3⟩
      · cases h
    · cases h
  · cases h
theorem fieldAddr_sound {t : TypeId} {f : Nat} {x : AV} {x' : Value} (hx : VR ι x x') {v : AV} (h : fieldAddrA C t f x = some v) : ∃ v', (Instr.fieldAt t x' f).run P w = .ok v' w ∧ VR ι v v' := by
  unfold fieldAddrA at h
  split at h
  · rename_i fs si by_ ze zv0 b o e1
    have h1 := run_underlying hC (w := w) e1
    split at h
    · rename_i fd e2
      split at h
      · rename_i j e3
        simp only [VR] at hx
        obtain ⟨l, hb, rfl⟩ := hx
        cases e4 : Nat.beq j.size 0 with
        | true => rw [e4] at h; cases h
        | false =>
          rw [e4] at h; cases h
          simp only [Tr.nbeq, decide_eq_false_iff_not] at e4
          refine ⟨.pointer (some ⟨l.blk, l.shift + o + fd.offset, none⟩), ?_, VR_ptr l hb rfl (by omega)⟩
          simp [Instr.fieldAt, h1, e2, Instr.sureAddr, fieldPlace, run_sizeOf hC e3, e4, add_addr]
      · cases h
    · cases h
  · cases h
theorem indexAddr_sound {t : TypeId} {x ix : AV} {x' ix' : Value} (hx : VR ι x x') (hi : VR ι ix ix') {v : AV} (h : indexAddrA C t x ix = some v) : ∃ v', (Instr.indexAt t x' ix').run P w = .ok v' w ∧ VR ι v v' := by
  unfold indexAddrA at h
  split at h
  · rename_i i k n e1
    have h1 := run_underlying hC (w := w) e1
    simp only [VR] at hi; subst hi
    split at h
    · rename_i e b o len hd
      split at h
      · rename_i j e2
        split at h
        · rename_i hin
          cases h
          simp only [VR] at hx
          obtain ⟨l, cap, hb, _, _, rfl⟩ := hx
          rw [hd] at h1
          refine ⟨.pointer (some ⟨l.blk, l.shift + o + n.toNat * j.size, none⟩), ?_, VR_ptr l hb rfl (by omega)⟩
          simp [Instr.indexAt, asIntOf, h1, hin, run_sizeOf hC e2, add_addr]
        · cases h
      · cases h
    · rename_i len e b o hd
      split at h
      · rename_i j e2
        split at h
        · rename_i hin
          cases h
          simp only [VR] at hx
          obtain ⟨l, hb, rfl⟩ := hx
          rw [hd] at h1
          refine ⟨.pointer (some ⟨l.blk, l.shift + o + n.toNat * j.size, none⟩), ?_, VR_ptr l hb rfl (by omega)⟩
          simp [Instr.indexAt, asIntOf, h1, hin, run_sizeOf hC e2, add_addr, Instr.sureAddr]
        · cases h
      · cases h
    · cases h
  · cases h
theorem index_sound {t : TypeId} {x ix : AV} {x' ix' : Value} (hx : VR ι x x') (hi : VR ι ix ix') {v : AV} (h : indexA C t x ix = some v) : ∃ v', (Instr.index t x' ix').run P w = .ok v' w ∧ VR ι v v' := by
  unfold indexA at h
  split at h
  · rename_i i k n e1
    have h1 := run_underlying hC (w := w) e1
    simp only [VR] at hi; subst hi
    split at h
    · rename_i len e cs hd
      split at h
      · rename_i j e2
        split at h
        · rename_i hin
          simp only [VR] at hx
          obtain ⟨cs', hcs, rfl⟩ := hx
          rw [hd] at h1
          obtain ⟨v', h2, h3⟩ := part_sound hC (w := w) e2 hcs h
          exact ⟨v', by simp [Instr.index, asIntOf, h1, hin, run_sizeOf hC e2, h2], h3⟩
        · cases h
      · cases h
    · rename_i s hd
      split at h
      · rename_i h0
        split at h
        · rename_i b hb
          cases h
          simp only [VR] at hx; subst hx
          rw [hd] at h1
          simp only [VR]
          refine ⟨.int .u8 b.toNat, ?_, rfl⟩
          have hsz : n.toNat < s.length := (List.getElem?_eq_some_iff.1 hb).1
          have hg : (ByteArray.mk ⟨s⟩)[n.toNat]? = some b := by
            have hz : n.toNat < (ByteArray.mk ⟨s⟩).size := hsz
            rw [getElem?_pos (ByteArray.mk ⟨s⟩) n.toNat hz]
            have := (List.getElem?_eq_some_iff.1 hb).2
            exact congrArg some this
          simp [Instr.index, asIntOf, h1, h0, hg]
        · cases h
      · cases h
    · cases h
  · cases h
end
end Go.Ev
