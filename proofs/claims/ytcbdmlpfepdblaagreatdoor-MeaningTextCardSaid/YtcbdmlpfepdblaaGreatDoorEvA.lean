import Derived.Calls
import Derived.Below
import Derived.LoopN
import Derived.Orders
import Derived.KernelRfl
import Derived.Laws.Sem
import Derived.Laws.IdiomCopy
import Derived.Laws.Cells
import Derived.Laws.Strings
import Derived.Lib.SmallJoins
/-! A deterministic evaluator over an abstract heap: the table of numbered things. -/
namespace Go.Ev
noncomputable section
open Go

/-- a table of things by number -/
inductive Tr (α : Type) : Type where
  | nil : Tr α
  | node (v : Option α) (l r : Tr α) : Tr α

namespace Tr
variable {α : Type}
def getC : Tr α → Nat → Option α
  | .nil, _ => none
  | .node v l r, i => cond (Nat.beq i 0) v (cond (Nat.beq (i % 2) 1) (l.getC (i / 2)) (r.getC (i / 2 - 1)))
noncomputable def getN (v : Option α) (gl gr : Nat → Option α) (i : Nat) : Option α :=
  Bool.rec (Bool.rec (gr (Nat.sub (Nat.div i 2) 1)) (gl (Nat.div i 2)) (Nat.beq (Nat.mod i 2) 1)) v (Nat.beq i 0)
/-- by recursors: so the kernel takes small steps -/
def get (t : Tr α) : Nat → Option α := Tr.rec (fun _ => none) (fun v _ _ gl gr => getN v gl gr) t
theorem get_node (v : Option α) (l r : Tr α) (i : Nat) : (Tr.node v l r).get i = cond (Nat.beq i 0) v (cond (Nat.beq (i % 2) 1) (l.get (i / 2)) (r.get (i / 2 - 1))) := by
  show getN v l.get r.get i = _
  show @Bool.rec (fun _ => Option α) (@Bool.rec (fun _ => Option α) (r.get (i / 2 - 1)) (l.get (i / 2)) (Nat.beq (i % 2) 1)) v (Nat.beq i 0) = _
  cases Nat.beq i 0 <;> cases Nat.beq (i % 2) 1 <;> rfl

def setC : Nat → Tr α → Nat → Option α → Tr α
  | 0, t, _, _ => t
  | f + 1, .nil, i, x => cond (Nat.beq i 0) (.node x .nil .nil) (cond (Nat.beq (i % 2) 1) (.node none (setC f .nil (i / 2) x) .nil) (.node none .nil (setC f .nil (i / 2 - 1) x)))
  | f + 1, .node v l r, i, x => cond (Nat.beq i 0) (.node x l r) (cond (Nat.beq (i % 2) 1) (.node v (setC f l (i / 2) x) r) (.node v l (setC f r (i / 2 - 1) x)))
noncomputable def setNil (x : Option α) (ih : Tr α → Nat → Tr α) (i : Nat) : Tr α :=
  Bool.rec (Bool.rec (.node none .nil (ih .nil (Nat.sub (Nat.div i 2) 1))) (.node none (ih .nil (Nat.div i 2)) .nil) (Nat.beq (Nat.mod i 2) 1)) (.node x .nil .nil) (Nat.beq i 0)
noncomputable def setNode (x : Option α) (ih : Tr α → Nat → Tr α) (i : Nat) (v : Option α) (l r : Tr α) : Tr α :=
  Bool.rec (Bool.rec (.node v l (ih r (Nat.sub (Nat.div i 2) 1))) (.node v (ih l (Nat.div i 2)) r) (Nat.beq (Nat.mod i 2) 1)) (.node x l r) (Nat.beq i 0)
def setF (f : Nat) (t : Tr α) (i : Nat) (x : Option α) : Tr α :=
  Nat.rec (fun t _ => t) (fun _ ih t i => Tr.rec (setNil x ih i) (fun v l r _ _ => setNode x ih i v l r) t) f t i
theorem setF_nil (f i : Nat) (x : Option α) : setF (f + 1) .nil i x = cond (Nat.beq i 0) (.node x .nil .nil) (cond (Nat.beq (i % 2) 1) (.node none (setF f .nil (i / 2) x) .nil) (.node none .nil (setF f .nil (i / 2 - 1) x))) := by
  show setNil x (fun t i => setF f t i x) i = _
  show @Bool.rec (fun _ => Tr α) (@Bool.rec (fun _ => Tr α) (Tr.node none .nil (setF f .nil (i / 2 - 1) x)) (Tr.node none (setF f .nil (i / 2) x) .nil) (Nat.beq (i % 2) 1)) (Tr.node x .nil .nil) (Nat.beq i 0) = _
  cases Nat.beq i 0 <;> cases Nat.beq (i % 2) 1 <;> rfl
theorem setF_node (f i : Nat) (x v : Option α) (l r : Tr α) : setF (f + 1) (.node v l r) i x = cond (Nat.beq i 0) (.node x l r) (cond (Nat.beq (i % 2) 1) (.node v (setF f l (i / 2) x) r) (.node v l (setF f r (i / 2 - 1) x))) := by
  show setNode x (fun t i => setF f t i x) i v l r = _
  show @Bool.rec (fun _ => Tr α) (@Bool.rec (fun _ => Tr α) (Tr.node v l (setF f r (i / 2 - 1) x)) (Tr.node v (setF f l (i / 2) x) r) (Nat.beq (i % 2) 1)) (Tr.node x l r) (Nat.beq i 0) = _
  cases Nat.beq i 0 <;> cases Nat.beq (i % 2) 1 <;> rfl
def setO (t : Tr α) (i : Nat) (x : Option α) : Tr α := setF (i + 1) t i x
def set (t : Tr α) (i : Nat) (x : α) : Tr α := setF (i + 1) t i (some x)

theorem nbeq (a b : Nat) : Nat.beq a b = decide (a = b) := by
  cases h : Nat.beq a b
  · have := Nat.ne_of_beq_eq_false h; simp [this]
  · have := Nat.eq_of_beq_eq_true h; simp [this]

theorem get_nil (i : Nat) : (Tr.nil : Tr α).get i = none := rfl

theorem get_setF (f : Nat) : ∀ (t : Tr α) (i : Nat) (x : Option α) (j : Nat), i < f → (setF f t i x).get j = if j = i then x else t.get j := by
  induction f with
  | zero => intro t i x j h; omega
  | succ f ih =>
    intro t i x j h
    cases t with
    | nil =>
      simp only [setF_nil, nbeq]
      by_cases h0 : i = 0
      · subst h0
        simp only [decide_true, cond_true, get_node, get_nil, nbeq]
        by_cases hj : j = 0
        · simp [hj]
        · simp [hj]
      · simp only [h0, decide_false, cond_false]
        by_cases h1 : i % 2 = 1
        · simp only [h1, decide_true, cond_true, get_node, get_nil, nbeq]
          by_cases hj : j = 0
          · subst hj; rw [if_neg (by omega)]; rfl
          · simp only [hj, decide_false, cond_false]
            by_cases hj1 : j % 2 = 1
            · simp only [hj1, decide_true, cond_true]
              rw [ih _ _ _ _ (by omega)]
              by_cases e : j = i
              · subst e; simp
              · rw [if_neg (by omega), if_neg e]; rfl
            · simp only [hj1, decide_false, cond_false]; rw [if_neg (by omega)]
        · simp only [h1, decide_false, cond_false, get_node, get_nil, nbeq]
          by_cases hj : j = 0
          · subst hj; rw [if_neg (by omega)]; rfl
          · simp only [hj, decide_false, cond_false]
            by_cases hj1 : j % 2 = 1
            · simp only [hj1, decide_true, cond_true]; rw [if_neg (by omega)]
            · simp only [hj1, decide_false, cond_false]
              rw [ih _ _ _ _ (by omega)]
              by_cases e : j = i
              · subst e; simp
              · rw [if_neg (by omega), if_neg e]; rfl
    | node v l r =>
      simp only [setF_node, nbeq]
      by_cases h0 : i = 0
      · subst h0
        simp only [decide_true, cond_true, get_node, nbeq]
        by_cases hj : j = 0
        · simp [hj]
        · simp [hj]
      · simp only [h0, decide_false, cond_false]
        by_cases h1 : i % 2 = 1
        · simp only [h1, decide_true, cond_true, get_node, nbeq]
          by_cases hj : j = 0
          · subst hj; rw [if_neg (by omega)]; rfl
          · simp only [hj, decide_false, cond_false]
            by_cases hj1 : j % 2 = 1
            · simp only [hj1, decide_true, cond_true]
              rw [ih _ _ _ _ (by omega)]
              by_cases e : j = i
              · subst e; simp
              · rw [if_neg (by omega), if_neg e]
            · simp only [hj1, decide_false, cond_false]; rw [if_neg (by omega)]
        · simp only [h1, decide_false, cond_false, get_node, nbeq]
          by_cases hj : j = 0
          · subst hj; rw [if_neg (by omega)]; rfl
          · simp only [hj, decide_false, cond_false]
            by_cases hj1 : j % 2 = 1
            · simp only [hj1, decide_true, cond_true]; rw [if_neg (by omega)]
            · simp only [hj1, decide_false, cond_false]
              rw [ih _ _ _ _ (by omega)]
              by_cases e : j = i
              · subst e; simp
              · rw [if_neg (by omega), if_neg e]

theorem get_set (t : Tr α) (i : Nat) (x : α) (j : Nat) : (t.set i x).get j = if j = i then some x else t.get j :=
  get_setF _ t i (some x) j (by omega)
theorem get_setO (t : Tr α) (i : Nat) (x : Option α) (j : Nat) : (t.setO i x).get j = if j = i then x else t.get j :=
  get_setF _ t i x j (by omega)
theorem get_set_self (t : Tr α) (i : Nat) (x : α) : (t.set i x).get i = some x := by rw [get_set, if_pos rfl]
theorem get_set_ne (t : Tr α) {i j : Nat} (x : α) (h : j ≠ i) : (t.set i x).get j = t.get j := by rw [get_set, if_neg h]
end Tr


/-- where an abstract block lies -/
structure Loc where
  blk : Nat
  shift : Nat
  room : Nat
  es : Nat

/-- the numbers that are not known, by their numbers, and the blocks whose place is known -/
class Env where
  rho : Nat → Int
  gl : Nat → Option Loc := fun _ => none
/-- whole numbers as expressions of those -/
inductive Exp : Type where
  | var (i : Nat)
  | lit (n : Int)
  | op (o : BinOp) (k : IntKind) (a b : Exp)
  | sh (o : BinOp) (k : IntKind) (a : Exp) (n : Nat)
  | conv (k : IntKind) (a : Exp)
def opVal (o : BinOp) (k : IntKind) (x y : Int) : Int :=
  match o with
  | .add => k.wrap (x + y)
  | .sub => k.wrap (x - y)
  | .mul => k.wrap (x * y)
  | .quo => k.wrap (x.tdiv y)
  | .rem => x.tmod y
  | .and => k.wrap (BitVec.ofInt k.bits x &&& BitVec.ofInt k.bits y).toNat
  | .or => k.wrap (BitVec.ofInt k.bits x ||| BitVec.ofInt k.bits y).toNat
  | .xor => k.wrap (BitVec.ofInt k.bits x ^^^ BitVec.ofInt k.bits y).toNat
  | .andNot => k.wrap (BitVec.ofInt k.bits x &&& ~~~BitVec.ofInt k.bits y).toNat
  | _ => 0
def shVal (o : BinOp) (k : IntKind) (x : Int) (n : Nat) : Int :=
  match o with
  | .shl => k.wrap (x * 2 ^ min n k.bits)
  | _ => x.fdiv (2 ^ min n k.bits)
def cmpVal (o : BinOp) (x y : Int) : Bool :=
  match o with
  | .eql => x == y
  | .neq => x != y
  | .lss => x < y
  | .leq => x ≤ y
  | .gtr => x > y
  | .geq => x ≥ y
  | _ => false
def Exp.beq : Exp → Exp → Bool
  | .var i, .var j => Nat.beq i j
  | .lit n, .lit m => n == m
  | .op o k a b, .op o' k' a' b' => o == o' && k == k' && a.beq a' && b.beq b'
  | .sh o k a n, .sh o' k' a' n' => o == o' && k == k' && a.beq a' && Nat.beq n n'
  | .conv k a, .conv k' a' => k == k' && a.beq a'
  | _, _ => false
theorem Exp.beq_sound : ∀ {a b : Exp}, a.beq b = true → a = b
  | .var i, .var j, h => by simp only [Exp.beq] at h; rw [Nat.eq_of_beq_eq_true h]
  | .lit n, .lit m, h => by simp only [Exp.beq, beq_iff_eq] at h; rw [h]
  | .op o k a b, .op o' k' a' b', h => by
    simp only [Exp.beq, Bool.and_eq_true, beq_iff_eq] at h
    rw [h.1.1.1, h.1.1.2, Exp.beq_sound h.1.2, Exp.beq_sound h.2]
  | .sh o k a n, .sh o' k' a' n', h => by
    simp only [Exp.beq, Bool.and_eq_true, beq_iff_eq] at h
    rw [h.1.1.1, h.1.1.2, Exp.beq_sound h.1.2, Nat.eq_of_beq_eq_true h.2]
  | .conv k a, .conv k' a', h => by
    simp only [Exp.beq, Bool.and_eq_true, beq_iff_eq] at h
    rw [h.1, Exp.beq_sound h.2]
  | .var _, .lit _, h | .var _, .op .., h | .var _, .sh .., h | .var _, .conv .., h => by simp [Exp.beq] at h
  | .lit _, .var _, h | .lit _, .op .., h | .lit _, .sh .., h | .lit _, .conv .., h => by simp [Exp.beq] at h
  | .op .., .var _, h | .op .., .lit _, h | .op .., .sh .., h | .op .., .conv .., h => by simp [Exp.beq] at h
  | .sh .., .var _, h | .sh .., .lit _, h | .sh .., .op .., h | .sh .., .conv .., h => by simp [Exp.beq] at h
  | .conv .., .var _, h | .conv .., .lit _, h | .conv .., .op .., h | .conv .., .sh .., h => by simp [Exp.beq] at h
/-- sums with known numbers, put together -/
def Exp.addL (k : IntKind) (n : Int) : Exp → Exp
  | .op .add k' a (.lit m) => cond (k' == k) (.op .add k a (.lit (m + n))) (.op .add k (.op .add k' a (.lit m)) (.lit n))
  | a => .op .add k a (.lit n)
def Exp.subL (k : IntKind) (n : Int) : Exp → Exp
  | .op .sub k' a (.lit m) => cond (k' == k) (.op .sub k a (.lit (m + n))) (.op .sub k (.op .sub k' a (.lit m)) (.lit n))
  | a => .op .sub k a (.lit n)
/-- an operation, worked out where it can be -/
def Exp.mk (o : BinOp) (k : IntKind) : Exp → Exp → Exp
  | .lit x, .lit y => .lit (opVal o k x y)
  | a, .lit n => (match o with | .add => a.addL k n | .sub => a.subL k n | o => .op o k a (.lit n))
  | a, b => .op o k a b
def Exp.mkConv (k : IntKind) : Exp → Exp
  | .lit n => .lit (k.wrap n)
  | e => .conv k e
def Exp.eval [E : Env] : Exp → Int
  | .var i => E.rho i
  | .lit n => n
  | .op o k a b => opVal o k a.eval b.eval
  | .sh o k a n => shVal o k a.eval n
  | .conv k a => k.wrap a.eval

theorem wrap_wrap_add (k : IntKind) (a n : Int) : k.wrap (k.wrap a + n) = k.wrap (a + n) := by
  cases k <;> simp only [IntKind.wrap, IntKind.bits, IntKind.signed] <;> simp <;> omega
theorem Exp.eval_addL [E : Env] (k : IntKind) (n : Int) (a : Exp) : (a.addL k n).eval = opVal .add k a.eval n := by
  unfold Exp.addL
  split
  · rename_i k' a m
    cases h : k' == k with
    | false => simp only [cond_false, Exp.eval]
    | true =>
      rw [beq_iff_eq] at h; subst h
      simp only [cond_true, Exp.eval, opVal]
      rw [wrap_wrap_add]; congr 1; omega
  · simp only [Exp.eval]
theorem Exp.eval_subL [E : Env] (k : IntKind) (n : Int) (a : Exp) : (a.subL k n).eval = opVal .sub k a.eval n := by
  unfold Exp.subL
  split
  · rename_i k' a m
    cases h : k' == k with
    | false => simp only [cond_false, Exp.eval]
    | true =>
      rw [beq_iff_eq] at h; subst h
      simp only [cond_true, Exp.eval, opVal]
      rw [Int.sub_eq_add_neg (a := k'.wrap _) (b := n), wrap_wrap_add]; congr 1; omega
  · simp only [Exp.eval]
theorem Exp.eval_mk [E : Env] (o : BinOp) (k : IntKind) (a b : Exp) : (Exp.mk o k a b).eval = opVal o k a.eval b.eval := by
  unfold Exp.mk
  split
  · simp only [Exp.eval]
  · split
    · rw [Exp.eval_addL]; simp only [Exp.eval]
    · rw [Exp.eval_subL]; simp only [Exp.eval]
    · simp only [Exp.eval]
  · simp only [Exp.eval]
theorem Exp.eval_mkConv [E : Env] (k : IntKind) (a : Exp) : (Exp.mkConv k a).eval = k.wrap a.eval := by
  unfold Exp.mkConv; split <;> simp only [Exp.eval]
/-- a byte of a string -/
def Exp.byte [E : Env] (e : Exp) : UInt8 := UInt8.ofNat (IntKind.u8.wrap e.eval).toNat
/-- Values of the abstract machine: blocks by their numbers in an abstract heap. -/
inductive AV : Type where
  | bool (b : Bool)
  | int (k : IntKind) (n : Int)
  | sx (k : IntKind) (e : Exp)
  | str (s : List UInt8)
  /-- a string of bytes that are not all known -/
  | sxs (l : List Exp)
  | ptr0
  | ptr (b o : Nat)
  | sl0
  | sl (b o n : Nat)
  | map0
  | map (b : Nat)
  | fn (f : Fn) (first captured : List AV)
  | nilfn
  | iface (t : TypeId) (v : AV)
  | nilif
  | agg (cs : List AV)
  | tup (vs : List AV)
  /-- some value of one cell -/
  | any
  /-- true or false -/
  | anyb
  /-- no value: a panic of this value -/
  | pan (v : AV)
  /-- the function that a loop over a function hands it -/
  | yld (b : Nat)
instance : Inhabited AV := ⟨.ptr0⟩

abbrev Map := Nat → Option Loc
variable [Env]

mutual
def VR (ι : Map) : AV → Value → Prop
  | .bool b, v => v = .bool b
  | .int k n, v => v = .int k n
  | .sx k e, v => v = .int k e.eval
  | .str s, v => v = .string ⟨⟨s⟩⟩
  | .sxs l, v => v = .string ⟨⟨l.map Exp.byte⟩⟩
  | .ptr0, v => v = .pointer none
  | .ptr b o, v => ∃ l, ι b = some l ∧ v = .pointer (some ⟨l.blk, l.shift + o, none⟩)
  | .sl0, v => v = .slice none 0 0
  | .sl b o n, v => ∃ l cap, ι b = some l ∧ n ≤ cap ∧ l.shift + o + cap * l.es ≤ l.room ∧ v = .slice (some ⟨l.blk, l.shift + o, none⟩) n cap
  | .map0, v => v = .map none
  | .map b, v => ∃ l, ι b = some l ∧ v = .map (some l.blk)
  | .fn f a c, v => ∃ a' c', VRs ι a a' ∧ VRs ι c c' ∧ v = .func f a'.toArray c'.toArray
  | .nilfn, v => v = .nilFunc
  | .iface t x, v => ∃ x', VR ι x x' ∧ v = .iface t x'
  | .nilif, v => v = .nilIface
  | .agg cs, v => ∃ cs', VRs ι cs cs' ∧ v = .agg cs'.toArray
  | .tup vs, v => ∃ vs', VRs ι vs vs' ∧ v = .tuple vs'.toArray
  | .any, v => v.oneCell' = true
  | .anyb, v => ∃ b, v = .bool b
  | .pan _, _ => False
  | .yld b, v => ∃ l, ι b = some l ∧ v = .func (.yield l.blk) #[] #[]
def VRs (ι : Map) : List AV → List Value → Prop
  | [], l => l = []
  | x :: xs, l => ∃ y ys, VR ι x y ∧ VRs ι xs ys ∧ l = y :: ys
end

def Ext (ι ι' : Map) : Prop := ∀ b l, ι b = some l → ι' b = some l
omit [Env] in
theorem Ext.refl (ι : Map) : Ext ι ι := fun _ _ h => h
omit [Env] in
theorem Ext.trans {a b c : Map} (h : Ext a b) (k : Ext b c) : Ext a c := fun x l e => k x l (h x l e)

mutual
theorem VR.ext {ι ι' : Map} (h : Ext ι ι') : ∀ {x : AV} {v : Value}, VR ι x v → VR ι' x v
  | .bool b, v, r => by simpa only [VR] using r
  | .int k n, v, r => by simpa only [VR] using r
  | .sx k e, v, r => by simpa only [VR] using r
  | .str s, v, r => by simpa only [VR] using r
  | .sxs l, v, r => by simpa only [VR] using r
  | .ptr0, v, r => by simpa only [VR] using r
  | .ptr b o, v, r => by simp only [VR] at r ⊢; obtain ⟨l, e, r⟩ := r; exact ⟨l, h _ _ e, r⟩
  | .sl0, v, r => by simpa only [VR] using r
  | .sl b o n, v, r => by simp only [VR] at r ⊢; obtain ⟨l, cap, e, r⟩ := r; exact ⟨l, cap, h _ _ e, r⟩
  | .map0, v, r => by simpa only [VR] using r
  | .map b, v, r => by simp only [VR] at r ⊢; obtain ⟨l, e, r⟩ := r; exact ⟨l, h _ _ e, r⟩
  | .fn f a c, v, r => by simp only [VR] at r ⊢; obtain ⟨a', c', ha, hc, r⟩ := r; exact ⟨a', c', VRs.ext h ha, VRs.ext h hc, r⟩
  | .nilfn, v, r => by simpa only [VR] using r
  | .iface t x, v, r => by simp only [VR] at r ⊢; obtain ⟨x', hx, r⟩ := r; exact ⟨x', VR.ext h hx, r⟩
  | .nilif, v, r => by simpa only [VR] using r
  | .agg cs, v, r => by simp only [VR] at r ⊢; obtain ⟨cs', hx, r⟩ := r; exact ⟨cs', VRs.ext h hx, r⟩
  | .tup cs, v, r => by simp only [VR] at r ⊢; obtain ⟨cs', hx, r⟩ := r; exact ⟨cs', VRs.ext h hx, r⟩
  | .any, v, r => by simpa only [VR] using r
  | .anyb, v, r => by simpa only [VR] using r
  | .pan _, v, r => by simp only [VR] at r
  | .yld b, v, r => by simp only [VR] at r ⊢; obtain ⟨l, e, r⟩ := r; exact ⟨l, h _ _ e, r⟩
theorem VRs.ext {ι ι' : Map} (h : Ext ι ι') : ∀ {xs : List AV} {vs : List Value}, VRs ι xs vs → VRs ι' xs vs
  | [], vs, r => by simpa only [VRs] using r
  | x :: xs, vs, r => by simp only [VRs] at r ⊢; obtain ⟨y, ys, hy, hys, r⟩ := r; exact ⟨y, ys, VR.ext h hy, VRs.ext h hys, r⟩
end

theorem VRs.len {ι : Map} : ∀ {xs : List AV} {vs : List Value}, VRs ι xs vs → vs.length = xs.length
  | [], vs, r => by simp only [VRs] at r; subst r; rfl
  | x :: xs, vs, r => by simp only [VRs] at r; obtain ⟨y, ys, _, h, rfl⟩ := r; simp [VRs.len h]
theorem VRs.get {ι : Map} : ∀ {xs : List AV} {vs : List Value} {i : Nat} {x : AV}, VRs ι xs vs → xs[i]? = some x → ∃ v, vs[i]? = some v ∧ VR ι x v
  | [], vs, i, x, r, h => by simp at h
  | y :: ys, vs, i, x, r, h => by
    simp only [VRs] at r; obtain ⟨v, ws, hv, hw, rfl⟩ := r
    cases i with
    | zero => simp at h; subst h; exact ⟨v, rfl, hv⟩
    | succ i => simp at h; exact VRs.get (i := i) hw h
theorem VRs.append {ι : Map} : ∀ {xs ys : List AV} {vs ws : List Value}, VRs ι xs vs → VRs ι ys ws → VRs ι (xs ++ ys) (vs ++ ws)
  | [], ys, vs, ws, r, h => by simp only [VRs] at r; subst r; exact h
  | x :: xs, ys, vs, ws, r, h => by
    simp only [VRs] at r; obtain ⟨v, vs', hv, hw, rfl⟩ := r
    simp only [List.cons_append, VRs]; exact ⟨v, _, hv, VRs.append hw h, rfl⟩
theorem VRs.of_get {ι : Map} : ∀ {xs : List AV} {vs : List Value}, vs.length = xs.length → (∀ (i : Nat) (x : AV) (v : Value), xs[i]? = some x → vs[i]? = some v → VR ι x v) → VRs ι xs vs
  | [], vs, hl, h => by simp only [VRs]; exact List.eq_nil_of_length_eq_zero (by simpa using hl)
  | x :: xs, [], hl, h => by simp at hl
  | x :: xs, v :: vs, hl, h => by
    simp only [VRs]
    exact ⟨v, vs, h 0 x v rfl rfl, VRs.of_get (by simpa using hl) (fun i y u hy hu => h (i + 1) y u (by simpa using hy) (by simpa using hu)), rfl⟩
theorem VRs.take {ι : Map} {xs : List AV} {vs : List Value} (h : VRs ι xs vs) (n : Nat) : VRs ι (xs.take n) (vs.take n) :=
  VRs.of_get (by simp [h.len]) fun i x v hx hv => by
    have hi : i < n := by
      rcases Nat.lt_or_ge i n with h' | h'
      · exact h'
      · simp [List.getElem?_take, Nat.not_lt.2 h'] at hx
    simp only [List.getElem?_take, hi, if_true] at hx hv
    obtain ⟨u, hu, r⟩ := h.get hx
    rw [hv] at hu; cases hu; exact r
theorem VRs.drop {ι : Map} {xs : List AV} {vs : List Value} (h : VRs ι xs vs) (n : Nat) : VRs ι (xs.drop n) (vs.drop n) :=
  VRs.of_get (by simp [h.len]) fun i x v hx hv => by
    simp only [List.getElem?_drop] at hx hv
    obtain ⟨u, hu, r⟩ := h.get hx
    rw [hv] at hu; cases hu; exact r
end
end Go.Ev
namespace Go.Ev
noncomputable section
open Go

def undefA : AV := .tup []

def AV.cells : AV → List AV
  | .agg cs => cs
  | v => [v]

/-- the constants: no addresses in them -/
def ofCell : Value → Option AV
  | .bool b => some (.bool b)
  | .int k n => some (.int k n)
  | .string s => some (.str s.data.toList)
  | .pointer none => some .ptr0
  | .slice none 0 0 => some .sl0
  | .map none => some .map0
  | .nilFunc => some .nilfn
  | .nilIface => some .nilif
  | _ => none
def ofCells : List Value → Option (List AV)
  | [] => some []
  | v :: vs => match ofCell v, ofCells vs with
    | some x, some xs => some (x :: xs)
    | _, _ => none
def ofValue : Value → Option AV
  | .agg cs => (ofCells cs.toList).map .agg
  | .tuple vs => (ofCells vs.toList).map .tup
  | .func (.func f) first captured => cond (first.toList.isEmpty && captured.toList.isEmpty) (some (.fn (.func f) [] [])) none
  | v => ofCell v

/-- a loop over a function: what its frame held when it began -/
structure LoopA where
  T : Tr AV
  N : Nat
  ps : List Nat
  assign : Code
  body : Code
inductive LState where | ready | busy | dead
/-- free: nobody else's · tip: from a place on nobody else's · old: something has been appended behind it · map: keys and values by turns · loop: the record of a loop over a function -/
inductive Kind where | free | tip (own : Nat) | old | map | loop (st : LState) (L : LoopA)
def Kind.isFree : Kind → Bool | .free | .map | .loop _ _ => true | _ => false
def Kind.isOld : Kind → Bool | .old => true | _ => false
/-- no cells -/
def Kind.isMap : Kind → Bool | .map | .loop _ _ => true | _ => false
def Kind.isLoop : Kind → Bool | .loop _ _ => true | _ => false
def Kind.isTab : Kind → Bool | .map => true | _ => false
def Kind.own : Kind → Nat | .tip n => n | _ => 0
/-- may the cells from a place on be written -/
def Kind.lets (k : Kind) (o : Nat) : Bool := match k with | .free => true | .tip n => Nat.ble n o | _ => false

structure Obj where
  cs : List AV
  es : Nat
  kind : Kind

structure Heap where
  tr : Tr Obj
  next : Nat
  log : List Nat
def Heap.get (H : Heap) (b : Nat) : Option Obj := H.tr.get b
/-- a block of cells -/
def Heap.cells (H : Heap) (b : Nat) : Option Obj := match H.get b with | some o => cond o.kind.isMap none (some o) | none => none
def Heap.put (H : Heap) (b : Nat) (o : Obj) : Heap := { H with tr := H.tr.set b o }
/-- a block that is written: the log tells it -/
def Heap.write (H : Heap) (b : Nat) (o : Obj) : Heap := { H with tr := H.tr.set b o, log := b :: H.log }
/-- a new block at a number that is still free -/
def Heap.add (H : Heap) (b : Nat) (o : Obj) : Option Heap := match H.get b with | none => some (H.put b o) | some _ => none

structure TI where
  desc : TypeDesc
  size : Nat
  bytes : Nat
  zero : Option (List AV)
  zval : Option AV
def TI.isAgg (i : TI) : Bool := match i.desc with | .struct _ | .array _ _ => true | _ => false

structure Ctx where
  ty : TypeId → Option TI
  fn : FuncId → Option Func
  orc : BinOp → Exp → Exp → Option Bool
  /-- may code range over functions -/
  loops : Bool
  /-- what a remainder is known to be -/
  fix : Exp → Option Int

structure Ctx.Ok [Env] (C : Ctx) (P : Program) : Prop where
  ty : ∀ t i, C.ty t = some i → P.underlying t = some i.desc ∧ ∃ j, P.info? t = some j ∧ j.size = i.size ∧ j.bytes = i.bytes ∧ (∀ zs, i.zero = some zs → ∃ z, j.zero = some z ∧ ∀ ι, VRs ι zs z.cells.toList)
  fn : ∀ f x, C.fn f = some x → P.funcs[f]? = some x
  name : ∀ f x, C.fn f = some x → x.name ≠ "runtime.NumGoroutine"
  mixed : P.follows .mixedOrders = true
  orc : ∀ o a b r, C.orc o a b = some r → cmpVal o a.eval b.eval = r
  zv : ∀ t i v, C.ty t = some i → i.zval = some v → ∃ j z, P.info? t = some j ∧ j.zero = some z ∧ ∀ ι, VR ι v z
  fix : ∀ e n, C.fix e = some n → e.eval = n

def Ctx.of (P : Program) : Ctx where
  ty t := match P.info? t, P.underlying t with
    | some j, some d => some { desc := d, size := j.size, bytes := j.bytes, zero := j.zero.bind fun z => ofCells z.cells.toList, zval := j.zero.bind ofValue }
    | _, _ => none
  fn f := P.funcs[f]?
  orc _ _ _ := none
  loops := true
  fix _ := none

structure St where
  T : Tr AV
  N : Nat
  H : Heap
/-- the parts of a state, each once (the kernel would walk 's.N' anew) -/
def St.cut {α : Type} (s : St) (k : Tr AV → Nat → Heap → α) : α := match s with | ⟨T, N, H⟩ => k T N H
theorem St.cut_eq {α : Type} (s : St) (k : Tr AV → Nat → Heap → α) : s.cut k = k s.T s.N s.H := rfl
theorem St.eta (s : St) : (⟨s.T, s.N, s.H⟩ : St) = s := rfl
def putA (T : Tr AV) (N : Nat) (H : Heap) (dst : Option Tmp) (v : AV) : Option St :=
  match dst with
  | none => some ⟨T, N, H⟩
  | some d => cond (Nat.blt d N) (some ⟨T.set d v, N, H⟩) none
def St.put (s : St) (dst : Option Tmp) (v : AV) : Option St := s.cut fun T N H => putA T N H dst v
theorem putA_eq (T : Tr AV) (N : Nat) (H : Heap) (dst : Option Tmp) (v : AV) : putA T N H dst v = (⟨T, N, H⟩ : St).put dst v := rfl

def ev (T : Tr AV) : Operand → Option AV
  | .tmp t => T.get t
  | .const v => ofValue v
  | .global _ => none
  | .func f => some (.fn (.func f) [] [])
def evs (T : Tr AV) : List Operand → Option (List AV)
  | [] => some []
  | x :: xs => match ev T x, evs T xs with
    | some v, some vs => some (v :: vs)
    | _, _ => none

def splice (cs : List AV) (o : Nat) (new : List AV) : List AV := cs.take o ++ new ++ cs.drop (o + new.length)

/-- a value of a type out of cells -/
def part (i : TI) (cs : List AV) (o : Nat) : Option AV :=
  cond i.isAgg (cond (Nat.ble (o + i.size) cs.length) (some (.agg ((cs.drop o).take i.size))) none) (cs[o]?)

def AV.flat : AV → Bool
  | .agg _ | .tup _ => false
  | _ => true
def flatAll : List AV → Bool
  | [] => true
  | x :: xs => x.flat && flatAll xs
def evLoad (C : Ctx) (H : Heap) (t : TypeId) : AV → Option AV
  | .ptr b o => match C.ty t, H.cells b with
    | some i, some ob => part i ob.cs o
    | _, _ => none
  | _ => none
def evStore (C : Ctx) (H : Heap) (t : TypeId) (x : AV) : AV → Option Heap
  | .ptr b o => match C.ty t, H.cells b with
    | some i, some ob => cond (ob.kind.lets o && Nat.beq x.cells.length i.size && Nat.ble (o + i.size) ob.cs.length && flatAll x.cells)
        (some (H.write b { ob with cs := splice ob.cs o x.cells })) none
    | _, _ => none
  | _ => none

/-- parts put into cells -/
def fillA (place : Nat → Option (Nat × Nat)) (cells : List AV) : List (Nat × AV) → Option (List AV)
  | [] => some cells
  | (i, v) :: rest => match place i with
    | none => none
    | some (off, size) => cond (Nat.beq v.cells.length size && Nat.ble (off + v.cells.length) cells.length) (fillA place (splice cells off v.cells) rest) none
def evParts (T : Tr AV) : List (Nat × Operand) → Option (List (Nat × AV))
  | [] => some []
  | (i, x) :: xs => match ev T x, evParts T xs with
    | some v, some vs => some ((i, v) :: vs)
    | _, _ => none

def repeatCells (z : List AV) : Nat → List AV
  | 0 => []
  | n + 1 => z ++ repeatCells z n

def intArithA (op : BinOp) (k : IntKind) (x y : Int) : Option AV :=
  match op with
  | .add => some (.int k (k.wrap (x + y)))
  | .sub => some (.int k (k.wrap (x - y)))
  | .mul => some (.int k (k.wrap (x * y)))
  | .quo => if y = 0 then none else some (.int k (k.wrap (x.tdiv y)))
  | .rem => if y = 0 then none else some (.int k (x.tmod y))
  | .and => some (.int k (k.wrap (BitVec.ofInt k.bits x &&& BitVec.ofInt k.bits y).toNat))
  | .or => some (.int k (k.wrap (BitVec.ofInt k.bits x ||| BitVec.ofInt k.bits y).toNat))
  | .xor => some (.int k (k.wrap (BitVec.ofInt k.bits x ^^^ BitVec.ofInt k.bits y).toNat))
  | .andNot => some (.int k (k.wrap (BitVec.ofInt k.bits x &&& ~~~BitVec.ofInt k.bits y).toNat))
  | .eql => some (.bool (x == y))
  | .neq => some (.bool (x != y))
  | .lss => some (.bool (x < y))
  | .leq => some (.bool (x ≤ y))
  | .gtr => some (.bool (x > y))
  | .geq => some (.bool (x ≥ y))
  | _ => none
def shiftA (op : BinOp) (k : IntKind) (x y : Int) : Option AV :=
  match op with
  | .shl => if y < 0 then none else some (.int k (k.wrap (x * 2 ^ min y.toNat k.bits)))
  | .shr => if y < 0 then none else some (.int k (x.fdiv (2 ^ min y.toNat k.bits)))
  | _ => none
def stringOpA (op : BinOp) (x y : List UInt8) : Option AV :=
  match op with
  | .add => cond (Nat.ble (x.length + y.length) 9223372036854775807) (some (.str (x ++ y))) none
  | .eql => some (.bool (x == y))
  | .neq => some (.bool !(x == y))
  | .lss => some (.bool (Op.bytesLess x y))
  | .leq => some (.bool (Op.bytesLess x y || x == y))
  | .gtr => some (.bool !(Op.bytesLess x y || x == y))
  | .geq => some (.bool !(Op.bytesLess x y))
  | _ => none
/-- == at a type that is not int nor string, where the answer hangs on no address -/
def equalA (d : TypeDesc) : AV → AV → Option Bool
  | .bool a, .bool b => match d with | .bool => some (a == b) | _ => none
  | .ptr0, .ptr0 => match d with | .pointer _ => some true | _ => none
  | .ptr0, .ptr _ _ => match d with | .pointer _ => some false | _ => none
  | .ptr _ _, .ptr0 => match d with | .pointer _ => some false | _ => none
  | .sl0, .sl0 => match d with | .slice _ => some true | _ => none
  | .sl0, .sl _ _ _ => match d with | .slice _ => some false | _ => none
  | .sl _ _ _, .sl0 => match d with | .slice _ => some false | _ => none
  | .map0, .map0 => match d with | .map _ _ => some true | _ => none
  | .map0, .map _ => match d with | .map _ _ => some false | _ => none
  | .map _, .map0 => match d with | .map _ _ => some false | _ => none
  | .nilfn, .nilfn => match d with | .func _ _ _ => some true | _ => none
  | .nilfn, .fn _ _ _ => match d with | .func _ _ _ => some false | _ => none
  | .fn _ _ _, .nilfn => match d with | .func _ _ _ => some false | _ => none
  | .nilif, .nilif => match d with | .interface ms => (match ms.isEmpty with | true => some true | false => none) | _ => none
  | .nilif, .iface _ _ => match d with | .interface _ => some false | _ => none
  | .iface _ _, .nilif => match d with | .interface _ => some false | _ => none
  | _, _ => none
def numOf : AV → Option (IntKind × Exp)
  | .int k n => some (k, .lit n)
  | .sx k e => some (k, e)
  | _ => none
def Ctx.num (C : Ctx) (k : IntKind) (e : Exp) : AV := match C.fix e with | some n => .int k n | none => .sx k e
/-- an operation on numbers of which one is not known -/
def symOp (C : Ctx) (op : BinOp) (k k' : IntKind) (a b : Exp) : Option AV :=
  match op with
  | .shl | .shr => match b with
    | .lit y => if y < 0 then none else some (.sx k (.sh op k a y.toNat))
    | _ => none
  | .add | .sub | .mul | .and | .or | .xor | .andNot => if k = k' then some (.sx k (.mk op k a b)) else none
  | .quo | .rem => if k = k' then (match C.orc .eql b (.lit 0) with
    | some false => some (C.num k (.op op k a b))
    | _ => none) else none
  | .eql | .neq | .lss | .leq | .gtr | .geq => if k = k' then (C.orc op a b).map .bool else none
/-- is a string of bytes that are not all known that one -/
def sxsEq (C : Ctx) : List Exp → List UInt8 → Option Bool
  | [], [] => some true
  | [], _ :: _ => some false
  | _ :: _, [] => some false
  | e :: es, b :: bs => match (match e with | .lit n => some (UInt8.ofNat (IntKind.u8.wrap n).toNat == b) | e => C.orc .eql (.conv .u8 e) (.lit b.toNat)) with
    | some true => sxsEq C es bs
    | some false => some false
    | none => none
def sxsOp (C : Ctx) (op : BinOp) (l : List Exp) (s : List UInt8) : Option AV :=
  match op with
  | .eql => (sxsEq C l s).map .bool
  | .neq => (sxsEq C l s).map fun b => .bool !b
  | _ => none
def litsOf : List UInt8 → List Exp
  | [] => []
  | b :: s => .lit b.toNat :: litsOf s
/-- a known string and one that is not all known, joined -/
def sxsCat (op : BinOp) (s : List UInt8) (l : List Exp) : Option AV :=
  match op with
  | .add => cond (Nat.ble (s.length + l.length) 9223372036854775807) (some (.sxs (litsOf s ++ l))) none
  | _ => none
def litS : List Exp → Option (List UInt8)
  | [] => some []
  | .lit n :: r => match litS r with
    | some s => some (UInt8.ofNat (IntKind.u8.wrap n).toNat :: s)
    | none => none
  | _ :: _ => none
def mkS (l : List Exp) : AV := match litS l with | some s => .str s | none => .sxs l
def byteAt : Exp → AV
  | .lit n => .int .u8 (IntKind.u8.wrap n)
  | e => .sx .u8 (.conv .u8 e)
def binOpA (C : Ctx) (op : BinOp) (t : TypeId) (x y : AV) : Option AV :=
  match x, y with
  | .int k a, .int k' b =>
    match op with
    | .shl | .shr => shiftA op k a b
    | _ => if k = k' then intArithA op k a b else none
  | .str a, .str b => stringOpA op a b
  | .sxs a, .str b => sxsOp C op a b
  | .str a, .sxs b => sxsCat op a b
  | _, _ => match numOf x, numOf y with
    | some (k, a), some (k', b) => symOp C op k k' a b
    | _, _ => match op, C.ty t with
      | .eql, some i => (equalA i.desc x y).map .bool
      | .neq, some i => (equalA i.desc x y).map fun b => .bool !b
      | _, _ => none
def unOpA (op : UnOp) (x : AV) : Option AV :=
  match op, x with
  | .neg, .int k n => some (.int k (k.wrap (0 - n)))
  | .xor, .int k n => intArithA .xor k (if k.signed then -1 else k.max) n
  | .not, .bool b => some (.bool !b)
  | _, _ => none

def convertA (C : Ctx) (src dst : TypeId) (x : AV) : Option AV :=
  match C.ty src, C.ty dst with
  | some i, some j =>
    match j.desc, x with
    | .int k, .int _ n => (match i.desc with | .unsafePointer => none | .float _ => none | .complex _ => none | _ => some (.int k (k.wrap n)))
    | .int k, .sx _ e => (match i.desc with | .unsafePointer => none | .float _ => none | .complex _ => none | _ => some (.sx k (.conv k e)))
    | .string, .str s => (match i.desc with | .string => some (.str s) | _ => none)
    | _, _ => none
  | _, _ => none

def lenA (d : TypeDesc) (x : AV) : Option AV :=
  match d, x with
  | .string, .str s => some (.int .i64 s.length)
  | .string, .sxs s => some (.int .i64 s.length)
  | .slice _, .sl0 => some (.int .i64 0)
  | .slice _, .sl _ _ n => some (.int .i64 n)
  | .array n _, _ => some (.int .i64 n)
  | .map _ _, .map0 => some (.int .i64 0)
  | _, _ => none

/-! ### maps: keys and values by turns -/
def Heap.entries (H : Heap) (b : Nat) : Option Obj := match H.get b with | some o => cond o.kind.isTab (some o) none | none => none
def sameA : TypeDesc → AV → AV → Option Bool
  | .int _, .int k a, .int k' b => if k = k' then some (a == b) else none
  | .string, .str a, .str b => some (a == b)
  | _, _, _ => none
def findA (d : TypeDesc) (k : AV) : List AV → Option (Option AV)
  | [] => some none
  | [_] => none
  | x :: v :: r => match sameA d k x with
    | some true => some (some v)
    | some false => findA d k r
    | none => none
def updA (d : TypeDesc) (k v : AV) : List AV → Option (List AV)
  | [] => some [k, v]
  | [_] => none
  | x :: u :: r => match sameA d k x with
    | some true => some (k :: v :: r)
    | some false => match updA d k v r with
      | some r' => some (x :: u :: r')
      | none => none
    | none => none
def keyA (d : TypeDesc) (k : AV) : Bool := match d, k with | .int q, .int p _ => decide (p = q) | .string, .str _ => true | _, _ => false
def lookA (d : TypeDesc) (z : Option AV) (ok : Bool) (k : AV) (cs : List AV) : Option AV :=
  match findA d k cs with
  | some (some v) => some (cond ok (.tup [v, .bool true]) v)
  | some none => match z with
    | some v => some (cond ok (.tup [v, .bool false]) v)
    | none => none
  | none => none
def lookupA (C : Ctx) (H : Heap) (t : TypeId) (m k : AV) (ok : Bool) : Option AV :=
  match C.ty t with
  | some i => match i.desc with
    | .map kt et => match C.ty kt, C.ty et with
      | some ki, some ei => cond (keyA ki.desc k) (match m with
        | .map0 => lookA ki.desc ei.zval ok k []
        | .map b => (match H.entries b with
          | some ob => lookA ki.desc ei.zval ok k ob.cs
          | none => none)
        | _ => none) none
      | _, _ => none
    | _ => none
  | none => none
def mapUpdateA (C : Ctx) (H : Heap) (t : TypeId) (m k v : AV) : Option Heap :=
  match C.ty t with
  | some i => match i.desc with
    | .map kt _ => match C.ty kt, m with
      | some ki, .map b => cond (keyA ki.desc k) (match H.entries b with
        | some ob => (match updA ki.desc k v ob.cs with
          | some cs => some (H.write b { ob with cs := cs })
          | none => none)
        | none => none) none
      | _, _ => none
    | _ => none
  | none => none
def makeMapA (H : Heap) (id : Nat) : Option (AV × Heap) :=
  match H.add id { cs := [], es := 0, kind := .map } with
  | some H' => some (.map id, H')
  | none => none
def lenMapA (H : Heap) (d : TypeDesc) (x : AV) : Option AV :=
  match d, x with
  | .map _ _, .map b => match H.entries b with
    | some ob => some (.int .i64 (ob.cs.length / 2 : Nat))
    | none => none
  | _, _ => none
/-- the bytes of a slice as a string -/
def bytesA : List AV → Option (List UInt8)
  | [] => some []
  | .int .u8 n :: r => match bytesA r with
    | some s => some (UInt8.ofNat n.toNat :: s)
    | none => none
  | _ :: _ => none
def toStringA (C : Ctx) (H : Heap) (src dst : TypeId) (x : AV) : Option AV :=
  match C.ty src, C.ty dst with
  | some i, some j => match i.desc, j.desc with
    | .slice e, .string => match C.ty e with
      | some ei => match ei.desc, x with
        | .int .u8, .sl0 => some (.str [])
        | .int .u8, .sl b o n => (match H.cells b with
          | some ob => cond (Nat.ble (o + n) ob.cs.length) (match bytesA ((ob.cs.drop o).take n) with
            | some s => some (.str s)
            | none => none) none
          | none => none)
        | _, _ => none
      | none => none
    | _, _ => none
  | _, _ => none
def numA (k : IntKind) : Exp → AV
  | .lit n => .int k n
  | e => .sx k e
/-- the less of two numbers, or the greater -/
def minMaxA (C : Ctx) (min : Bool) (x y : AV) : Option AV :=
  match x, y with
  | .int k a, .int _ b => some (.int k (cond min (if b < a then b else a) (if b > a then b else a)))
  | _, _ => match numOf x, numOf y with
    | some (k, a), some (_, b) => match cond min (C.orc .lss b a) (C.orc .lss a b) with
      | some true => some (numA k b)
      | some false => some (numA k a)
      | none => none
    | _, _ => none

def convertHA (C : Ctx) (H : Heap) (src dst : TypeId) (x : AV) : Option AV :=
  match convertA C src dst x with
  | some v => some v
  | none => toStringA C H src dst x
def lenHA (H : Heap) (d : TypeDesc) (x : AV) : Option AV :=
  match x with
  | .map b => lenMapA H d (.map b)
  | x => lenA d x
def fieldA (C : Ctx) (t : TypeId) (f : Nat) (x : AV) : Option AV :=
  match C.ty t, x with
  | some { desc := .struct fs, .. }, .agg cs => match fs[f]? with
    | some fd => match C.ty fd.type with
      | some j => part j cs fd.offset
      | none => none
    | none => none
  | _, _ => none
def fieldAddrA (C : Ctx) (t : TypeId) (f : Nat) (x : AV) : Option AV :=
  match C.ty t, x with
  | some { desc := .struct fs, .. }, .ptr b o => match fs[f]? with
    | some fd => match C.ty fd.type with
      | some j => cond (Nat.beq j.size 0) none (some (.ptr b (o + fd.offset)))
      | none => none
    | none => none
  | _, _ => none
def indexAddrA (C : Ctx) (t : TypeId) (x : AV) (ix : AV) : Option AV :=
  match C.ty t, ix with
  | some i, .int _ n =>
    match i.desc, x with
    | .slice e, .sl b o len => match C.ty e with
      | some j => if 0 ≤ n ∧ n < (len : Int) then some (.ptr b (o + n.toNat * j.size)) else none
      | none => none
    | .array len e, .ptr b o => match C.ty e with
      | some j => if 0 ≤ n ∧ n < (len : Int) then some (.ptr b (o + n.toNat * j.size)) else none
      | none => none
    | _, _ => none
  | _, _ => none
def indexA (C : Ctx) (t : TypeId) (x : AV) (ix : AV) : Option AV :=
  match C.ty t, ix with
  | some i, .int _ n =>
    match i.desc, x with
    | .array len e, .agg cs => match C.ty e with
      | some j => if 0 ≤ n ∧ n < (len : Int) then part j cs (n.toNat * j.size) else none
      | none => none
    | .string, .str s => if 0 ≤ n then (match s[n.toNat]? with | some b => some (.int .u8 b.toNat) | none => none) else none
    | .string, .sxs s => if 0 ≤ n then (match s[n.toNat]? with | some e => some (byteAt e) | none => none) else none
    | _, _ => none
  | _, _ => none

def makeInterfaceA (C : Ctx) (t : TypeId) (x : AV) : Option AV :=
  match C.ty t with
  | some i => match i.desc with
    | .interface _ => none
    | _ => some (.iface t x)
  | none => none
/-- x.(T) of a type that is no interface -/
def typeAssertA (C : Ctx) (x : AV) (t : TypeId) (ok : Bool) : Option AV :=
  match C.ty t with
  | some i => match i.desc with
    | .interface _ => none
    | _ => match x with
      | .iface q v => cond (Nat.beq q t) (some (cond ok (.tup [v, .bool true]) v)) (cond ok (match i.zval with | some z => some (.tup [z, .bool false]) | none => none) none)
      | .nilif => cond ok (match i.zval with | some z => some (.tup [z, .bool false]) | none => none) none
      | _ => none
  | none => none

/-- the cells of the first n elements -/
def firstA (H : Heap) (size n : Nat) : AV → Option (List AV)
  | .sl0 => some []
  | .sl b o _ => match H.cells b with
    | some ob => cond (Nat.ble (o + n * size) ob.cs.length) (some ((ob.cs.drop o).take (n * size))) none
    | none => none
  | .str s => some ((s.take n).map fun b => .int .u8 b.toNat)
  | _ => none
def lenOfA : AV → Option Nat
  | .sl0 => some 0
  | .sl _ _ n => some n
  | .str s => some s.length
  | _ => none

def zeroFits (j : TI) : Bool := match j.zero with
  | some z => Nat.beq z.length j.size
  | none => false
/-- append: a new abstract block; the old one's row may be shared -/
def appendA (C : Ctx) (H : Heap) (id : Nat) (t xt : TypeId) (s x : AV) : Option (AV × Heap) :=
  match Nat.beq t xt, C.ty t with
  | true, some i =>
    match i.desc with
    | .slice e => match C.ty e with
      | some j =>
        match x with
        | .sl0 => (match s with
          | .sl0 => some (.sl0, H)
          | .sl b o len => some (.sl b o len, H)
          | _ => none)
        | .sl bx ox n => (match firstA H j.size n (.sl bx ox n) with
          | some new =>
            cond (Nat.beq n 0 || Nat.beq j.size 0 || !zeroFits j || !Nat.beq new.length (n * j.size)) none
              (match s with
              | .sl0 =>
                cond (Nat.ble (n * j.bytes) 140737488355328 && Nat.ble n 1000000000)
                  (match H.add id { cs := new, es := j.size, kind := .free } with
                    | some H' => some (.sl id 0 n, H')
                    | none => none) none
              | .sl b o len =>
                (match H.cells b with
                | some ob =>
                  cond (!ob.kind.isOld && Nat.beq (o + len * j.size) ob.cs.length && Nat.beq ob.es j.size && Nat.ble ((len + n) * j.bytes) 140737488355328 && Nat.ble (len + n) 1000000000 && flatAll new)
                    (match (H.write b { ob with kind := .old }).add id { cs := ob.cs.drop o ++ new, es := ob.es, kind := .tip (ob.cs.drop o).length } with
                      | some H' => some (.sl id 0 (len + n), H')
                      | none => none) none
                | none => none)
              | _ => none)
          | none => none)
        | _ => none
      | none => none
    | _ => none
  | _, _ => none

/-- append(s, make([]T, m)...), and append of a slice of no elements -/
def appendZA (C : Ctx) (H : Heap) (id : Nat) (t xt : TypeId) (s x : AV) : Option (AV × Heap) :=
  match C.ty t with
  | some i => match i.desc with
    | .slice e => match C.ty e with
      | some j => match x with
        | .sl _ _ 0 => cond (Nat.beq t xt) (match s with
          | .sl0 => some (.sl0, H)
          | .sl b o len => some (.sl b o len, H)
          | _ => none) none
        | .int _ m => match C.ty xt with
          | some q => match q.desc, j.zero with
            | .int _, some z => cond (decide (0 < m) && decide (m ≤ 1000000) && Nat.beq z.length j.size && !Nat.beq j.size 0 && flatAll (repeatCells z m.toNat))
              (match s with
              | .sl0 => cond (Nat.ble (m.toNat * j.bytes) 140737488355328)
                  (match H.add id { cs := repeatCells z m.toNat, es := j.size, kind := .free } with
                    | some H' => some (.sl id 0 m.toNat, H')
                    | none => none) none
              | .sl b o len => (match H.cells b with
                | some ob =>
                  cond (!ob.kind.isOld && Nat.beq (o + len * j.size) ob.cs.length && Nat.beq ob.es j.size && Nat.ble ((len + m.toNat) * j.bytes) 140737488355328 && Nat.ble (len + m.toNat) 1000000000)
                    (match (H.write b { ob with kind := .old }).add id { cs := ob.cs.drop o ++ repeatCells z m.toNat, es := ob.es, kind := .tip (ob.cs.drop o).length } with
                      | some H' => some (.sl id 0 (len + m.toNat), H')
                      | none => none) none
                | none => none)
              | _ => none) none
            | _, _ => none
          | none => none
        | _ => none
      | none => none
    | _ => none
  | none => none
def appendHA (C : Ctx) (H : Heap) (id : Nat) (t xt : TypeId) (s x : AV) : Option (AV × Heap) :=
  match appendA C H id t xt s x with
  | some r => some r
  | none => appendZA C H id t xt s x

def sliceBoundA (y : Nat) : Option AV → Nat → Option Nat
  | none, d => some d
  | some (.int _ i), _ => if 0 ≤ i ∧ i ≤ (y : Int) then some i.toNat else none
  | some _, _ => none
def evOpt (T : Tr AV) : Option Operand → Option (Option AV)
  | none => some none
  | some x => match ev T x with | some v => some (some v) | none => none
/-- x[lo:hi] of a string, of a slice up to its length -/
def sliceA (C : Ctx) (H : Heap) (t : TypeId) (x : AV) (lo hi : Option AV) : Option AV :=
  match C.ty t, x with
  | some i, .str s => match i.desc with
    | .string => match sliceBoundA s.length hi s.length with
      | some h => match sliceBoundA h lo 0 with
        | some l => some (.str ((s.take h).drop l))
        | none => none
      | none => none
    | _ => none
  | some i, .sxs s => match i.desc with
    | .string => match sliceBoundA s.length hi s.length with
      | some h => match sliceBoundA h lo 0 with
        | some l => some (mkS ((s.take h).drop l))
        | none => none
      | none => none
    | _ => none
  | some i, .sl b o n => match i.desc with
    | .slice e => match C.ty e, sliceBoundA n hi n with
      | some j, some h => match sliceBoundA h lo 0, H.cells b with
        | some l, some ob => cond (Nat.blt l n && Nat.beq ob.es j.size) (some (.sl b (o + l * j.size) (h - l))) none
        | _, _ => none
      | _, _ => none
    | _ => none
  | some i, .sl0 => match i.desc with
    | .slice e => match C.ty e, sliceBoundA 0 hi 0 with
      | some _, some h => match sliceBoundA h lo 0 with
        | some _ => some .sl0
        | none => none
      | _, _ => none
    | _ => none
  | _, _ => none

def placeOf (C : Ctx) : Option Field → Option (Nat × Nat)
  | some f => match C.ty f.type with
    | some j => some (f.offset, j.size)
    | none => none
  | none => none
def fillPlaces (C : Ctx) (fs : Array Field) (i : Nat) : Option (Nat × Nat) := placeOf C fs[i]?
def fieldsKnown (C : Ctx) (fs : Array Field) : Bool := fs.toList.all fun f => (C.ty f.type).isSome

def buildA (C : Ctx) (t : TypeId) (parts : List (Nat × AV)) : Option AV :=
  match C.ty t with
  | some i => match i.zero, i.desc with
    | some z, .struct fs => cond (fieldsKnown C fs) ((fillA (fillPlaces C fs) z parts).map .agg) none
    | some z, .array _ e => match C.ty e with
      | some j => (fillA (fun i => some (i * j.size, j.size)) z parts).map .agg
      | none => none
    | _, _ => none
  | none => none

def buildSliceA (C : Ctx) (H : Heap) (id : Nat) (t : TypeId) (len : Nat) (parts : List (Nat × AV)) : Option (AV × Heap) :=
  match C.ty t with
  | some { desc := .slice e, .. } => match C.ty e with
    | some j => match j.zero with
      | some z => cond (Nat.beq z.length j.size && !Nat.beq j.size 0 && Nat.ble (len * j.size) 16777216)
          (match fillA (fun i => some (i * j.size, j.size)) (repeatCells z len) parts with
            | some cs => cond (Nat.beq cs.length (len * j.size)) (match H.add id { cs, es := j.size, kind := .free } with
              | some H' => some (.sl id 0 len, H')
              | none => none) none
            | none => none) none
      | none => none
    | none => none
  | _ => none

def makeSliceA (C : Ctx) (H : Heap) (id : Nat) (t : TypeId) : AV → AV → Option (AV × Heap)
  | .int _ n, .int _ c => if n = c ∧ 0 ≤ n ∧ n ≤ 16777216 then
      (match C.ty t with
      | some { desc := .slice e, .. } => match C.ty e with
        | some j => match j.zero with
          | some z => cond (Nat.beq z.length j.size && !Nat.beq j.size 0 && Nat.ble j.bytes 1000000 && Nat.ble (n.toNat * j.bytes) 140737488355328)
            (match H.add id { cs := repeatCells z n.toNat, es := j.size, kind := .free } with
              | some H' => some (.sl id 0 n.toNat, H')
              | none => none) none
          | none => none
        | none => none
      | _ => none) else none
  | _, _ => none

/-- a new variable of a type -/
def allocA (C : Ctx) (H : Heap) (id : Nat) (t : TypeId) : Option (AV × Heap) :=
  match C.ty t with
  | some i => match i.zero with
    | some z => match H.add id { cs := z, es := i.size, kind := .free } with
      | some H' => some (.ptr id 0, H')
      | none => none
    | none => none
  | none => none
def boxA (H : Heap) (id : Nat) (v : AV) : Option (AV × Heap) :=
  match H.add id { cs := v.cells, es := v.cells.length, kind := .free } with
  | some H' => some (.ptr id 0, H')
  | none => none

abbrev CallA := Heap → FuncId → List AV → Option (AV × Heap)

def same (H : Heap) : Option AV → Option (AV × Heap)
  | some v => some (v, H)
  | none => none

def callA (C : Ctx) (call : CallA) (H : Heap) (id : Nat) (T : Tr AV) (c : Call) : Option (AV × Heap) :=
  match evs T c.args.toList with
  | none => none
  | some vs =>
    match c.callee with
    | .value f => match ev T f with
      | some (.fn (.func f) first captured) => call H f (first ++ vs ++ captured)
      | _ => none
    | .builtin .len => match c.argTypes[0]?, vs with
      | some t, x :: _ => match C.ty t with
        | some i => same H (lenHA H i.desc x)
        | none => none
      | _, _ => none
    | .builtin .append => match c.argTypes.toList, vs with
      | [t, xt], [s, x] => appendHA C H id t xt s x
      | _, _ => none
    | .builtin .min => match vs with
      | [x, y] => same H (minMaxA C true x y)
      | _ => none
    | .builtin .max => match vs with
      | [x, y] => same H (minMaxA C false x y)
      | _ => none
    | _ => none

def evOp (C : Ctx) (call : CallA) (H : Heap) (id : Nat) (T : Tr AV) (o : Oper) : Option (AV × Heap) :=
  match o.op with
  | .move x | .assign x => same H (ev T x)
  | .pick c a b => match ev T c with
    | some (.bool t) => match t with
      | true => same H (ev T a)
      | false => same H (ev T b)
    | _ => none
  | .alloc t => allocA C H id t
  | .box _ x => match ev T x with | some v => boxA H id v | none => none
  | .build t parts => match evParts T parts.toList with | some ps => same H (buildA C t ps) | none => none
  | .buildSlice t len parts => match evParts T parts.toList with | some ps => buildSliceA C H id t len ps | none => none
  | .load t a => match ev T a with | some v => same H (evLoad C H t v) | none => none
  | .store t a x => match ev T a, ev T x with
    | some v, some u => match evStore C H t u v with
      | some H' => some (undefA, H')
      | none => none
    | _, _ => none
  | .nilCheck x => match ev T x with
    | some (.ptr b o) => some (.ptr b o, H)
    | some (.fn (.func f) a c) => some (.fn (.func f) a c, H)
    | _ => none
  | .binOp op t x y _ => match ev T x, ev T y with
    | some a, some b => same H (binOpA C op t a b)
    | _, _ => none
  | .unOp op _ x => match ev T x with | some a => same H (unOpA op a) | none => none
  | .convert s d x => match ev T x with | some a => same H (convertHA C H s d a) | none => none
  | .field t x f => match ev T x with | some a => same H (fieldA C t f a) | none => none
  | .fieldAddr t x f => match ev T x with | some a => same H (fieldAddrA C t f a) | none => none
  | .indexAddr t x i => match ev T x, ev T i with | some a, some b => same H (indexAddrA C t a b) | _, _ => none
  | .index t x i => match ev T x, ev T i with | some a, some b => same H (indexA C t a b) | _, _ => none
  | .slice t x lo hi none => match ev T x, evOpt T lo, evOpt T hi with
    | some a, some l, some h => same H (sliceA C H t a l h)
    | _, _, _ => none
  | .extract x i => match ev T x with
    | some (.tup vs) => same H vs[i]?
    | _ => none
  | .makeSlice t l c => match ev T l, ev T c with | some a, some b => makeSliceA C H id t a b | _, _ => none
  | .call c => callA C call H id T c
  | .makeFunc f first captured => match evs T first.toList, evs T captured.toList with
    | some a, some c => some (.fn f a c, H)
    | _, _ => none
  | .makeMap _ none => makeMapA H id
  | .lookup t m k ok => match ev T m, ev T k with
    | some a, some b => same H (lookupA C H t a b ok)
    | _, _ => none
  | .mapUpdate t m k x => match ev T m, ev T k, ev T x with
    | some a, some b, some c => match mapUpdateA C H t a b c with
      | some H' => some (undefA, H')
      | none => none
    | _, _, _ => none
  | .makeInterface t x => match ev T x with | some a => same H (makeInterfaceA C t a) | none => none
  | .typeAssert x _ t ok => match ev T x with | some a => same H (typeAssertA C a t ok) | none => none
  | .panic x => match ev T x with
    | some (.iface t v) => some (.pan (.iface t v), H)
    | _ => none
  | _ => none

/-- is an operation wanted -/
def wantedA (ops : Array Oper) (T : Tr AV) (o : Oper) : Option Bool :=
  match o.guard with
  | none => some true
  | some (j, want) => match (ops[j]?).bind (·.dst) with
    | some d => match T.get d with
      | some (.bool b) => some (b == want)
      | some (.tup []) => some false
      | _ => none
    | none => none

inductive X where
  | normal
  | exit (id : Nat)
  | ret
  | panic (v : AV)
def AV.panics : AV → Option AV
  | .pan x => some x
  | _ => none

/-- what runs a round of a loop over a function -/
abbrev YCall := Heap → Nat → List AV → Option Heap
def noY : YCall := fun _ _ _ => none
/-- a call of the function that a loop handed out -/
def yieldOf (T : Tr AV) (o : Oper) : Option (Nat × List AV) :=
  match o.op with
  | .call c => match c.callee with
    | .value f => match ev T f with
      | some (.yld b) => match evs T c.args.toList with
        | some vs => some (b, vs)
        | none => none
      | _ => none
    | _ => none
  | _ => none
/-- the operations of a region in the order of the text; the i-th may make the block number base + i -/
def evOps (C : Ctx) (call : CallA) (yc : YCall) (ops : Array Oper) (base : Nat) : Nat → List Oper → St → Option (X × St)
  | _, [], s => some (.normal, s)
  | i, o :: rest, s => s.cut fun T N H => match wantedA ops T o with
    | none => none
    | some false => match putA T N H o.dst undefA with
      | some s' => evOps C call yc ops base (i + 1) rest s'
      | none => none
    | some true => match yieldOf T o with
      | some (b, vs) => (match yc H b vs with
        | some H' => (match putA T N H' o.dst (.bool true) with
          | some s' => evOps C call yc ops base (i + 1) rest s'
          | none => none)
        | none => none)
      | none => match evOp C call H (base + i) T o with
        | some (.pan x, H') => some (.panic x, ⟨T, N, H'⟩)
        | some (v, H') => match putA T N H' o.dst v with
          | some s' => evOps C call yc ops base (i + 1) rest s'
          | none => none
        | none => none

/-- 0: looks at no memory · 1: makes one block · 2: looks at one block · 3: all else -/
def clsOf (o : Oper) : Nat :=
  match o.op with
  | .move _ | .assign _ | .pick .. | .build .. | .nilCheck _ | .binOp .. | .unOp .. | .field .. | .fieldAddr .. | .indexAddr .. | .index .. | .extract .. | .makeFunc .. | .makeInterface .. | .typeAssert .. => 0
  | .alloc _ | .box .. | .buildSlice .. | .makeSlice .. | .makeMap .. => 1
  | .load .. | .slice .. | .convert .. | .lookup .. => 2
  | .call { callee := .builtin .len, .. } => 2
  | .call { callee := .builtin .min, .. } | .call { callee := .builtin .max, .. } => 0
  | _ => 3

def binding (o : Oper) : List Nat := (o.after.toList.filter (Region.binds .any)).map (·.on)

/-- of each operation the set of those that come before it, as bits -/
def masksFrom : List Oper → List Nat → List Nat
  | [], acc => acc
  | o :: os, acc => masksFrom os (acc ++ [(binding o).foldl (fun m j => m ||| (1 <<< j) ||| acc.getD j 0) 0])
def masks (ops : Array Oper) : List Nat := masksFrom ops.toList []
def bef (ms : List Nat) (j i : Nat) : Bool := (ms.getD j 0).testBit i
def ordered (ms : List Nat) (i j : Nat) : Bool := bef ms i j || bef ms j i

def listedAll (l : List Nat) (ls : List Nat) : Bool := l.all fun j => ls.contains j
def pickNext (ops : Array Oper) (listed : List Nat) (wantE : Bool) : List Nat → Option Nat
  | [] => none
  | i :: is => match ops[i]? with
    | some o => cond (!listed.contains i && (wantE || !Nat.beq (clsOf o) 3) && listedAll (binding o) listed) (some i) (pickNext ops listed wantE is)
    | none => pickNext ops listed wantE is
def greedy (ops : Array Oper) : Nat → List Nat → List Nat
  | 0, listed => listed
  | n + 1, listed => match pickNext ops listed false (List.range ops.size) with
    | some i => greedy ops n (listed ++ [i])
    | none => match pickNext ops listed true (List.range ops.size) with
      | some i => greedy ops n (listed ++ [i])
      | none => listed
def orderOf (ops : Array Oper) : List Nat := greedy ops ops.size []

def posOf (l : List Nat) (i : Nat) : Nat := l.findIdx (Nat.beq i)

/-- two stores, the last of the effects, side by side and in no order: the place of the first -/
def storeAt (ops : Array Oper) (i : Nat) : Bool := match ops[i]? with
  | some o => (match o.op with | .store .. => true | _ => false) && o.guard.isNone && o.dst.isNone
  | none => false
def effAt (ops : Array Oper) (i : Nat) : Bool := match ops[i]? with
  | some o => Nat.beq (clsOf o) 3
  | none => false
def looseAt (ops : Array Oper) (ms ord : List Nat) : Option Nat :=
  match ((List.range ord.length).filter fun p => effAt ops (ord.getD p 0)).reverse with
  | q :: p :: _ => cond (Nat.beq q (p + 1) && !ordered ms (ord.getD p 0) (ord.getD q 0) && storeAt ops (ord.getD p 0) && storeAt ops (ord.getD q 0)) (some p) none
  | _ => none
def loosePair (ord : List Nat) (lo : Option Nat) (i j : Nat) : Bool := match lo with
  | some p => (Nat.beq (posOf ord i) p && Nat.beq (posOf ord j) (p + 1)) || (Nat.beq (posOf ord i) (p + 1) && Nat.beq (posOf ord j) p)
  | none => false
def looseOk (ops : Array Oper) (ord : List Nat) (lo : Option Nat) : Bool := match lo with
  | some p => Nat.blt (p + 1) ops.size && (ord.zipIdx.all fun x => cond (Nat.beq x.2 p || Nat.beq x.2 (p + 1)) (storeAt ops x.1) (cond (effAt ops x.1) (Nat.ble x.2 p) true))
  | none => true
def pairOk (ops : Array Oper) (ms ord : List Nat) (lo : Option Nat) (i j : Nat) (x y : Oper) : Bool :=
  (match x.dst with
    | some t => cond ((y.looksAt ops).contains t || y.dst == some t) (ordered ms i j) true
    | none => true) &&
  (cond (Nat.beq (clsOf x) 3 && Nat.beq (clsOf y) 3) (ordered ms i j || loosePair ord lo i j) true) &&
  (cond (Nat.beq (clsOf x) 1 && Nat.beq (clsOf y) 3) (ordered ms i j || Nat.blt (posOf ord i) (posOf ord j)) true)
def staticOk (ops : Array Oper) (ms ord : List Nat) (lo : Option Nat) : Bool :=
  looseOk ops ord lo &&
  Nat.beq ord.length ops.size && ((List.range ops.size).all fun i => ord.contains i) && (ord.all fun i => Nat.blt i ops.size) &&
  (ord.zipIdx.all fun x => Nat.beq (posOf ord x.1) x.2) &&
  ((List.range ops.size).all fun j => match ops[j]? with
    | some y => ((binding y).all fun i => Nat.blt i ops.size && Nat.blt (posOf ord i) (posOf ord j)) &&
      ((List.range ops.size).all fun i => Nat.beq i j || match ops[i]? with
        | some x => pairOk ops ms ord lo i j x y
        | none => false)
    | none => false)

/-! ### a region that tosses a coin, and what is the same behind both its sides -/
def expsBe : List Exp → List Exp → Bool
  | [], [] => true
  | x :: xs, y :: ys => x.beq y && expsBe xs ys
  | _, _ => false
mutual
def AV.beq : AV → AV → Bool
  | .bool a, .bool b => a == b
  | .int k n, .int k' m => k == k' && n == m
  | .sx k e, .sx k' e' => k == k' && e.beq e'
  | .str s, .str t => s == t
  | .sxs s, .sxs t => expsBe s t
  | .ptr0, .ptr0 => true
  | .ptr b o, .ptr b' o' => Nat.beq b b' && Nat.beq o o'
  | .sl0, .sl0 => true
  | .sl b o n, .sl b' o' n' => Nat.beq b b' && Nat.beq o o' && Nat.beq n n'
  | .map0, .map0 => true
  | .map b, .map b' => Nat.beq b b'
  | .fn f a c, .fn g a' c' => f == g && beqs a a' && beqs c c'
  | .nilfn, .nilfn => true
  | .iface t v, .iface t' v' => Nat.beq t t' && v.beq v'
  | .nilif, .nilif => true
  | .agg cs, .agg cs' => beqs cs cs'
  | .tup cs, .tup cs' => beqs cs cs'
  | .any, .any => true
  | .anyb, .anyb => true
  | .pan x, .pan y => x.beq y
  | .yld b, .yld c => Nat.beq b c
  | _, _ => false
def beqs : List AV → List AV → Bool
  | [], [] => true
  | x :: xs, y :: ys => x.beq y && beqs xs ys
  | _, _ => false
end
def meetO : Option AV → Option AV → Option AV
  | some x, some y => cond (x.beq y) (some x) none
  | _, _ => none
def Tr.meet : Tr AV → Tr AV → Tr AV
  | .node v l r, .node v' l' r' => .node (meetO v v') (l.meet l') (r.meet r')
  | _, _ => .nil
def joinCells : List AV → List AV → Option (List AV)
  | [], [] => some []
  | x :: xs, y :: ys => match joinCells xs ys with
    | some zs => cond (x.beq y) (some (x :: zs)) (cond (x.flat && y.flat) (some (.any :: zs)) none)
    | none => none
  | _, _ => none
def Kind.beq : Kind → Kind → Bool
  | .free, .free | .old, .old | .map, .map => true
  | .tip n, .tip m => Nat.beq n m
  | _, _ => false
def joinObj (o p : Obj) : Option Obj :=
  cond (Nat.beq o.es p.es && o.kind.beq p.kind) (match o.kind.isMap with
    | true => cond (beqs o.cs p.cs) (some o) none
    | false => match joinCells o.cs p.cs with
      | some cs => some { o with cs := cs }
      | none => none) none
/-- blocks as they are behind both sides -/
def joinBlks (Ha Hb : Heap) : List Nat → Heap → Option Heap
  | [], H => some H
  | b :: bs, H => match Ha.get b, Hb.get b with
    | some o, some p => (match joinObj o p with
      | some q => joinBlks Ha Hb bs (H.put b q)
      | none => none)
    | none, none => joinBlks Ha Hb bs H
    | _, _ => none
def Heap.vacant (H : Heap) (bs : List Nat) : Bool := bs.all fun b => match H.get b with | none => true | some _ => false
def joinHeap (H Ha Hb : Heap) : Option Heap :=
  cond (H.vacant (List.range' H.next (max Ha.next Hb.next - H.next)))
    (match joinBlks Ha Hb (Ha.log ++ Hb.log ++ List.range' H.next (max Ha.next Hb.next - H.next)) H with
    | some K => some { K with next := max Ha.next Hb.next, log := Ha.log ++ Hb.log ++ H.log }
    | none => none) none
def joinSt (s sa sb : St) : Option St :=
  match joinHeap s.H sa.H sb.H with
  | some K => some { s with T := sa.T.meet sb.T, H := K }
  | none => none
/-- how many operations stand ahead of the first append -/
def aheadOf : List Oper → Nat
  | [] => 0
  | o :: os => match o.op with
    | .call { callee := .builtin .append, .. } => 0
    | _ => aheadOf os + 1
def aheadIn : Code → Nat
  | .region _ ops _ => aheadOf ops.toList
  | .seq a _ => aheadIn a
  | _ => 0
/-- one new cell, two stores into it in some order, and what lies there then -/
def coinA (C : Ctx) (ops : Array Oper) (s : St) : Option St :=
  match ops.toList with
  | [o0, o1, o2, o3] => match o0.op, o1.op, o2.op, o3.op with
    | .alloc t0, .store t1 (.tmp a1) (.const (.bool _)), .store t2 (.tmp a2) (.const (.bool _)), .load t3 (.tmp a3) => match o0.dst, o3.dst with
      | some a, some r =>
        cond (Nat.beq a1 a && Nat.beq a2 a && Nat.beq a3 a && !Nat.beq r a && o0.guard.isNone && o1.guard.isNone && o2.guard.isNone && o3.guard.isNone && o1.dst.isNone && o2.dst.isNone &&
          (binding o0).isEmpty && (binding o1 == [0]) && (binding o2 == [0]) && ((binding o3).contains 0 && (binding o3).contains 1 && (binding o3).contains 2 && (binding o3).all fun j => Nat.blt j 3) && Nat.blt a s.N && Nat.blt r s.N)
          (match C.ty t0, C.ty t1, C.ty t2, C.ty t3 with
          | some i0, some i1, some i2, some i3 => match i0.zero with
            | some [z] => cond (z.flat && !i1.isAgg && !i2.isAgg && !i3.isAgg && Nat.beq i1.size 1 && Nat.beq i2.size 1)
              (match ({ s.H with next := s.H.next + ops.size } : Heap).add s.H.next { cs := [.anyb], es := i0.size, kind := .free } with
                | some H' => some { s with T := (s.T.set a (.ptr s.H.next 0)).set r .anyb, H := H' }
                | none => none) none
            | _ => none
          | _, _, _, _ => none) none
      | _, _ => none
    | _, _, _, _ => none
  | _ => none

/-- what an operation of a region that draws its order has looked at, or written -/
structure Info where
  blk : Option Nat
  wr : List Nat
  st : Option (Nat × Nat × Nat)
/-- what a store writes: the block, the place, how many cells -/
def stOf (T : Tr AV) (o : Oper) : Option (Nat × Nat × Nat) :=
  match o.op with
  | .store _ a x => match ev T a, ev T x with | some (.ptr b off), some v => some (b, off, v.cells.length) | _, _ => none
  | _ => none
def farA : Option (Nat × Nat × Nat) → Option (Nat × Nat × Nat) → Bool
  | some (b, o, n), some (b', o', n') => !Nat.beq b b' || Nat.ble (o + n) o' || Nat.ble (o' + n') o
  | _, _ => false
def blkOf (T : Tr AV) (base i : Nat) (o : Oper) : Option Nat :=
  match o.op with
  | .load _ a => match ev T a with | some (.ptr b _) => some b | _ => none
  | .slice _ x _ _ _ => match ev T x with | some (.sl b _ _) => some b | _ => none
  | .convert _ _ x => match ev T x with | some (.sl b _ _) => some b | _ => none
  | .lookup _ m _ _ => match ev T m with | some (.map b) => some b | _ => none
  | .call { callee := .builtin .len, args, .. } => match evs T args.toList with | some (.map b :: _) => some b | _ => none
  | _ => cond (Nat.beq (clsOf o) 1) (some (base + i)) none
def evOneD (C : Ctx) (call : CallA) (ops : Array Oper) (base i : Nat) (s : St) : Option (St × Info × Option AV) :=
  match ops[i]? with
  | none => none
  | some o => match wantedA ops s.T o with
    | none => none
    | some false => match s.put o.dst undefA with
      | some s' => some (s', ⟨none, [], none⟩, none)
      | none => none
    | some true => match evOp C call s.H (base + i) s.T o with
      | some (v, H') => match ({ s with H := { H' with log := [] } } : St).put o.dst v with
        | some s' => some (s', ⟨blkOf s.T base i o, cond (Nat.beq (clsOf o) 3) H'.log [], stOf s.T o⟩, v.panics)
        | none => none
      | none => none
def evDead (ops : Array Oper) : List Nat → St → Option (St × List (Nat × Info))
  | [], s => some (s, [])
  | j :: js, s => match ops[j]? with
    | some o => match s.put o.dst undefA with
      | some s' => match evDead ops js s' with
        | some (s'', fs) => some (s'', (j, ⟨none, [], none⟩) :: fs)
        | none => none
      | none => none
    | none => none
/-- the operations of a region that draws its order, in one that is allowed; behind a panic nothing more is done: what is left has to come behind it in every order -/
def evOpsD (C : Ctx) (call : CallA) (ops : Array Oper) (base : Nat) (ms : List Nat) : List Nat → St → Option (St × List (Nat × Info) × Option (Nat × AV))
  | [], s => some (s, [], none)
  | i :: is, s => match evOneD C call ops base i s with
    | some (s', f, some x) => cond (effAt ops i && is.all fun j => bef ms j i) (match evDead ops is s' with
      | some (s'', fs) => some (s'', (i, f) :: fs, some (i, x))
      | none => none) none
    | some (s', f, none) => match evOpsD C call ops base ms is s' with
      | some (s'', fs, r) => some (s'', (i, f) :: fs, r)
      | none => none
    | none => none
def dynOk (ms : List Nat) (fs : List (Nat × Info)) : Bool :=
  fs.all fun x => match x.2.blk with
    | none => true
    | some b => fs.all fun y => cond (y.2.wr.contains b) (Nat.beq x.1 y.1 || ordered ms x.1 y.1) true
def looseDyn (ord : List Nat) (lo : Option Nat) (fs : List (Nat × Info)) : Bool :=
  match lo with
  | none => true
  | some _ => fs.all fun x => fs.all fun y => cond (loosePair ord lo x.1 y.1) (farA x.2.st y.2.st) true
/-- without what a region writes -/
def wipe : List Oper → Tr AV → Tr AV
  | [], T => T
  | o :: os, T => match o.dst with
    | some d => wipe os (T.setO d none)
    | none => wipe os T
def evDraw (C : Ctx) (call : CallA) (ops : Array Oper) (s : St) : Option (X × St) :=
  cond (staticOk ops (masks ops) (orderOf ops) (looseAt ops (masks ops) (orderOf ops)))
    (match evOpsD C call ops s.H.next (masks ops) (orderOf ops) { s with H := { s.H with next := s.H.next + ops.size, log := [] } } with
    | some (s', fs, r) => cond (dynOk (masks ops) fs && (r.isSome || looseDyn (orderOf ops) (looseAt ops (masks ops) (orderOf ops)) fs))
        (some (match r with
          | some (_, x) => (.panic x, { s with T := wipe ops.toList s.T, H := { s'.H with log := fs.flatMap (fun x => x.2.wr) ++ s.H.log } })
          | none => (.normal, { s' with H := { s'.H with log := fs.flatMap (fun x => x.2.wr) ++ s.H.log } }))) none
    | none => none) none

/-! ### loops over functions -/
def LState.beq : LState → LState → Bool
  | .ready, .ready | .busy, .busy | .dead, .dead => true
  | _, _ => false
/-- the record of a loop comes into another state -/
def setLoop (H : Heap) (b : Nat) (p q : LState) : Option Heap :=
  match H.get b with
  | some o => match o.kind with
    | .loop st L => cond (st.beq p) (some (H.write b { o with kind := .loop q L })) none
    | _ => none
  | none => none
def enterP : List Nat → List AV → Tr AV → Tr AV
  | p :: ps, v :: vs, T => enterP ps vs (T.set p v)
  | _, _, T => T
def allBelow (N : Nat) : List Nat → Bool
  | [] => true
  | p :: ps => Nat.blt p N && allBelow N ps
/-- a round: the left sides, then the body; only one that ends so is run -/
def roundA (run : Code → St → Option (X × St)) : YCall := fun H b vs =>
  match H.get b with
  | some o => match o.kind with
    | .loop .ready L => cond (Nat.beq vs.length L.ps.length && allBelow L.N L.ps)
      (match run L.assign { T := enterP L.ps vs L.T, N := L.N, H := H } with
      | some (.normal, s1) => (match setLoop s1.H b .ready .busy with
        | some H1 => (match run L.body { s1 with H := H1 } with
          | some (.normal, s2) => setLoop s2.H b .busy .ready
          | _ => none)
        | none => none)
      | _ => none) none
    | _ => none
  | none => none

/-- no operation defers -/
def noDefer (ops : Array Oper) : Bool := ops.toList.all fun o => match o.op with | .defer _ => false | _ => true

mutual
def evCode (C : Ctx) (call : CallA) : Nat → Code → St → Option (X × St)
  | 0, _, _ => none
  | n + 1, c, s =>
    match c with
    | .skip => some (.normal, s)
    | .region _ ops draw => cond (noDefer ops) (match draw with
      | false => s.cut fun T N H => evOps C call (roundA (evCode C call n)) ops H.next 0 ops.toList ⟨T, N, { H with next := H.next + ops.size }⟩
      | true => (match coinA C ops s with
        | some s' => some (.normal, s')
        | none => evDraw C call ops s)) none
    | .seq a b => match evCode C call n a s with
      | some (.normal, s') => evCode C call n b s'
      | r => r
    | .cond x a b => match ev s.T x with
      | some (.bool true) => evCode C call n a s
      | some (.bool false) => evCode C call n b s
      | some .anyb => (match evCode C call n a { s with H := { s.H with next := s.H.next + (aheadIn b - aheadIn a), log := [] } }, evCode C call n b { s with H := { s.H with log := [] } } with
        | some (.normal, sa), some (.normal, sb) => (match joinSt s sa sb with
          | some s' => some (.normal, s')
          | none => none)
        | _, _ => none)
      | _ => none
    | .block id b => match evCode C call n b s with
      | some (.exit i, s') => some (cond (Nat.beq i id) .normal (.exit i), s')
      | r => r
    | .loop b => evLoop C call n b s
    | .exit id => some (.exit id, s)
    | .label _ => some (.normal, s)
    | .ret => some (.ret, s)
    | .rangeFunc f ps assign body => cond C.loops (match ev s.T f with
      | some (.fn (.func g) first captured) => (match ({ s.H with next := s.H.next + 1 } : Heap).add s.H.next { cs := [], es := 0, kind := .loop .ready ⟨s.T, s.N, ps.toList, assign, body⟩ } with
        | some H1 => (match call H1 g (first ++ [.yld s.H.next] ++ captured) with
          | some (.pan _, _) => none
          | some (_, H2) => (match setLoop H2 s.H.next .ready .dead with
            | some H3 => some (.normal, { s with H := H3 })
            | none => none)
          | none => none)
        | none => none)
      | _ => none) none
    | _ => none
def evLoop (C : Ctx) (call : CallA) : Nat → Code → St → Option (X × St)
  | 0, _, _ => none
  | n + 1, b, s => match evCode C call n b s with
    | some (.normal, s') => evLoop C call n b s'
    | r => r
end

def enterT : Nat → List AV → Tr AV → Tr AV
  | _, [], T => T
  | i, v :: vs, T => enterT (i + 1) vs (T.set i v)

def resultA (C : Ctx) (s : St) : ResultVar → Option AV
  | .tmp t => s.T.get t
  | .cell a t => match s.T.get a with
    | some v => evLoad C s.H t v
    | none => none
def resultsA (C : Ctx) (s : St) : List ResultVar → Option (List AV)
  | [] => some []
  | r :: rs => match resultA C s r, resultsA C s rs with
    | some v, some vs => some (v :: vs)
    | _, _ => none
def shut : List AV → AV
  | [v] => v
  | vs => .tup vs

/-! ### functions that defer one call -/
/-- an operation that defers a call of no arguments: what it calls -/
def lateOf (o : Oper) : Option Operand :=
  match o.op with
  | .defer c => match c.callee with
    | .value f => cond (c.args.toList.isEmpty && o.guard.isNone && o.dst.isNone) (some f) none
    | _ => none
  | _ => none
/-- a body that begins so: some code, then a region whose last operation defers -/
def lateForm : Code → Option (Code × Array Oper × List Oper × Operand × Code)
  | .seq a (.seq (.region _ ops false) b) => match ops.toList.reverse with
    | o :: os => match lateOf o with
      | some f => some (a, ops, os.reverse, f, b)
      | none => none
    | [] => none
  | _ => none
/-- an operation that asks for the panic's value -/
def recOf (o : Oper) : Option Tmp :=
  match o.op with
  | .call c => match c.callee with
    | .builtin .recover => cond o.guard.isNone o.dst none
    | _ => none
  | _ => none
/-- the log of a call, for its caller -/
def Heap.back (H K : Heap) : Heap := { K with log := K.log.filter (fun b => (H.get b).isSome) ++ H.log }
/-- a deferred call of a function that begins by asking for the panic's value, which is r -/
def evLate (C : Ctx) (call : CallA) (n : Nat) (H : Heap) (g : FuncId) (args : List AV) (r : AV) : Option Heap :=
  match C.fn g with
  | some fn => match fn.body with
    | some (.seq (.region _ ops false) rest) => match ops.toList with
      | o :: os => match recOf o with
        | some d => cond (Nat.ble args.length fn.ntmps && Nat.blt d fn.ntmps)
          (match evOps C call noY ops H.next 1 os { T := (enterT 0 args .nil).set d r, N := fn.ntmps, H := { H with next := H.next + ops.size, log := [] } } with
          | some (.normal, s1) => match evCode C call n rest s1 with
            | some (.normal, s2) => (match resultsA C s2 fn.results.toList with
              | some _ => some (H.back s2.H)
              | none => none)
            | some (.ret, s2) => (match resultsA C s2 fn.results.toList with
              | some _ => some (H.back s2.H)
              | none => none)
            | _ => none
          | _ => none) none
        | none => none
      | [] => none
    | _ => none
  | none => none
/-- what such a function hands back: s is the state behind all but the deferred call -/
def evShut (C : Ctx) (call : CallA) (n : Nat) (H : Heap) (fn : Func) (f : AV) (r : AV) (s : St) : Option (AV × Heap) :=
  match f with
  | .fn (.func g) first captured => match evLate C call n s.H g (first ++ captured) r with
    | some K => match resultsA C { s with H := K } fn.results.toList with
      | some vs => some (shut vs, H.back K)
      | none => none
    | none => none
  | _ => none
def evDefer (C : Ctx) (call : CallA) (n : Nat) (H : Heap) (fn : Func) (args : List AV) (F : Code × Array Oper × List Oper × Operand × Code) : Option (AV × Heap) :=
  match evCode C call n F.1 { T := enterT 0 args .nil, N := fn.ntmps, H := { H with log := [] } } with
  | some (.normal, s1) => match evOps C call noY F.2.1 s1.H.next 0 F.2.2.1 { s1 with H := { s1.H with next := s1.H.next + F.2.1.size } } with
    | some (.normal, s2) => match ev s2.T F.2.2.2.1 with
      | some f => match evCode C call n F.2.2.2.2 s2 with
        | some (.panic v, s3) => evShut C call n H fn f v s3
        | some (.normal, s3) => evShut C call n H fn f .nilif s3
        | some (.ret, s3) => evShut C call n H fn f .nilif s3
        | _ => none
      | none => none
    | _ => none
  | _ => none

/-- what a call hands back, by the given functions where they speak -/
def evFun (C : Ctx) (prim : CallA) : Nat → CallA
  | 0, _, _, _ => none
  | n + 1, H, f, args =>
    match prim H f args with
    | some r => some r
    | none =>
      match C.fn f with
      | some fn => match fn.body with
        | some code => cond (Nat.ble args.length fn.ntmps)
          (match lateForm code with
          | some F => evDefer { C with loops := false } (evFun C prim n) n H fn args F
          | none => match evCode C (evFun C prim n) n code { T := enterT 0 args .nil, N := fn.ntmps, H := { H with log := [] } } with
            | some (.exit _, _) => none
            | some (.panic x, s) => some (.pan x, H.back s.H)
            | some (_, s) => match resultsA C s fn.results.toList with
              | some vs => some (shut vs, H.back s.H)
              | none => none
            | none => none) none
        | none => none
      | none => none
end
end Go.Ev
namespace Go.Ev
noncomputable section
open Go Go.RowKit
variable [Env]

/-- keys and values by turns -/
def MR (ι : Map) : List AV → List MapEntry → Prop
  | [], es => es = []
  | [_], _ => False
  | k :: v :: r, es => ∃ e es', es = e :: es' ∧ VR ι k e.key ∧ VR ι v e.val ∧ MR ι r es'
theorem MR.ext {ι ι' : Map} (h : Ext ι ι') : ∀ {cs : List AV} {es : List MapEntry}, MR ι cs es → MR ι' cs es
  | [], es, r => r
  | [_], es, r => r.elim
  | k :: v :: r, es, m => by obtain ⟨e, es', h1, h2, h3, h4⟩ := m; exact ⟨e, es', h1, h2.ext h, h3.ext h, MR.ext h h4⟩

def CellsR (ι : Map) (w : World) (l : Loc) (o : Obj) : Prop := ∃ c et lo hi, w.heap[l.blk]? = some (.cells c et (lo, hi)) ∧ c.size = l.room ∧ (∀ i, i < l.room → ¬ (lo ≤ i ∧ i < hi)) ∧
    l.es = o.es ∧ l.shift + o.cs.length ≤ l.room ∧ ∀ (i : Nat) (x : AV), o.cs[i]? = some x → ∃ v, c[l.shift + i]? = some v ∧ VR ι x v
def MapR (ι : Map) (w : World) (l : Loc) (o : Obj) : Prop := ∃ es clock, w.heap[l.blk]? = some (.map es clock) ∧ MR ι o.cs es.toList
/-- a loop's record -/
def LoopR (ι : Map) (w : World) (l : Loc) (st : LState) (L : LoopA) : Prop := ∃ r, w.heap[l.blk]? = some (.loop r) ∧ match st with
  | .dead => True
  | .ready => r.state = .ready ∧ r.pending = none ∧ r.params.toList = L.ps ∧ r.assign = L.assign ∧ r.body = L.body ∧ r.tmps.size = L.N ∧ ∀ t x, L.T.get t = some x → ∃ v, r.tmps[t]? = some v ∧ VR ι x v
  | .busy => r.state = .busy ∧ r.pending = none ∧ r.params.toList = L.ps ∧ r.assign = L.assign ∧ r.body = L.body ∧ r.tmps.size = L.N ∧ ∀ t x, L.T.get t = some x → ∃ v, r.tmps[t]? = some v ∧ VR ι x v
/-- a block is what its object says -/
def Blk (ι : Map) (w : World) (l : Loc) (o : Obj) : Prop := match o.kind with
  | .map => MapR ι w l o
  | .loop st L => LoopR ι w l st L
  | _ => CellsR ι w l o
theorem LoopR.mono {ι ι' : Map} {w w' : World} {l : Loc} {st : LState} {L : LoopA} (h : LoopR ι w l st L) (he : Ext ι ι') (hb : w'.heap[l.blk]? = w.heap[l.blk]?) : LoopR ι' w' l st L := by
  obtain ⟨r, h1, h2⟩ := h
  refine ⟨r, by rw [hb]; exact h1, ?_⟩
  cases st
  · obtain ⟨k1, k2, k3, k4, k5, k6, k7⟩ := h2
    exact ⟨k1, k2, k3, k4, k5, k6, fun t x hx => by obtain ⟨v, hv, q⟩ := k7 t x hx; exact ⟨v, hv, q.ext he⟩⟩
  · obtain ⟨k1, k2, k3, k4, k5, k6, k7⟩ := h2
    exact ⟨k1, k2, k3, k4, k5, k6, fun t x hx => by obtain ⟨v, hv, q⟩ := k7 t x hx; exact ⟨v, hv, q.ext he⟩⟩
  · trivial
theorem Blk.cells {ι : Map} {w : World} {l : Loc} {o : Obj} (h : Blk ι w l o) (hk : o.kind.isMap = false) : CellsR ι w l o := by
  unfold Blk at h; cases q : o.kind <;> rw [q] at h hk <;> first | exact h | cases hk
theorem Blk.of_cells {ι : Map} {w : World} {l : Loc} {o : Obj} (hk : o.kind.isMap = false) (h : CellsR ι w l o) : Blk ι w l o := by
  unfold Blk; cases q : o.kind <;> rw [q] at hk <;> first | exact h | cases hk
theorem Blk.map {ι : Map} {w : World} {l : Loc} {o : Obj} (h : Blk ι w l o) (hk : o.kind.isTab = true) : MapR ι w l o := by
  unfold Blk at h; cases q : o.kind <;> rw [q] at h hk <;> first | exact h | cases hk
theorem Blk.of_map {ι : Map} {w : World} {l : Loc} {o : Obj} (hk : o.kind.isTab = true) (h : MapR ι w l o) : Blk ι w l o := by
  unfold Blk; cases q : o.kind <;> rw [q] at hk <;> first | exact h | cases hk
theorem Blk.loop {ι : Map} {w : World} {l : Loc} {o : Obj} (h : Blk ι w l o) {st : LState} {L : LoopA} (hk : o.kind = .loop st L) : LoopR ι w l st L := by
  unfold Blk at h; rw [hk] at h; exact h
theorem Blk.of_loop {ι : Map} {w : World} {l : Loc} {o : Obj} {st : LState} {L : LoopA} (hk : o.kind = .loop st L) (h : LoopR ι w l st L) : Blk ι w l o := by
  unfold Blk; rw [hk]; exact h
omit [Env] in
theorem Kind.not_loop {k : Kind} (h : k.isMap = false) (h2 : k.isLoop = true) : False := by cases k <;> first | (cases h; done) | (cases h2; done)
omit [Env] in
theorem Kind.three (k : Kind) : k.isMap = false ∨ k.isTab = true ∨ ∃ st L, k = .loop st L := by
  cases k with
  | loop st L => exact .inr (.inr ⟨st, L, rfl⟩)
  | map => exact .inr (.inl rfl)
  | _ => exact .inl rfl
theorem Blk.lt {ι : Map} {w : World} {l : Loc} {o : Obj} (h : Blk ι w l o) : l.blk < w.heap.size := by
  rcases o.kind.three with hk | hk | ⟨st, L, hk⟩
  · obtain ⟨c, et, lo, hi, h1, _⟩ := h.cells hk; exact (Array.getElem?_eq_some_iff.1 h1).1
  · obtain ⟨es, clock, h1, _⟩ := h.map hk; exact (Array.getElem?_eq_some_iff.1 h1).1
  · obtain ⟨r, h1, _⟩ := h.loop hk; exact (Array.getElem?_eq_some_iff.1 h1).1
theorem Blk.mono {ι ι' : Map} {w w' : World} {l : Loc} {o : Obj} (h : Blk ι w l o) (he : Ext ι ι') (hb : w'.heap[l.blk]? = w.heap[l.blk]?) : Blk ι' w' l o := by
  rcases o.kind.three with hk | hk | ⟨st, L, hk⟩
  · obtain ⟨c, et, lo, hi, h1, h2, h3, h4, h5, h6⟩ := h.cells hk
    exact .of_cells hk ⟨c, et, lo, hi, by rw [hb]; exact h1, h2, h3, h4, h5, fun i x hx => by obtain ⟨v, hv, r⟩ := h6 i x hx; exact ⟨v, hv, r.ext he⟩⟩
  · obtain ⟨es, clock, h1, h2⟩ := h.map hk; exact .of_map hk ⟨es, clock, by rw [hb]; exact h1, h2.ext he⟩
  · exact .of_loop hk ((h.loop hk).mono he hb)
omit [Env] in
theorem Heap.cells_eq {H : Heap} {b : Nat} {o : Obj} (h : H.cells b = some o) : H.get b = some o ∧ o.kind.isMap = false := by
  unfold Heap.cells at h
  split at h
  · rename_i x e
    cases hk : x.kind.isMap with
    | true => rw [hk] at h; cases h
    | false => rw [hk] at h; cases h; exact ⟨e, hk⟩
  · cases h
omit [Env] in
theorem Heap.cells_get {H H2 : Heap} {b : Nat} (h : H2.get b = H.get b) : H2.cells b = H.cells b := by unfold Heap.cells; rw [h]

/-- the world holds what the abstract heap says -/
structure WR (ι : Map) (H : Heap) (w : World) : Prop where
  obj : ∀ b l o, ι b = some l → H.get b = some o → Blk ι w l o
  apart : ∀ b1 b2 l1 l2 o1 o2, b1 ≠ b2 → ι b1 = some l1 → ι b2 = some l2 → H.get b1 = some o1 → H.get b2 = some o2 → l1.blk = l2.blk →
    o1.kind.isFree = false ∧ o2.kind.isFree = false ∧ (o1.kind.isOld = false → o2.kind.isOld = true ∧ l2.shift + o2.cs.length ≤ l1.shift + o1.kind.own ∧ o1.kind.own ≤ o1.cs.length)
  new : ∀ b, H.next ≤ b → ι b = none
  vis : ∀ b l, ι b = some l → H.get b ≠ none
  glob : ∀ b l, Env.gl b = some l → ι b = some l

theorem WR.cells {ι : Map} {H : Heap} {w : World} (h : WR ι H w) {b : Nat} {l : Loc} {o : Obj} (hb : ι b = some l) (ho : H.cells b = some o) : CellsR ι w l o :=
  (h.obj b l o hb (Heap.cells_eq ho).1).cells (Heap.cells_eq ho).2

/-- one step of whatever size; 'ids' are the numbers that were kept for it -/
structure Step (ids : Nat → Prop) (ι : Map) (H : Heap) (w : World) (ι' : Map) (H' : Heap) (w' : World) : Prop where
  ext : Ext ι ι'
  wr : WR ι' H' w'
  next : H.next ≤ H'.next
  dom : ∀ b, ι b = none → ι' b ≠ none → ids b ∨ H.next ≤ b
  keep : ∀ b, H.get b ≠ none → H'.get b ≠ none
  junk : ∀ b l, ι b = some l → H'.get b ≠ none → H.get b ≠ none
  os : w'.os = w.os
  tape : w'.tape = w.tape
  output : w'.output = w.output
  size : w.heap.size ≤ w'.heap.size
  stay : ∀ b l o o', ι b = some l → H.get b = some o → H'.get b = some o' → (o.kind.isOld = true → o'.kind.isOld = true) ∧ (o.kind.isLoop = true → o'.kind.isLoop = true)
  frame : ∀ c, c < w.heap.size → (∀ b l o, ι b = some l → H.get b = some o → o.kind.isOld = false → l.blk ≠ c) → w'.heap[c]? = w.heap[c]?
  fresh : ∀ b l, ι b = none → ι' b = some l → w.heap.size ≤ l.blk ∨ ∃ b0 l0 o0, ι b0 = some l0 ∧ H.get b0 = some o0 ∧ o0.kind.isOld = false ∧ l0.blk = l.blk

theorem Step.refl {ids : Nat → Prop} {ι : Map} {H : Heap} {w : World} (h : WR ι H w) : Step ids ι H w ι H w :=
  ⟨Ext.refl _, h, Nat.le_refl _, fun _ h k => (k h).elim, fun _ h => h, fun _ _ _ h => h, rfl, rfl, rfl, Nat.le_refl _, fun _ _ o o' _ g g' => by rw [g] at g'; cases g'; exact ⟨fun h => h, fun h => h⟩, fun _ _ _ => rfl, fun _ _ h k => by rw [h] at k; cases k⟩

theorem Step.trans {i1 i2 ids : Nat → Prop} {ι ι1 ι2 : Map} {H H1 H2 : Heap} {w w1 w2 : World} (h1 : ∀ b, i1 b → ids b) (h2 : ∀ b, i2 b → ids b)
    (h : Step i1 ι H w ι1 H1 w1) (k : Step i2 ι1 H1 w1 ι2 H2 w2) : Step ids ι H w ι2 H2 w2 where
  ext := h.ext.trans k.ext
  wr := k.wr
  next := Nat.le_trans h.next k.next
  dom b hb hn := by
    by_cases e : ι1 b = none
    · rcases k.dom b e hn with q | q
      · exact .inl (h2 b q)
      · exact .inr (Nat.le_trans h.next q)
    · rcases h.dom b hb e with q | q
      · exact .inl (h1 b q)
      · exact .inr q
  keep b hb := k.keep b (h.keep b hb)
  junk b l hb hn := h.junk b l hb (k.junk b l (h.ext b l hb) hn)
  os := k.os.trans h.os
  tape := k.tape.trans h.tape
  output := k.output.trans h.output
  size := Nat.le_trans h.size k.size
  stay b l o o' hb g g' := by
    cases e : H1.get b with
    | none => exact (h.keep b (by rw [g]; simp) e).elim
    | some o1 =>
      have k1 := h.stay b l o o1 hb g e
      have k2 := k.stay b l o1 o' (h.ext b l hb) e g'
      exact ⟨fun q => k2.1 (k1.1 q), fun q => k2.2 (k1.2 q)⟩
  frame c hc hf := by
    rw [k.frame c (Nat.lt_of_lt_of_le hc h.size), h.frame c hc hf]
    intro b l o1 hb hg ho
    cases e : ι b with
    | some l' =>
      have := h.ext b l' e; rw [hb] at this; cases this
      cases g : H.get b with
      | none => exact (h.junk b l e (by rw [hg]; simp) g).elim
      | some o =>
        refine hf b l o e g ?_
        cases q : o.kind.isOld with
        | false => rfl
        | true => have := (h.stay b l o o1 e g hg).1 q; rw [ho] at this; cases this
    | none =>
      rcases h.fresh b l e hb with q | ⟨b0, l0, o0, e0, g0, k0, q⟩
      · omega
      · rw [← q]; exact hf b0 l0 o0 e0 g0 k0
  fresh b l hb hl := by
    cases e : ι1 b with
    | some l' =>
      have := k.ext b l' e; rw [hl] at this; cases this
      exact h.fresh b l hb e
    | none =>
      rcases k.fresh b l e hl with q | ⟨b0, l0, o0, e0, g0, k0, q⟩
      · exact .inl (Nat.le_trans h.size q)
      · cases e1 : ι b0 with
        | some l' =>
          have := h.ext b0 l' e1; rw [e0] at this; cases this
          cases g : H.get b0 with
          | none => exact (h.junk b0 l0 e1 (by rw [g0]; simp) g).elim
          | some o =>
            refine .inr ⟨b0, l0, o, e1, g, ?_, q⟩
            cases q2 : o.kind.isOld with
            | false => rfl
            | true => have := (h.stay b0 l0 o o0 e1 g g0).1 q2; rw [k0] at this; cases this
        | none =>
          rcases h.fresh b0 l0 e1 e0 with r | ⟨b3, l3, o3, e3, g3, k3, r⟩
          · exact .inl (by omega)
          · exact .inr ⟨b3, l3, o3, e3, g3, k3, r.trans q⟩

theorem Step.weaken {i1 ids : Nat → Prop} {ι ι1 : Map} {H H1 : Heap} {w w1 : World} (h1 : ∀ b, i1 b → ids b) (h : Step i1 ι H w ι1 H1 w1) : Step ids ι H w ι1 H1 w1 :=
  { h with dom := fun b hb hn => (h.dom b hb hn).imp (h1 b) id }

/-! ### the world's side -/
omit [Env] in
theorem heap_setCell_at (w : World) (b o : Nat) (v : Value) (c : Array Value) (et : TypeId) (fr : Nat × Nat) (h : w.heap[b]? = some (.cells c et fr)) :
    (w.setCell ⟨b, o, none⟩ v).heap[b]? = some (.cells (c.setIfInBounds o v) et fr) := by
  simp [World.setCell, Array.getElem?_modify, h]

omit [Env] in
theorem setCells_block (b : Nat) (et : TypeId) (fr : Nat × Nat) : ∀ (vs : List Value) (o : Nat) (w : World) (c : Array Value), w.heap[b]? = some (.cells c et fr) → o + vs.length ≤ c.size →
    ∃ c', (w.setCells b o vs).heap[b]? = some (.cells c' et fr) ∧ c'.size = c.size ∧ ∀ j, c'[j]? = if o ≤ j ∧ j < o + vs.length then vs[j - o]? else c[j]?
  | [], o, w, c, h, _ => ⟨c, h, rfl, fun j => by rw [if_neg (by simp only [List.length_nil]; omega)]⟩
  | v :: vs, o, w, c, h, hl => by
    obtain ⟨c', h1, h2, h3⟩ := setCells_block b et fr vs (o + 1) (w.setCell ⟨b, o, none⟩ v) (c.setIfInBounds o v) (heap_setCell_at w b o v c et fr h) (by simp at hl ⊢; omega)
    refine ⟨c', h1, by simpa using h2, fun j => ?_⟩
    rw [h3 j]
    by_cases e : o + 1 ≤ j ∧ j < o + 1 + vs.length
    · rw [if_pos e, if_pos (by simp; omega)]
      have : j - o = (j - (o + 1)) + 1 := by omega
      rw [this]; simp
    · rw [if_neg e]
      by_cases e2 : j = o
      · subst e2
        have hjc : j < c.size := by simp at hl; omega
        rw [if_pos (by simp)]; simp [hjc]
      · rw [if_neg (by simp; omega), Array.getElem?_setIfInBounds_ne (by omega)]

omit [Env] in
theorem setCells_other (b : Nat) : ∀ (vs : List Value) (o : Nat) (w : World) (k : Nat), k ≠ b → (w.setCells b o vs).heap[k]? = w.heap[k]?
  | [], _, _, _, _ => rfl
  | v :: vs, o, w, k, h => by rw [World.setCells, setCells_other b vs (o + 1) _ k h, Below.heap_setCell _ _ _ _ (by simpa using h)]
omit [Env] in
theorem setCells_size (b : Nat) : ∀ (vs : List Value) (o : Nat) (w : World), (w.setCells b o vs).heap.size = w.heap.size
  | [], _, _ => rfl
  | v :: vs, o, w => by rw [World.setCells, setCells_size b vs (o + 1)]; simp [World.setCell]
omit [Env] in
theorem setCells_rest (b : Nat) : ∀ (vs : List Value) (o : Nat) (w : World), (w.setCells b o vs).os = w.os ∧ (w.setCells b o vs).tape = w.tape ∧ (w.setCells b o vs).output = w.output
  | [], _, _ => ⟨rfl, rfl, rfl⟩
  | v :: vs, o, w => by rw [World.setCells]; exact setCells_rest b vs (o + 1) _

omit [Env] in
theorem Heap.get_put (H : Heap) (b : Nat) (o : Obj) (j : Nat) : (H.put b o).get j = if j = b then some o else H.get j := Tr.get_set _ _ _ _
omit [Env] in
theorem Heap.next_put (H : Heap) (b : Nat) (o : Obj) : (H.put b o).next = H.next := rfl
omit [Env] in
theorem Heap.add_eq {H H' : Heap} {b : Nat} {o : Obj} (h : H.add b o = some H') : H.get b = none ∧ H' = H.put b o := by
  unfold Heap.add at h
  cases e : H.get b with
  | none => rw [e] at h; cases h; exact ⟨rfl, rfl⟩
  | some x => rw [e] at h; cases h

/-- a new row in the world, a new block in the abstract heap -/
theorem step_new {ι : Map} {H H' : Heap} {w : World} {id : Nat} {cs : List AV} {es : Nat} (hw : WR ι H w) (hid : ι id = none) (hn : id < H.next) {kind : Kind} (hkm : kind.isMap = false)
    (h : H.add id { cs, es, kind } = some H') (c : Array Value) (et : TypeId) (hsz : cs.length ≤ c.size) (hc : ∀ (i : Nat) (x : AV), cs[i]? = some x → ∃ v, c[i]? = some v ∧ VR ι x v) (w0 : World) (hw0 : w0.heap = w.heap)
    (hos : w0.os = w.os) (htape : w0.tape = w.tape) (hout : w0.output = w.output) :
    Step (· = id) ι H w (fun b => if b = id then some ⟨w.heap.size, 0, c.size, es⟩ else ι b) H' { w0 with heap := w0.heap.push (.cells c et) } := by
  obtain ⟨hg, rfl⟩ := Heap.add_eq h
  have hext : Ext ι (fun b => if b = id then some ⟨w.heap.size, 0, c.size, es⟩ else ι b) := fun b l hb => by
    have : b ≠ id := fun e => by rw [e, hid] at hb; cases hb
    simp [this, hb]
  have hlt : ∀ b l o, ι b = some l → H.get b = some o → l.blk < w.heap.size := fun b l o hb ho => by
    exact (hw.obj b l o hb ho).lt
  refine ⟨hext, ⟨?_, ?_, ?_, ?_, fun b l h => hext b l (hw.glob b l h)⟩, Nat.le_refl _, ?_, ?_, ?_, hos, htape, hout, by simp [hw0], fun b l o o' hb g g' => ?_, ?_, ?_⟩
  · intro b l o hb ho
    rw [Heap.get_put] at ho
    by_cases e : b = id
    · subst e
      simp at hb ho
      subst hb ho
      refine .of_cells hkm ⟨c, et, 0, 0, by simp [hw0], rfl, by omega, rfl, by simpa using hsz, fun i x hx => ?_⟩
      obtain ⟨v, hv, r⟩ := hc i x hx
      exact ⟨v, by simpa using hv, r.ext hext⟩
    · simp only [e, if_false] at hb ho
      refine (hw.obj b l o hb ho).mono hext ?_
      have := hlt b l o hb ho
      simp only [hw0]
      rw [Array.getElem?_push, if_neg (by omega)]
  · intro b1 b2 l1 l2 o1 o2 hne e1 e2 g1 g2 hb
    rw [Heap.get_put] at g1 g2
    by_cases q1 : b1 = id
    · have q2 : b2 ≠ id := fun e => hne (q1.trans e.symm)
      simp only [q1, if_true] at e1; simp only [q2, if_false] at e2 g2
      cases e1
      have := hlt b2 l2 o2 e2 g2
      simp at hb; omega
    · by_cases q2 : b2 = id
      · simp only [q2, if_true] at e2; simp only [q1, if_false] at e1 g1
        cases e2
        have := hlt b1 l1 o1 e1 g1
        simp at hb; omega
      · simp only [q1, q2, if_false] at e1 e2 g1 g2
        exact hw.apart b1 b2 l1 l2 o1 o2 hne e1 e2 g1 g2 hb
  · intro b hb
    have : b ≠ id := by have := Heap.next_put H id { cs, es, kind }; omega
    simp only [this, if_false]; exact hw.new b hb
  · intro b l hb; rw [Heap.get_put]; split
    · simp
    · rename_i e; simp only [e, if_false] at hb; exact hw.vis b l hb
  · intro b hb hn'
    by_cases e : b = id
    · exact .inl e
    · simp [e, hb] at hn'
  · intro b hb; rw [Heap.get_put]; split
    · simp
    · exact hb
  · intro b l hb hg'; rw [Heap.get_put] at hg'
    have : b ≠ id := fun e => by rw [e, hid] at hb; cases hb
    simpa [this] using hg'
  · rw [Heap.get_put, if_neg (fun e => by rw [e, hid] at hb; cases hb), g] at g'
    cases g'; exact ⟨fun h => h, fun h => h⟩
  · intro k hk _
    simp only [hw0]
    rw [Array.getElem?_push, if_neg (by omega)]
  · intro b l hb hl
    by_cases e : b = id
    · simp [e] at hl; subst hl; exact .inl (Nat.le_refl _)
    · simp [e, hb] at hl

/-- a part of a block is written anew -/
theorem step_store {ids : Nat → Prop} {ι : Map} {H : Heap} {w : World} {b : Nat} {l : Loc} {ob : Obj} (hw : WR ι H w) (hb : ι b = some l) (hoc : H.cells b = some ob)
    (o : Nat) (hf : ob.kind.lets o = true) (xs : List AV) (vs : List Value) (hx : VRs ι xs vs) (hl : o + xs.length ≤ ob.cs.length) :
    Step ids ι H w ι (H.put b { ob with cs := splice ob.cs o xs }) (w.setCells l.blk (l.shift + o) vs) := by
  obtain ⟨c, et, lo, hi, h1, h2, h3, h4, h5, h6⟩ := hw.cells hb hoc
  obtain ⟨ho, hkm⟩ := Heap.cells_eq hoc
  have hno : ob.kind.isOld = false := by cases hk : ob.kind <;> rw [hk] at hf <;> first | rfl | cases hf
  have hown : ob.kind.isFree = false → ob.kind.own ≤ o := fun hk => by
    cases hk2 : ob.kind with
    | free => rw [hk2] at hk; cases hk
    | tip n => rw [hk2] at hf; simpa [Kind.lets, Kind.own] using hf
    | old => rw [hk2] at hf; cases hf
    | map => rw [hk2] at hf; cases hf
    | loop st L => rw [hk2] at hf; cases hf
  have hlen := hx.len
  have hsl : (splice ob.cs o xs).length = ob.cs.length := by simp [splice]; omega
  obtain ⟨c', k1, k2, k3⟩ := setCells_block l.blk et (lo, hi) vs (l.shift + o) w c h1 (by omega)
  refine ⟨Ext.refl _, ⟨?_, ?_, ?_, ?_, hw.glob⟩, Nat.le_refl _, fun _ h k => (k h).elim, ?_, ?_, (setCells_rest _ _ _ _).1, (setCells_rest _ _ _ _).2.1, (setCells_rest _ _ _ _).2.2, by rw [setCells_size]; exact Nat.le_refl _, fun b1 l1 o1 o' _ g g' => ?_, ?_, fun _ _ h k => by rw [h] at k; cases k⟩
  · intro b1 l1 o1 e1 g1
    rw [Heap.get_put] at g1
    by_cases q : b1 = b
    · subst q
      rw [hb] at e1; cases e1
      simp only [if_true] at g1; cases g1
      refine .of_cells hkm ⟨c', et, lo, hi, k1, k2.trans h2, h3, h4, by simp only [hsl]; exact h5, fun i x hi' => ?_⟩
      simp only at hi'
      rw [k3]
      have hix : i < ob.cs.length := by rw [← hsl]; exact (List.getElem?_eq_some_iff.1 hi').1
      by_cases q2 : o ≤ i ∧ i < o + xs.length
      · rw [if_pos (by omega)]
        have hxi : xs[i - o]? = some x := by
          rw [← hi', splice, List.append_assoc, List.getElem?_append_right (by simp; omega), List.getElem?_append_left (by simp; omega)]
          simp; congr 1; omega
        obtain ⟨v, hv, r⟩ := hx.get hxi
        exact ⟨v, by rw [← hv]; congr 1; omega, r⟩
      · rw [if_neg (by omega)]
        refine h6 i x ?_
        rw [← hi', splice, List.append_assoc]
        by_cases q3 : i < o
        · rw [List.getElem?_append_left (by simp; omega), List.getElem?_take, if_pos q3]
        · rw [List.getElem?_append_right (by simp; omega), List.getElem?_append_right (by simp; omega), List.getElem?_drop]
          congr 1; simp; omega
    · simp only [q, if_false] at g1
      by_cases heq : l1.blk = l.blk
      · obtain ⟨r1, r2, r3⟩ := hw.apart b b1 l l1 ob o1 (Ne.symm q) hb e1 ho g1 heq.symm
        obtain ⟨r4, r5, r6⟩ := r3 hno
        have hk1 : o1.kind.isMap = false := by cases hk : o1.kind <;> rw [hk] at r4 <;> first | rfl | cases r4
        obtain ⟨c2, et2, lo2, hi2, m1, m2, m3, m4, m5, m6⟩ := (hw.obj b1 l1 o1 e1 g1).cells hk1
        rw [heq, h1] at m1; cases m1
        refine .of_cells hk1 ⟨c', et, lo, hi, by rw [heq]; exact k1, k2.trans m2, m3, m4, m5, fun i x hx' => ?_⟩
        have := (List.getElem?_eq_some_iff.1 hx').1
        have := hown r1
        rw [k3, if_neg (by omega)]
        exact m6 i x hx'
      · exact (hw.obj b1 l1 o1 e1 g1).mono (Ext.refl _) (setCells_other _ _ _ _ _ heq)
  · intro b1 b2 l1 l2 o1 o2 hne e1 e2 g1 g2 heq
    rw [Heap.get_put] at g1 g2
    by_cases q1 : b1 = b
    · subst q1
      have q2 : b2 ≠ b1 := Ne.symm hne
      simp only [q2, if_false] at g2
      simp only [if_true] at g1; cases g1
      have := hw.apart b1 b2 l1 l2 ob o2 hne e1 e2 ho g2 heq
      simpa only [hsl] using this
    · by_cases q2 : b2 = b
      · subst q2
        simp only [q1, if_false] at g1
        simp only [if_true] at g2; cases g2
        have := hw.apart b1 b2 l1 l2 o1 ob hne e1 e2 g1 ho heq
        simpa only [hsl] using this
      · simp only [q1, q2, if_false] at g1 g2
        exact hw.apart b1 b2 l1 l2 o1 o2 hne e1 e2 g1 g2 heq
  · exact hw.new
  · intro b1 l1 hb1; rw [Heap.get_put]; split
    · simp
    · exact hw.vis b1 l1 hb1
  · intro b1 h; rw [Heap.get_put]; split
    · simp
    · exact h
  · intro b1 l1 e1 h; rw [Heap.get_put] at h
    by_cases q : b1 = b
    · subst q; rw [ho]; simp
    · simpa [q] using h
  · rw [Heap.get_put] at g'
    by_cases q : b1 = b
    · rw [if_pos q] at g'; cases g'
      rw [q, ho] at g; cases g; exact ⟨fun h => h, fun h => h⟩
    · rw [if_neg q, g] at g'; cases g'; exact ⟨fun h => h, fun h => h⟩
  · intro k hk hfr
    exact setCells_other _ _ _ _ _ (fun e => hfr b l ob hb ho hno e.symm)

/-- a block from which something has been appended -/
theorem step_old {ids : Nat → Prop} {ι : Map} {H : Heap} {w : World} {b : Nat} {ob : Obj} (hw : WR ι H w) (hoc : H.cells b = some ob) : Step ids ι H w ι (H.put b { ob with kind := .old }) w := by
  obtain ⟨ho, hkm⟩ := Heap.cells_eq hoc
  refine ⟨Ext.refl _, ⟨?_, ?_, hw.new, ?_, hw.glob⟩, Nat.le_refl _, fun _ h k => (k h).elim, ?_, ?_, rfl, rfl, rfl, Nat.le_refl _, fun b1 l1 o1 o' _ g g' => ?_, fun _ _ _ => rfl, fun _ _ h k => by rw [h] at k; cases k⟩
  · intro b1 l1 o1 e1 g1
    rw [Heap.get_put] at g1
    by_cases q : b1 = b
    · subst q; simp only [if_true] at g1; cases g1
      exact .of_cells rfl ((hw.obj b1 l1 ob e1 ho).cells hkm)
    · simp only [q, if_false] at g1; exact hw.obj b1 l1 o1 e1 g1
  · intro b1 b2 l1 l2 o1 o2 hne e1 e2 g1 g2 heq
    rw [Heap.get_put] at g1 g2
    by_cases q1 : b1 = b
    · have q2 : b2 ≠ b := fun e => hne (q1.trans e.symm)
      simp only [q1, if_true] at g1; simp only [q2, if_false] at g2; cases g1
      subst q1
      exact ⟨rfl, (hw.apart b1 b2 l1 l2 ob o2 hne e1 e2 ho g2 heq).2.1, fun h => by cases h⟩
    · by_cases q2 : b2 = b
      · simp only [q2, if_true] at g2; simp only [q1, if_false] at g1; cases g2
        subst q2
        obtain ⟨k1, k2, k3⟩ := hw.apart b1 b2 l1 l2 o1 ob hne e1 e2 g1 ho heq
        exact ⟨k1, rfl, fun h => ⟨rfl, (k3 h).2⟩⟩
      · simp only [q1, q2, if_false] at g1 g2; exact hw.apart b1 b2 l1 l2 o1 o2 hne e1 e2 g1 g2 heq
  · intro b1 l1 hb1; rw [Heap.get_put]; split
    · simp
    · exact hw.vis b1 l1 hb1
  · intro b1 h; rw [Heap.get_put]; split
    · simp
    · exact h
  · intro b1 l1 e1 h; rw [Heap.get_put] at h
    by_cases q : b1 = b
    · subst q; rw [ho]; simp
    · simpa [q] using h
  · rw [Heap.get_put] at g'
    by_cases q : b1 = b
    · rw [if_pos q] at g'; cases g'
      rw [q, ho] at g; cases g
      exact ⟨fun _ => rfl, fun h => (Kind.not_loop hkm h).elim⟩
    · rw [if_neg q, g] at g'; cases g'; exact ⟨fun h => h, fun h => h⟩

/-- an append that found room behind the block's cells -/
theorem step_tail {ι : Map} {H H' : Heap} {w : World} {b id : Nat} {l : Loc} {ob : Obj} (hw : WR ι H w) (hid : ι id = none) (hn : id < H.next) (hb : ι b = some l) (hoc : H.cells b = some ob) (hk : ob.kind.isOld = false)
    (o : Nat) (hoo : o ≤ ob.cs.length) (xs : List AV) (vs : List Value) (hx : VRs ι xs vs) (hl : l.shift + ob.cs.length + xs.length ≤ l.room)
    (h : (H.put b { ob with kind := .old }).add id { cs := ob.cs.drop o ++ xs, es := ob.es, kind := .tip (ob.cs.drop o).length } = some H') :
    Step (· = id) ι H w (fun j => if j = id then some ⟨l.blk, l.shift + o, l.room, l.es⟩ else ι j) H' (w.setCells l.blk (l.shift + ob.cs.length) vs) := by
  obtain ⟨hg, rfl⟩ := Heap.add_eq h
  obtain ⟨ho, hkm⟩ := Heap.cells_eq hoc
  have hbid : b ≠ id := fun e => by rw [← e] at hid; rw [hid] at hb; cases hb
  rw [Heap.get_put, if_neg (Ne.symm hbid)] at hg
  have hext : Ext ι (fun j => if j = id then some ⟨l.blk, l.shift + o, l.room, l.es⟩ else ι j) := fun j lj hj => by
    have : j ≠ id := fun e => by rw [e, hid] at hj; cases hj
    simp [this, hj]
  obtain ⟨c, et, lo, hi, h1, h2, h3, h4, h5, h6⟩ := hw.cells hb hoc
  have hlen := hx.len
  obtain ⟨c', k1, k2, k3⟩ := setCells_block l.blk et (lo, hi) vs (l.shift + ob.cs.length) w c h1 (by omega)
  have hget : ∀ j, ((H.put b { ob with kind := .old }).put id { cs := ob.cs.drop o ++ xs, es := ob.es, kind := .tip (ob.cs.drop o).length }).get j = if j = id then some { cs := ob.cs.drop o ++ xs, es := ob.es, kind := .tip (ob.cs.drop o).length } else if j = b then some { ob with kind := .old } else H.get j := fun j => by rw [Heap.get_put, Heap.get_put]
  refine ⟨hext, ⟨?_, ?_, ?_, ?_, fun b l h => hext b l (hw.glob b l h)⟩, Nat.le_refl _, ?_, ?_, ?_, (setCells_rest _ _ _ _).1, (setCells_rest _ _ _ _).2.1, (setCells_rest _ _ _ _).2.2, by rw [setCells_size]; exact Nat.le_refl _, fun b1 l1 o1 o' e1 g g' => ?_, ?_, ?_⟩
  · intro b1 l1 o1 e1 g1
    rw [hget] at g1
    by_cases q : b1 = id
    · subst q
      simp only [if_true] at e1 g1; cases e1; cases g1
      refine .of_cells rfl ⟨c', et, lo, hi, k1, k2.trans h2, h3, h4, by simp; omega, fun i x hi' => ?_⟩
      simp only at hi' ⊢
      rw [k3]
      by_cases q2 : i < ob.cs.length - o
      · rw [List.getElem?_append_left (by simp; omega), List.getElem?_drop] at hi'
        rw [if_neg (by omega)]
        obtain ⟨v, hv, r⟩ := h6 (o + i) x hi'
        exact ⟨v, by rw [← hv]; congr 1; omega, r.ext hext⟩
      · rw [List.getElem?_append_right (by simp; omega)] at hi'
        simp only [List.length_drop] at hi'
        have := (List.getElem?_eq_some_iff.1 hi').1
        rw [if_pos (by omega)]
        obtain ⟨v, hv, r⟩ := hx.get hi'
        exact ⟨v, by rw [← hv]; congr 1; omega, r.ext hext⟩
    · simp only [q, if_false] at e1 g1
      by_cases hblk : l1.blk = l.blk
      · have old : ∃ o2, H.get b1 = some o2 ∧ o2.cs = o1.cs ∧ o2.es = o1.es ∧ o2.kind.isMap = false ∧ o1.kind.isMap = false ∧ l1.shift + o2.cs.length ≤ l.shift + ob.cs.length := by
          by_cases q2 : b1 = b
          · subst q2; rw [hb] at e1; cases e1; simp only [if_true] at g1; cases g1; exact ⟨ob, ho, rfl, rfl, hkm, rfl, Nat.le_refl _⟩
          · simp only [q2, if_false] at g1
            obtain ⟨r4, r5, r6⟩ := (hw.apart b b1 l l1 ob o1 (Ne.symm q2) hb e1 ho g1 hblk.symm).2.2 hk
            have hk1 : o1.kind.isMap = false := by cases hk : o1.kind <;> rw [hk] at r4 <;> first | rfl | cases r4
            exact ⟨o1, g1, rfl, rfl, hk1, hk1, by omega⟩
        obtain ⟨o2, g2, ecs, ees, hk2, hk1, hend⟩ := old
        obtain ⟨c2, et2, lo2, hi2, m1, m2, m3, m4, m5, m6⟩ := (hw.obj b1 l1 o2 e1 g2).cells hk2
        rw [hblk] at m1
        rw [h1] at m1; cases m1
        refine .of_cells hk1 ⟨c', et, lo, hi, by rw [hblk]; exact k1, k2.trans m2, m3, by rw [m4, ees], by rw [← ecs]; exact m5, fun i x hx' => ?_⟩
        rw [← ecs] at hx'
        have := (List.getElem?_eq_some_iff.1 hx').1
        rw [k3, if_neg (by omega)]
        obtain ⟨v, hv, r⟩ := m6 i x hx'; exact ⟨v, hv, r.ext hext⟩
      · have q2 : b1 ≠ b := fun e => by subst e; rw [hb] at e1; cases e1; exact hblk rfl
        simp only [q2, if_false] at g1
        exact (hw.obj b1 l1 o1 e1 g1).mono hext (setCells_other _ _ _ _ _ hblk)
  · intro b1 b2 l1 l2 o1 o2 hne e1 e2 g1 g2 heq
    rw [hget] at g1 g2
    by_cases q1 : b1 = id
    · have q2 : b2 ≠ id := fun e => hne (q1.trans e.symm)
      simp only [q1, if_true] at e1 g1; simp only [q2, if_false] at e2 g2; cases e1; cases g1
      simp only at heq
      by_cases q3 : b2 = b
      · subst q3
        simp only [if_true] at g2; cases g2
        rw [hb] at e2; cases e2
        exact ⟨rfl, rfl, fun _ => ⟨rfl, by simp [Kind.own]; omega, by simp [Kind.own]⟩⟩
      · simp only [q3, if_false] at g2
        obtain ⟨r1, r2, r3⟩ := hw.apart b b2 l l2 ob o2 (Ne.symm q3) hb e2 ho g2 heq
        exact ⟨rfl, r2, fun _ => ⟨(r3 hk).1, by have := (r3 hk).2; simp [Kind.own]; omega, by simp [Kind.own]⟩⟩
    · simp only [q1, if_false] at e1 g1
      by_cases q2 : b2 = id
      · simp only [q2, if_true] at e2 g2; cases e2; cases g2
        simp only at heq
        by_cases q3 : b1 = b
        · subst q3
          simp only [if_true] at g1; cases g1
          exact ⟨rfl, rfl, fun h => by cases h⟩
        · simp only [q3, if_false] at g1
          obtain ⟨r1, r2, r3⟩ := hw.apart b b1 l l1 ob o1 (Ne.symm q3) hb e1 ho g1 heq.symm
          exact ⟨r2, rfl, fun h => by rw [(r3 hk).1] at h; cases h⟩
      · simp only [q2, if_false] at e2 g2
        by_cases q3 : b1 = b
        · subst q3
          have q4 : b2 ≠ b1 := Ne.symm hne
          simp only [if_true] at g1; simp only [q4, if_false] at g2; cases g1
          exact ⟨rfl, (hw.apart b1 b2 l1 l2 ob o2 hne e1 e2 ho g2 heq).2.1, fun h => by cases h⟩
        · simp only [q3, if_false] at g1
          by_cases q4 : b2 = b
          · subst q4
            simp only [if_true] at g2; cases g2
            obtain ⟨r1, r2, r3⟩ := hw.apart b1 b2 l1 l2 o1 ob hne e1 e2 g1 ho heq
            exact ⟨r1, rfl, fun h => ⟨rfl, (r3 h).2⟩⟩
          · simp only [q4, if_false] at g2
            exact hw.apart b1 b2 l1 l2 o1 o2 hne e1 e2 g1 g2 heq
  · intro j hj
    have : j ≠ id := by have e1 : H.next ≤ j := hj; omega
    simp only [this, if_false]; exact hw.new j hj
  · intro j lj ej; rw [hget]; split
    · simp
    · rename_i e; simp only [e, if_false] at ej; split
      · simp
      · exact hw.vis j lj ej
  · intro j hj hn'
    by_cases e : j = id
    · exact .inl e
    · simp [e, hj] at hn'
  · intro j hj; rw [hget]; split
    · simp
    · split
      · simp
      · exact hj
  · intro j lj ej hj
    rw [hget] at hj
    have : j ≠ id := fun e => by rw [e, hid] at ej; cases ej
    simp only [this, if_false] at hj
    by_cases q : j = b
    · subst q; rw [ho]; simp
    · simpa [q] using hj
  · rw [hget, if_neg (fun e => by rw [e, hid] at e1; cases e1)] at g'
    by_cases q : b1 = b
    · rw [if_pos q] at g'; cases g'
      rw [q, ho] at g; cases g
      exact ⟨fun _ => rfl, fun h => (Kind.not_loop hkm h).elim⟩
    · rw [if_neg q, g] at g'; cases g'; exact ⟨fun h => h, fun h => h⟩
  · intro k hk' hfr
    exact setCells_other _ _ _ _ _ (fun e => hfr b l ob hb ho hk e.symm)
  · intro j lj ej hl'
    by_cases e : j = id
    · simp [e] at hl'; subst hl'
      exact .inr ⟨b, l, ob, hb, ho, hk, rfl⟩
    · simp [e, ej] at hl'

/-- heaps that hold the same, by their numbers -/
structure HEq2 (H H' : Heap) : Prop where
  get : ∀ b, H'.get b = H.get b
  next : H'.next = H.next
theorem WR.cast {ι : Map} {H H' : Heap} {w : World} (e : HEq2 H H') (h : WR ι H w) : WR ι H' w :=
  ⟨fun b l o hb ho => h.obj b l o hb (by rw [← e.get]; exact ho), fun b1 b2 l1 l2 o1 o2 hne e1 e2 g1 g2 => h.apart b1 b2 l1 l2 o1 o2 hne e1 e2 (by rw [← e.get]; exact g1) (by rw [← e.get]; exact g2),
    fun b hb => h.new b (by rw [← e.next]; exact hb), fun b l hb => by rw [e.get]; exact h.vis b l hb, h.glob⟩
theorem Step.cast {ids : Nat → Prop} {ι ι' : Map} {H H' K K' : Heap} {w w' : World} (e : HEq2 H K) (e' : HEq2 H' K') (h : Step ids ι H w ι' H' w') : Step ids ι K w ι' K' w' :=
  ⟨h.ext, h.wr.cast e', by rw [e.next, e'.next]; exact h.next, fun b hb hn => by rw [e.next]; exact h.dom b hb hn, fun b hb => by rw [e'.get]; exact h.keep b (by rw [← e.get]; exact hb),
    fun b l hb hn => by rw [e.get]; exact h.junk b l hb (by rw [← e'.get]; exact hn), h.os, h.tape, h.output, h.size,
    fun b l o o' hb g g' => h.stay b l o o' hb (by rw [← e.get]; exact g) (by rw [← e'.get]; exact g'),
    fun c hc hf => h.frame c hc (fun b l o hb hg => hf b l o hb (by rw [e.get]; exact hg)),
    fun b l hb hl => (h.fresh b l hb hl).imp id fun ⟨b0, l0, o0, e0, g0, q⟩ => ⟨b0, l0, o0, e0, by rw [e.get]; exact g0, q⟩⟩
omit [Env] in
theorem HEq2.refl (H : Heap) : HEq2 H H := ⟨fun _ => rfl, rfl⟩
omit [Env] in
theorem HEq2.log (H : Heap) (l : List Nat) : HEq2 H { H with log := l } := ⟨fun _ => rfl, rfl⟩
omit [Env] in
theorem HEq2.log' (H : Heap) (l : List Nat) : HEq2 { H with log := l } H := ⟨fun _ => rfl, rfl⟩
omit [Env] in
theorem HEq2.write (H : Heap) (b : Nat) (o : Obj) : HEq2 (H.put b o) (H.write b o) := ⟨fun _ => rfl, rfl⟩
omit [Env] in
theorem HEq2.write' (H : Heap) (b : Nat) (o : Obj) : HEq2 (H.write b o) (H.put b o) := ⟨fun _ => rfl, rfl⟩
omit [Env] in
theorem Heap.get_write (H : Heap) (b : Nat) (o : Obj) (j : Nat) : (H.write b o).get j = if j = b then some o else H.get j := Tr.get_set _ _ _ _
end
end Go.Ev
