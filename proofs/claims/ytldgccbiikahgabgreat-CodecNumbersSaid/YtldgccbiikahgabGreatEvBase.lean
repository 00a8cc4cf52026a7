import Derived.Calls
import Derived.Below
import Derived.LoopN
import Derived.Orders
import Derived.KernelRfl
import Derived.Laws.Sem
/-! A deterministic evaluator over an abstract heap: the table of numbered things. -/
namespace Go.Ev
open Go

/-- a table of things by number -/
inductive Tr (α : Type) : Type where
  | nil : Tr α
  | node (v : Option α) (l r : Tr α) : Tr α

namespace Tr
variable {α : Type}
def get : Tr α → Nat → Option α
  | .nil, _ => none
  | .node v l r, i => cond (Nat.beq i 0) v (cond (Nat.beq (i % 2) 1) (l.get (i / 2)) (r.get (i / 2 - 1)))

def setF : Nat → Tr α → Nat → Option α → Tr α
  | 0, t, _, _ => t
  | f + 1, .nil, i, x => cond (Nat.beq i 0) (.node x .nil .nil) (cond (Nat.beq (i % 2) 1) (.node none (setF f .nil (i / 2) x) .nil) (.node none .nil (setF f .nil (i / 2 - 1) x)))
  | f + 1, .node v l r, i, x => cond (Nat.beq i 0) (.node x l r) (cond (Nat.beq (i % 2) 1) (.node v (setF f l (i / 2) x) r) (.node v l (setF f r (i / 2 - 1) x)))
def setO (t : Tr α) (i : Nat) (x : Option α) : Tr α := setF (i + 1) t i x
def set (t : Tr α) (i : Nat) (x : α) : Tr α := setF (i + 1) t i (some x)

theorem nbeq (a b : Nat) : Nat.beq a b = decide (a = b) := by
  cases h : Nat.beq a b
  · have := Nat.ne_of_beq_eq_false h; simp [this]
  · have := Nat.eq_of_beq_eq_true h; simp [this]

theorem get_nil (i : Nat) : (Tr.nil : Tr α).get i = none := rfl

theorem get_setF (f : Nat) : ∀ (t : Tr α) (i : Nat) (x : Option α) (j : Nat), i < f → (setF f t i x).get j = if j = i then x else t.get j := by
  induction f with
  | zero => intro t i x j h; omega
  | succ f ih =>
    intro t i x j h
    cases t with
    | nil =>
      simp only [setF, nbeq]
      by_cases h0 : i = 0
      · subst h0
        simp only [decide_true, cond_true, get, nbeq]
        by_cases hj : j = 0
        · simp [hj]
        · simp [hj]
      · simp only [h0, decide_false, cond_false]
        by_cases h1 : i % 2 = 1
        · simp only [h1, decide_true, cond_true, get, nbeq]
          by_cases hj : j = 0
          · subst hj; rw [if_neg (by omega)]; rfl
          · simp only [hj, decide_false, cond_false]
            by_cases hj1 : j % 2 = 1
            · simp only [hj1, decide_true, cond_true]
              rw [ih _ _ _ _ (by omega)]
              by_cases e : j = i
              · subst e; simp
              · rw [if_neg (by omega), if_neg e]; rfl
            · simp only [hj1, decide_false, cond_false]; rw [if_neg (by omega)]
        · simp only [h1, decide_false, cond_false, get, nbeq]
          by_cases hj : j = 0
          · subst hj; rw [if_neg (by omega)]; rfl
          · simp only [hj, decide_false, cond_false]
            by_cases hj1 : j % 2 = 1
            · simp only [hj1, decide_true, cond_true]; rw [if_neg (by omega)]
            · simp only [hj1, decide_false, cond_false]
              rw [ih _ _ _ _ (by omega)]
              by_cases e : j = i
              · subst e; simp
              · rw [if_neg (by omega), if_neg e]; rfl
    | node v l r =>
      simp only [setF, nbeq]
      by_cases h0 : i = 0
      · subst h0
        simp only [decide_true, cond_true, get, nbeq]
        by_cases hj : j = 0
        · simp [hj]
        · simp [hj]
      · simp only [h0, decide_false, cond_false]
        by_cases h1 : i % 2 = 1
        · simp only [h1, decide_true, cond_true, get, nbeq]
          by_cases hj : j = 0
          · subst hj; rw [if_neg (by omega)]; rfl
          · simp only [hj, decide_false, cond_false]
            by_cases hj1 : j % 2 = 1
            · simp only [hj1, decide_true, cond_true]
              rw [ih _ _ _ _ (by omega)]
              by_cases e : j = i
              · subst e; simp
              · rw [if_neg (by omega), if_neg e]
            · simp only [hj1, decide_false, cond_false]; rw [if_neg (by omega)]
        · simp only [h1, decide_false, cond_false, get, nbeq]
          by_cases hj : j = 0
          · subst hj; rw [if_neg (by omega)]; rfl
          · simp only [hj, decide_false, cond_false]
            by_cases hj1 : j % 2 = 1
            · simp only [hj1, decide_true, cond_true]; rw [if_neg (by omega)]
            · simp only [hj1, decide_false, cond_false]
              rw [ih _ _ _ _ (by omega)]
              by_cases e : j = i
              · subst e; simp
              · rw [if_neg (by omega), if_neg e]

theorem get_set (t : Tr α) (i : Nat) (x : α) (j : Nat) : (t.set i x).get j = if j = i then some x else t.get j :=
  get_setF _ t i (some x) j (by omega)
theorem get_setO (t : Tr α) (i : Nat) (x : Option α) (j : Nat) : (t.setO i x).get j = if j = i then x else t.get j :=
  get_setF _ t i x j (by omega)
theorem get_set_self (t : Tr α) (i : Nat) (x : α) : (t.set i x).get i = some x := by rw [get_set, if_pos rfl]
theorem get_set_ne (t : Tr α) {i j : Nat} (x : α) (h : j ≠ i) : (t.set i x).get j = t.get j := by rw [get_set, if_neg h]
end Tr


/-- the numbers that are not known: by their numbers -/
class Env where
  rho : Nat → Int
/-- whole numbers as expressions of those -/
inductive Exp : Type where
  | var (i : Nat)
  | lit (n : Int)
  | op (o : BinOp) (k : IntKind) (a b : Exp)
  | sh (o : BinOp) (k : IntKind) (a : Exp) (n : Nat)
  | conv (k : IntKind) (a : Exp)
def opVal (o : BinOp) (k : IntKind) (x y : Int) : Int :=
  match o with
  | .add => k.wrap (x + y)
  | .sub => k.wrap (x - y)
  | .mul => k.wrap (x * y)
  | .quo => k.wrap (x.tdiv y)
  | .rem => x.tmod y
  | .and => k.wrap (BitVec.ofInt k.bits x &&& BitVec.ofInt k.bits y).toNat
  | .or => k.wrap (BitVec.ofInt k.bits x ||| BitVec.ofInt k.bits y).toNat
  | .xor => k.wrap (BitVec.ofInt k.bits x ^^^ BitVec.ofInt k.bits y).toNat
  | .andNot => k.wrap (BitVec.ofInt k.bits x &&& ~~~BitVec.ofInt k.bits y).toNat
  | _ => 0
def shVal (o : BinOp) (k : IntKind) (x : Int) (n : Nat) : Int :=
  match o with
  | .shl => k.wrap (x * 2 ^ min n k.bits)
  | _ => x.fdiv (2 ^ min n k.bits)
def cmpVal (o : BinOp) (x y : Int) : Bool :=
  match o with
  | .eql => x == y
  | .neq => x != y
  | .lss => x < y
  | .leq => x ≤ y
  | .gtr => x > y
  | .geq => x ≥ y
  | _ => false
def Exp.beq : Exp → Exp → Bool
  | .var i, .var j => Nat.beq i j
  | .lit n, .lit m => n == m
  | .op o k a b, .op o' k' a' b' => o == o' && k == k' && a.beq a' && b.beq b'
  | .sh o k a n, .sh o' k' a' n' => o == o' && k == k' && a.beq a' && Nat.beq n n'
  | .conv k a, .conv k' a' => k == k' && a.beq a'
  | _, _ => false
theorem Exp.beq_sound : ∀ {a b : Exp}, a.beq b = true → a = b
  | .var i, .var j, h => by simp only [Exp.beq] at h; rw [Nat.eq_of_beq_eq_true h]
  | .lit n, .lit m, h => by simp only [Exp.beq, beq_iff_eq] at h; rw [h]
  | .op o k a b, .op o' k' a' b', h => by
    simp only [Exp.beq, Bool.and_eq_true, beq_iff_eq] at h
    rw [h.1.1.1, h.1.1.2, Exp.beq_sound h.1.2, Exp.beq_sound h.2]
  | .sh o k a n, .sh o' k' a' n', h => by
    simp only [Exp.beq, Bool.and_eq_true, beq_iff_eq] at h
    rw [h.1.1.1, h.1.1.2, Exp.beq_sound h.1.2, Nat.eq_of_beq_eq_true h.2]
  | .conv k a, .conv k' a', h => by
    simp only [Exp.beq, Bool.and_eq_true, beq_iff_eq] at h
    rw [h.1, Exp.beq_sound h.2]
  | .var _, .lit _, h | .var _, .op .., h | .var _, .sh .., h | .var _, .conv .., h => by simp [Exp.beq] at h
  | .lit _, .var _, h | .lit _, .op .., h | .lit _, .sh .., h | .lit _, .conv .., h => by simp [Exp.beq] at h
  | .op .., .var _, h | .op .., .lit _, h | .op .., .sh .., h | .op .., .conv .., h => by simp [Exp.beq] at h
  | .sh .., .var _, h | .sh .., .lit _, h | .sh .., .op .., h | .sh .., .conv .., h => by simp [Exp.beq] at h
  | .conv .., .var _, h | .conv .., .lit _, h | .conv .., .op .., h | .conv .., .sh .., h => by simp [Exp.beq] at h
def Exp.eval [E : Env] : Exp → Int
  | .var i => E.rho i
  | .lit n => n
  | .op o k a b => opVal o k a.eval b.eval
  | .sh o k a n => shVal o k a.eval n
  | .conv k a => k.wrap a.eval

/-- Values of the abstract machine: blocks by their numbers in an abstract heap. -/
inductive AV : Type where
  | bool (b : Bool)
  | int (k : IntKind) (n : Int)
  | sx (k : IntKind) (e : Exp)
  | str (s : List UInt8)
  | ptr0
  | ptr (b o : Nat)
  | sl0
  | sl (b o n : Nat)
  | map0
  | map (b : Nat)
  | fn (f : Fn) (first captured : List AV)
  | nilfn
  | iface (t : TypeId) (v : AV)
  | nilif
  | agg (cs : List AV)
  | tup (vs : List AV)
  /-- some value of one cell -/
  | any
  /-- true or false -/
  | anyb
instance : Inhabited AV := ⟨.ptr0⟩

/-- where an abstract block lies -/
structure Loc where
  blk : Nat
  shift : Nat
  room : Nat
  es : Nat

abbrev Map := Nat → Option Loc
variable [Env]

mutual
def VR (ι : Map) : AV → Value → Prop
  | .bool b, v => v = .bool b
  | .int k n, v => v = .int k n
  | .sx k e, v => v = .int k e.eval
  | .str s, v => v = .string ⟨⟨s⟩⟩
  | .ptr0, v => v = .pointer none
  | .ptr b o, v => ∃ l, ι b = some l ∧ v = .pointer (some ⟨l.blk, l.shift + o, none⟩)
  | .sl0, v => v = .slice none 0 0
  | .sl b o n, v => ∃ l cap, ι b = some l ∧ n ≤ cap ∧ l.shift + o + cap * l.es ≤ l.room ∧ v = .slice (some ⟨l.blk, l.shift + o, none⟩) n cap
  | .map0, v => v = .map none
  | .map b, v => ∃ l, ι b = some l ∧ v = .map (some l.blk)
  | .fn f a c, v => ∃ a' c', VRs ι a a' ∧ VRs ι c c' ∧ v = .func f a'.toArray c'.toArray
  | .nilfn, v => v = .nilFunc
  | .iface t x, v => ∃ x', VR ι x x' ∧ v = .iface t x'
  | .nilif, v => v = .nilIface
  | .agg cs, v => ∃ cs', VRs ι cs cs' ∧ v = .agg cs'.toArray
  | .tup vs, v => ∃ vs', VRs ι vs vs' ∧ v = .tuple vs'.toArray
  | .any, v => v.oneCell' = true
  | .anyb, v => ∃ b, v = .bool b
def VRs (ι : Map) : List AV → List Value → Prop
  | [], l => l = []
  | x :: xs, l => ∃ y ys, VR ι x y ∧ VRs ι xs ys ∧ l = y :: ys
end

def Ext (ι ι' : Map) : Prop := ∀ b l, ι b = some l → ι' b = some l
omit [Env] in
theorem Ext.refl (ι : Map) : Ext ι ι := fun _ _ h => h
omit [Env] in
theorem Ext.trans {a b c : Map} (h : Ext a b) (k : Ext b c) : Ext a c := fun x l e => k x l (h x l e)

mutual
theorem VR.ext {ι ι' : Map} (h : Ext ι ι') : ∀ {x : AV} {v : Value}, VR ι x v → VR ι' x v
  | .bool b, v, r => by simpa only [VR] using r
  | .int k n, v, r => by simpa only [VR] using r
  | .sx k e, v, r => by simpa only [VR] using r
  | .str s, v, r => by simpa only [VR] using r
  | .ptr0, v, r => by simpa only [VR] using r
  | .ptr b o, v, r => by simp only [VR] at r ⊢; obtain ⟨l, e, r⟩ := r; exact ⟨l, h _ _ e, r⟩
  | .sl0, v, r => by simpa only [VR] using r
  | .sl b o n, v, r => by simp only [VR] at r ⊢; obtain ⟨l, cap, e, r⟩ := r; exact ⟨l, cap, h _ _ e, r⟩
  | .map0, v, r => by simpa only [VR] using r
  | .map b, v, r => by simp only [VR] at r ⊢; obtain ⟨l, e, r⟩ := r; exact ⟨l, h _ _ e, r⟩
  | .fn f a c, v, r => by simp only [VR] at r ⊢; obtain ⟨a', c', ha, hc, r⟩ := r; exact ⟨a', c', VRs.ext h ha, VRs.ext h hc, r⟩
  | .nilfn, v, r => by simpa only [VR] using r
  | .iface t x, v, r => by simp only [VR] at r ⊢; obtain ⟨x', hx, r⟩ := r; exact ⟨x', VR.ext h hx, r⟩
  | .nilif, v, r => by simpa only [VR] using r
  | .agg cs, v, r => by simp only [VR] at r ⊢; obtain ⟨cs', hx, r⟩ := r; exact ⟨cs', VRs.ext h hx, r⟩
  | .tup cs, v, r => by simp only [VR] at r ⊢; obtain ⟨cs', hx, r⟩ := r; exact ⟨cs', VRs.ext h hx, r⟩
  | .any, v, r => by simpa only [VR] using r
  | .anyb, v, r => by simpa only [VR] using r
theorem VRs.ext {ι ι' : Map} (h : Ext ι ι') : ∀ {xs : List AV} {vs : List Value}, VRs ι xs vs → VRs ι' xs vs
  | [], vs, r => by simpa only [VRs] using r
  | x :: xs, vs, r => by simp only [VRs] at r ⊢; obtain ⟨y, ys, hy, hys, r⟩ := r; exact ⟨y, ys, VR.ext h hy, VRs.ext h hys, r⟩
end

theorem VRs.len {ι : Map} : ∀ {xs : List AV} {vs : List Value}, VRs ι xs vs → vs.length = xs.length
  | [], vs, r => by simp only [VRs] at r; subst r; rfl
  | x :: xs, vs, r => by simp only [VRs] at r; obtain ⟨y, ys, _, h, rfl⟩ := r; simp [VRs.len h]
theorem VRs.get {ι : Map} : ∀ {xs : List AV} {vs : List Value} {i : Nat} {x : AV}, VRs ι xs vs → xs[i]? = some x → ∃ v, vs[i]? = some v ∧ VR ι x v
  | [], vs, i, x, r, h => by simp at h
  | y :: ys, vs, i, x, r, h => by
    simp only [VRs] at r; obtain ⟨v, ws, hv, hw, rfl⟩ := r
    cases i with
    | zero => simp at h; subst h; exact ⟨v, rfl, hv⟩
    | succ i => simp at h; exact VRs.get (i := i) hw h
theorem VRs.append {ι : Map} : ∀ {xs ys : List AV} {vs ws : List Value}, VRs ι xs vs → VRs ι ys ws → VRs ι (xs ++ ys) (vs ++ ws)
  | [], ys, vs, ws, r, h => by simp only [VRs] at r; subst r; exact h
  | x :: xs, ys, vs, ws, r, h => by
    simp only [VRs] at r; obtain ⟨v, vs', hv, hw, rfl⟩ := r
    simp only [List.cons_append, VRs]; exact ⟨v, _, hv, VRs.append hw h, rfl⟩
theorem VRs.of_get {ι : Map} : ∀ {xs : List AV} {vs : List Value}, vs.length = xs.length → (∀ (i : Nat) (x : AV) (v : Value), xs[i]? = some x → vs[i]? = some v → VR ι x v) → VRs ι xs vs
  | [], vs, hl, h => by simp only [VRs]; exact List.eq_nil_of_length_eq_zero (by simpa using hl)
  | x :: xs, [], hl, h => by simp at hl
  | x :: xs, v :: vs, hl, h => by
    simp only [VRs]
    exact ⟨v, vs, h 0 x v rfl rfl, VRs.of_get (by simpa using hl) (fun i y u hy hu => h (i + 1) y u (by simpa using hy) (by simpa using hu)), rfl⟩
theorem VRs.take {ι : Map} {xs : List AV} {vs : List Value} (h : VRs ι xs vs) (n : Nat) : VRs ι (xs.take n) (vs.take n) :=
  VRs.of_get (by simp [h.len]) fun i x v hx hv => by
    have hi : i < n := by
      rcases Nat.lt_or_ge i n with h' | h'
      · exact h'
      · simp [List.getElem?_take, Nat.not_lt.2 h'] at hx
    simp only [List.getElem?_take, hi, if_true] at hx hv
    obtain ⟨u, hu, r⟩ := h.get hx
    rw [hv] at hu; cases hu; exact r
theorem VRs.drop {ι : Map} {xs : List AV} {vs : List Value} (h : VRs ι xs vs) (n : Nat) : VRs ι (xs.drop n) (vs.drop n) :=
  VRs.of_get (by simp [h.len]) fun i x v hx hv => by
    simp only [List.getElem?_drop] at hx hv
    obtain ⟨u, hu, r⟩ := h.get hx
    rw [hv] at hu; cases hu; exact r
end Go.Ev
