/- The abstract machine: values by value, a small heap, an IR of the elaborated code, and its run in continuation-passing style. -/
import Derived.Calls
import Derived.KernelRfl
namespace Go.Abs

inductive AV where
  | bool (b : Bool)
  | int (k : IntKind) (n : Int)
  | str (s : List UInt8)
  | nilp
  | ptr (b g off : Nat)
  | ro (v : AV) (off : Nat)
  | list (nil : Bool) (sz : Nat) (xs : List AV)
  | aref (b g off len sz : Nat)
  | map (b : Nat)
  | func (f : Nat) (first cap : List AV)
  | nilf
  | iface (t : Nat) (v : AV)
  | nili
  | agg (cs : List AV)
  | tuple (vs : List AV)
  deriving Inhabited

mutual
def AV.decEq : (a b : AV) → Decidable (a = b)
  | .bool a, b => match b with
    | .bool b => if h : a = b then isTrue (by rw [h]) else isFalse (by simpa using h)
    | .int .. | .str .. | .nilp | .ptr .. | .ro .. | .list .. | .aref .. | .map .. | .func .. | .nilf | .iface .. | .nili | .agg .. | .tuple .. => isFalse (by simp)
  | .int k a, b => match b with
    | .int j b => if h : k = j ∧ a = b then isTrue (by rw [h.1, h.2]) else isFalse (by simpa using h)
    | .bool .. | .str .. | .nilp | .ptr .. | .ro .. | .list .. | .aref .. | .map .. | .func .. | .nilf | .iface .. | .nili | .agg .. | .tuple .. => isFalse (by simp)
  | .str a, b => match b with
    | .str b => if h : a = b then isTrue (by rw [h]) else isFalse (by simpa using h)
    | .bool .. | .int .. | .nilp | .ptr .. | .ro .. | .list .. | .aref .. | .map .. | .func .. | .nilf | .iface .. | .nili | .agg .. | .tuple .. => isFalse (by simp)
  | .nilp, b => match b with
    | .nilp => isTrue rfl
    | .bool .. | .int .. | .str .. | .ptr .. | .ro .. | .list .. | .aref .. | .map .. | .func .. | .nilf | .iface .. | .nili | .agg .. | .tuple .. => isFalse (by simp)
  | .ptr a b c, x => match x with
    | .ptr d e f => if h : a = d ∧ b = e ∧ c = f then isTrue (by rw [h.1, h.2.1, h.2.2]) else isFalse (by simpa using h)
    | .bool .. | .int .. | .str .. | .nilp | .ro .. | .list .. | .aref .. | .map .. | .func .. | .nilf | .iface .. | .nili | .agg .. | .tuple .. => isFalse (by simp)
  | .ro v a, x => match x with
    | .ro u b => match AV.decEq v u with
      | isTrue h => if h' : a = b then isTrue (by rw [h, h']) else isFalse (by simp [h'])
      | isFalse h => isFalse (by simp [h])
    | .bool .. | .int .. | .str .. | .nilp | .ptr .. | .list .. | .aref .. | .map .. | .func .. | .nilf | .iface .. | .nili | .agg .. | .tuple .. => isFalse (by simp)
  | .list n s xs, x => match x with
    | .list m t ys => match AV.decEqL xs ys with
      | isTrue h => if h' : n = m ∧ s = t then isTrue (by rw [h, h'.1, h'.2]) else isFalse (fun e => h' (by injection e with e1 e2 _; exact ⟨e1, e2⟩))
      | isFalse h => isFalse (by simp [h])
    | .bool .. | .int .. | .str .. | .nilp | .ptr .. | .ro .. | .aref .. | .map .. | .func .. | .nilf | .iface .. | .nili | .agg .. | .tuple .. => isFalse (by simp)
  | .aref a b c d e, x => match x with
    | .aref a' b' c' d' e' => if h : a = a' ∧ b = b' ∧ c = c' ∧ d = d' ∧ e = e' then isTrue (by rw [h.1, h.2.1, h.2.2.1, h.2.2.2.1, h.2.2.2.2]) else isFalse (by simpa using h)
    | .bool .. | .int .. | .str .. | .nilp | .ptr .. | .ro .. | .list .. | .map .. | .func .. | .nilf | .iface .. | .nili | .agg .. | .tuple .. => isFalse (by simp)
  | .map a, x => match x with
    | .map b => if h : a = b then isTrue (by rw [h]) else isFalse (by simpa using h)
    | .bool .. | .int .. | .str .. | .nilp | .ptr .. | .ro .. | .list .. | .aref .. | .func .. | .nilf | .iface .. | .nili | .agg .. | .tuple .. => isFalse (by simp)
  | .func f a b, x => match x with
    | .func g c d => match AV.decEqL a c, AV.decEqL b d with
      | isTrue h, isTrue h' => if e : f = g then isTrue (by rw [h, h', e]) else isFalse (by simp [e])
      | isFalse h, _ => isFalse (by simp [h])
      | _, isFalse h => isFalse (by simp [h])
    | .bool .. | .int .. | .str .. | .nilp | .ptr .. | .ro .. | .list .. | .aref .. | .map .. | .nilf | .iface .. | .nili | .agg .. | .tuple .. => isFalse (by simp)
  | .nilf, x => match x with
    | .nilf => isTrue rfl
    | .bool .. | .int .. | .str .. | .nilp | .ptr .. | .ro .. | .list .. | .aref .. | .map .. | .func .. | .iface .. | .nili | .agg .. | .tuple .. => isFalse (by simp)
  | .iface t v, x => match x with
    | .iface u w => match AV.decEq v w with
      | isTrue h => if h' : t = u then isTrue (by rw [h, h']) else isFalse (by simp [h'])
      | isFalse h => isFalse (by simp [h])
    | .bool .. | .int .. | .str .. | .nilp | .ptr .. | .ro .. | .list .. | .aref .. | .map .. | .func .. | .nilf | .nili | .agg .. | .tuple .. => isFalse (by simp)
  | .nili, x => match x with
    | .nili => isTrue rfl
    | .bool .. | .int .. | .str .. | .nilp | .ptr .. | .ro .. | .list .. | .aref .. | .map .. | .func .. | .nilf | .iface .. | .agg .. | .tuple .. => isFalse (by simp)
  | .agg a, x => match x with
    | .agg b => match AV.decEqL a b with
      | isTrue h => isTrue (by rw [h])
      | isFalse h => isFalse (by simp [h])
    | .bool .. | .int .. | .str .. | .nilp | .ptr .. | .ro .. | .list .. | .aref .. | .map .. | .func .. | .nilf | .iface .. | .nili | .tuple .. => isFalse (by simp)
  | .tuple a, x => match x with
    | .tuple b => match AV.decEqL a b with
      | isTrue h => isTrue (by rw [h])
      | isFalse h => isFalse (by simp [h])
    | .bool .. | .int .. | .str .. | .nilp | .ptr .. | .ro .. | .list .. | .aref .. | .map .. | .func .. | .nilf | .iface .. | .nili | .agg .. => isFalse (by simp)
def AV.decEqL : (a b : List AV) → Decidable (a = b)
  | [], [] => isTrue rfl
  | [], _ :: _ => isFalse (by simp)
  | _ :: _, [] => isFalse (by simp)
  | x :: xs, y :: ys => match AV.decEq x y, AV.decEqL xs ys with
    | isTrue h, isTrue h' => isTrue (by rw [h, h'])
    | isFalse h, _ => isFalse (by simp [h])
    | _, isFalse h => isFalse (by simp [h])
end
instance : DecidableEq AV := AV.decEq

/-! ### Heap, states -/
inductive Ent where
  | t (n : Nat)
  | l (l off : Nat)
  | h (b off : Nat)
  deriving DecidableEq, Inhabited

inductive Blk where
  | cells (n : Nat) (agg : Bool) (v : AV) (own : List Nat)
  | arr (g sz : Nat) (cs : List AV)
  | map (es : List (AV × AV))
  deriving Inhabited

structure H where
  floors : List Nat
  blks : List Blk
  deriving Inhabited

abbrev R := Option (AV × H)

structure Loc where
  n : Nat
  agg : Bool
  v : AV
  deriving Inhabited

structure S where
  env : List (Nat × AV)
  lp : List (Nat × (Nat × Nat))
  loc : List (Nat × Loc)
  own : List Ent
  h : H
  deriving Inhabited

def get {α : Type} : List (Nat × α) → Nat → Option α
  | [], _ => none
  | (k, v) :: r, n => match Nat.beq k n with
    | true => some v
    | false => get r n

def del {α : Type} : List (Nat × α) → Nat → List (Nat × α)
  | [], _ => []
  | (k, v) :: r, n => match Nat.beq k n with
    | true => del r n
    | false => (k, v) :: del r n

def Ent.beq : Ent → Ent → Bool
  | .t a, .t b => Nat.beq a b
  | .l a b, .l c d => (Nat.beq a c) && (Nat.beq b d)
  | .h a b, .h c d => (Nat.beq a c) && (Nat.beq b d)
  | _, _ => false

def hasE : List Ent → Ent → Bool
  | [], _ => false
  | e :: r, x => match Ent.beq e x with
    | true => true
    | false => hasE r x
def delE : List Ent → Ent → List Ent
  | [], _ => []
  | e :: r, x => match Ent.beq e x with
    | true => delE r x
    | false => e :: delE r x
/-- all owners in a local go -/
def delLoc : List Ent → Nat → List Ent
  | [], _ => []
  | .l a b :: r, l => match Nat.beq a l with
    | true => delLoc r l
    | false => .l a b :: delLoc r l
  | e :: r, l => e :: delLoc r l
def delLp : List (Nat × (Nat × Nat)) → Nat → List (Nat × (Nat × Nat))
  | [], _ => []
  | (t, l', o) :: r, l => match Nat.beq l' l with
    | true => del (delLp r l) t
    | false => (t, l', o) :: delLp r l

def S.put (s : S) (d : Nat) (v : AV) : S := { s with env := (d, v) :: s.env, lp := del s.lp d, own := delE s.own (.t d) }

/-! ### Values -/
def AV.cells : AV → List AV
  | .agg cs => cs
  | v => [v]
def AV.isCell : AV → Bool
  | .agg _ => false
  | .tuple _ => false
  | _ => true
/-- a value of a variable of n cells -/
def shape (n : Nat) (ag : Bool) (v : AV) : Option AV :=
  match ag, v with
  | true, .agg cs => match Nat.beq cs.length n with
    | true => some v
    | false => none
  | true, _ => none
  | false, .agg _ => none
  | false, .tuple _ => none
  | false, v => some v
/-- a part of a value's cells -/
def part (v : AV) (off n : Nat) (ag : Bool) : Option AV :=
  match v with
  | .agg cs => match ag with
    | true => match Nat.ble (off + n) cs.length with
      | true => some (.agg ((cs.drop off).take n))
      | false => none
    | false => match cs[off]? with
      | some c => some c
      | none => none
  | _ => none
/-- a part written: x has n cells -/
def setPart (v : AV) (off : Nat) (x : AV) (n : Nat) (ag : Bool) : Option AV :=
  match v, shape n ag x with
  | .agg cs, some x => match Nat.ble (off + n) cs.length with
    | true => some (.agg (cs.take off ++ x.cells ++ cs.drop (off + n)))
    | false => none
  | _, _ => none

/-! ### Operations without effect -/
def bytesLt : List UInt8 → List UInt8 → Bool
  | _, [] => false
  | [], _ :: _ => true
  | a :: x, b :: y => a < b || (a == b && bytesLt x y)

def maxInt : Nat := 9223372036854775807

def evalInt (op : BinOp) (k : IntKind) (a b : Int) : Option AV :=
  match op with
  | .add => some (.int k (k.wrap (a + b)))
  | .sub => some (.int k (k.wrap (a - b)))
  | .mul => some (.int k (k.wrap (a * b)))
  | .quo => if b = 0 then none else some (.int k (k.wrap (a.tdiv b)))
  | .rem => if b = 0 then none else some (.int k (a.tmod b))
  | .and => some (.int k (k.wrap (BitVec.ofInt k.bits a &&& BitVec.ofInt k.bits b).toNat))
  | .or => some (.int k (k.wrap (BitVec.ofInt k.bits a ||| BitVec.ofInt k.bits b).toNat))
  | .xor => some (.int k (k.wrap (BitVec.ofInt k.bits a ^^^ BitVec.ofInt k.bits b).toNat))
  | .andNot => some (.int k (k.wrap (BitVec.ofInt k.bits a &&& ~~~ (BitVec.ofInt k.bits b)).toNat))
  | .eql => some (.bool (a == b))
  | .neq => some (.bool (a != b))
  | .lss => some (.bool (a < b))
  | .leq => some (.bool (a ≤ b))
  | .gtr => some (.bool (a > b))
  | .geq => some (.bool (a ≥ b))
  | _ => none
def evalStr (op : BinOp) (a b : List UInt8) : Option AV :=
  match op with
  | .add => if a.length + b.length ≤ maxInt then some (.str (a ++ b)) else none
  | .eql => some (.bool (a == b))
  | .neq => some (.bool (!(a == b)))
  | .lss => some (.bool (bytesLt a b))
  | .leq => some (.bool (bytesLt a b || a == b))
  | .gtr => some (.bool (!(bytesLt a b || a == b)))
  | .geq => some (.bool (!bytesLt a b))
  | _ => none
def evalBin (op : BinOp) : AV → AV → Option AV
  | .int k a, .int j b => match op with
    | .shl => if b < 0 then none else some (.int k (k.wrap (a * 2 ^ (min b.toNat k.bits))))
    | .shr => if b < 0 then none else some (.int k (a.fdiv (2 ^ (min b.toNat k.bits))))
    | op => if k = j then evalInt op k a b else none
  | .str a, .str b => evalStr op a b
  | _, _ => none
def evalUn (op : UnOp) : AV → Option AV
  | .int k a => match op with
    | .neg => some (.int k (k.wrap (0 - a)))
    | .xor => some (.int k (k.wrap (BitVec.ofInt k.bits (if k.signed then -1 else k.max) ^^^ BitVec.ofInt k.bits a).toNat))
    | _ => none
  | .bool b => match op with
    | .not => some (.bool (!b))
    | _ => none
  | _ => none

/-- what is compared -/
inductive EqK where
  | b | i | p
  deriving DecidableEq, Inhabited

inductive POp where
  | mov
  | pick
  | build (zero : List AV) (places : List (Nat × Nat × Bool))
  | mkList (sz : Nat) (agg : Bool)
  | ld (n : Nat) (agg : Bool)
  | bin (op : BinOp)
  | eq (neg : Bool) (k : EqK)
  | un (op : UnOp)
  | conv (k : IntKind)
  | convS
  | iface (t : Nat)
  | mkfunc (f first : Nat)
  | fieldAddr (off : Nat)
  | field (off n : Nat) (agg : Bool)
  | idxAddr (sz : Nat)
  | idxStr
  | idxArr (len sz : Nat) (agg : Bool)
  | sliceS (lo hi : Bool)
  | sliceL (sz : Nat) (lo hi : Bool)
  | lenS
  | lenL
  | min
  | max
  | extract (i : Nat)
  | nilchk
  | boxro (n : Nat) (agg : Bool)
  deriving Inhabited

/-- '==' of what is no number and no string; none: not asked here -/
def evalEq : EqK → AV → AV → Option Bool
  | .b, .bool a, .bool b => some (a == b)
  | .i, .nili, .nili => some true
  | .i, .nili, .iface .. => some false
  | .i, .iface .., .nili => some false
  | .p, .nilp, .nilp => some true
  | .p, .nilp, .ptr .. => some false
  | .p, .nilp, .ro .. => some false
  | .p, .ptr .., .nilp => some false
  | .p, .ro .., .nilp => some false
  | _, _, _ => none

def inRange (i : Int) (n : Nat) : Bool := decide (0 ≤ i) && decide (i < (n : Int))

def fillParts : List AV → List (Nat × Nat × Bool) → List AV → Option (List AV)
  | cs, [], [] => some cs
  | cs, (off, n, ag) :: ps, v :: vs => match shape n ag v with
    | some x => match Nat.ble (off + n) cs.length with
      | true => fillParts (cs.take off ++ x.cells ++ cs.drop (off + n)) ps vs
      | false => none
    | none => none
  | _, _, _ => none
def shapes (sz : Nat) (ag : Bool) : List AV → Option (List AV)
  | [] => some []
  | v :: vs => match shape sz ag v, shapes sz ag vs with
    | some x, some xs => some (x :: xs)
    | _, _ => none

def cut {α : Type} (s : List α) (lo hi : Option Int) : Option (List α) :=
  let h := hi.getD s.length
  let l := lo.getD 0
  if 0 ≤ l ∧ l ≤ h ∧ h ≤ s.length then some ((s.take h.toNat).drop l.toNat) else none
def bounds (lo hi : Bool) (is : List AV) : Option (Option Int × Option Int) :=
  match lo, hi, is with
  | true, true, [.int _ a, .int _ b] => some (some a, some b)
  | true, false, [.int _ a] => some (some a, none)
  | false, true, [.int _ b] => some (none, some b)
  | false, false, [] => some (none, none)
  | _, _, _ => none

def negIf (neg b : Bool) : Bool := match neg with | true => !b | false => b

def evalP (p : POp) (vs : List AV) : Option AV :=
  match p, vs with
  | .mov, [v] => some v
  | .pick, [c, a, b] => match c with
    | .bool t => some (match t with | true => a | false => b)
    | _ => none
  | .build zero places, vs => match fillParts zero places vs with
    | some cs => some (.agg cs)
    | none => none
  | .mkList sz ag, vs => match shapes sz ag vs with
    | some xs => some (.list false sz xs)
    | none => none
  | .ld n ag, [p] => match p with
    | .ro v off => match off, shape n ag v with
      | 0, some x => some x
      | _, _ => part v off n ag
    | _ => none
  | .bin op, [x, y] => evalBin op x y
  | .eq neg k, [x, y] => match evalEq k x y with
    | some b => some (.bool (negIf neg b))
    | none => none
  | .un op, [x] => evalUn op x
  | .conv k, [x] => match x with
    | .int _ n => some (.int k (k.wrap n))
    | _ => none
  | .convS, [x] => match x with
    | .str s => some (.str s)
    | _ => none
  | .iface t, [x] => some (.iface t x)
  | .mkfunc f n, vs => some (.func f (vs.take n) (vs.drop n))
  | .fieldAddr o, [p] => match p with
    | .ro v off => some (.ro v (off + o))
    | .ptr b g off => some (.ptr b g (off + o))
    | _ => none
  | .field off n ag, [v] => part v off n ag
  | .idxAddr sz, [x, i] => match x, i with
    | .list _ s xs, .int _ n => match Nat.beq s sz, decide (0 ≤ n), xs[n.toNat]? with
      | true, true, some x => some (.ro x 0)
      | _, _, _ => none
    | .aref b g off len s, .int _ n => match Nat.beq s sz, inRange n len with
      | true, true => some (.ptr b g (off + n.toNat * sz))
      | _, _ => none
    | _, _ => none
  | .idxStr, [x, i] => match x, i with
    | .str s, .int _ n => match decide (0 ≤ n), s[n.toNat]? with
      | true, some c => some (.int .u8 c.toNat)
      | _, _ => none
    | _, _ => none
  | .idxArr len sz ag, [x, i] => match i with
    | .int _ n => match inRange n len with
      | true => part x (n.toNat * sz) sz ag
      | false => none
    | _ => none
  | .sliceS lo hi, x :: is => match x, bounds lo hi is with
    | .str s, some (l, h) => match cut s l h with
      | some s => some (.str s)
      | none => none
    | _, _ => none
  | .sliceL sz lo hi, x :: is => match x, bounds lo hi is with
    | .list _ s xs, some (l, h) => match Nat.beq s sz, cut xs l h with
      | true, some xs => some (.list false sz xs)
      | _, _ => none
    | _, _ => none
  | .lenS, [x] => match x with
    | .str s => some (.int .i64 s.length)
    | _ => none
  | .lenL, [x] => match x with
    | .list _ _ xs => some (.int .i64 xs.length)
    | .aref _ _ _ n _ => some (.int .i64 n)
    | _ => none
  | .min, [x, y] => match x, y with
    | .int k a, .int j b => if k = j then some (.int k (if b < a then b else a)) else none
    | _, _ => none
  | .max, [x, y] => match x, y with
    | .int k a, .int j b => if k = j then some (.int k (if b > a then b else a)) else none
    | _, _ => none
  | .extract i, [x] => match x with
    | .tuple vs => vs[i]?
    | _ => none
  | .nilchk, [x] => match x with
    | .ptr .. => some x
    | .ro .. => some x
    | .func .. => some x
    | _ => none
  | .boxro n ag, [x] => match shape n ag x with
    | some x => some (.ro x 0)
    | none => none
  | _, _ => none

/-! ### The heap's operations -/
def H.get (h : H) (b : Nat) : Option Blk := h.blks[b]?
def H.set (h : H) (b : Nat) (x : Blk) : H := { h with blks := h.blks.set b x }
def H.push (h : H) (x : Blk) : H := { h with blks := h.blks ++ [x] }
def H.size (h : H) : Nat := h.blks.length

mutual
/-- all references lie below a number -/
def AV.under (n : Nat) : AV → Bool
  | .ptr b _ _ => Nat.blt b n
  | .aref b _ _ _ _ => Nat.blt b n
  | .map b => Nat.blt b n
  | .ro v _ => v.under n
  | .list _ _ xs => AV.underL n xs
  | .func _ a b => AV.underL n a && AV.underL n b
  | .iface _ v => v.under n
  | .agg cs => AV.underL n cs
  | .tuple vs => AV.underL n vs
  | _ => true
def AV.underL (n : Nat) : List AV → Bool
  | [] => true
  | v :: vs => v.under n && AV.underL n vs
end

/-- may v be written into block b? -/
def mayStore (h : H) (b : Nat) (v : AV) : Bool := h.floors.all fun fl => !Nat.blt b fl || v.under fl

def hload (h : H) (p : AV) (n : Nat) (ag : Bool) : Option AV :=
  match p with
  | .ptr b g off => match h.get b with
    | some (.cells m mag v _) => match g, off with
      | 0, 0 => if m = n ∧ mag = ag then some v else part v 0 n ag
      | 0, off => part v off n ag
      | _, _ => none
    | some (.arr g' _ cs) => if g = g' then part (.agg cs) off n ag else none
    | _ => none
  | .ro v off => match off, shape n ag v with
    | 0, some x => some x
    | _, _ => part v off n ag
  | _ => none

def keepOwn (os : List Nat) (off n : Nat) : List Nat := os.filter fun o => !(decide (off ≤ o) && decide (o < off + n))

def hstore (h : H) (p : AV) (x : AV) (n : Nat) (ag : Bool) : Option H :=
  match p with
  | .ptr b g off => match h.get b, mayStore h b x with
    | some (.cells m mag v os), true => match g with
      | 0 => if off = 0 ∧ m = n ∧ mag = ag then match shape n ag x with
          | some x => some (h.set b (.cells m mag x []))
          | none => none
        else match setPart v off x n ag with
          | some w => some (h.set b (.cells m mag w (keepOwn os off n)))
          | none => none
      | _ => none
    | some (.arr g' sz cs), true => if g = g' then match setPart (.agg cs) off x n ag with
        | some (.agg ds) => some (h.set b (.arr g sz ds))
        | _ => none
      else none
    | _, _ => none
  | _ => none

def mapFind (k : AV) : List (AV × AV) → Option AV
  | [] => none
  | (k', v) :: r => if k' = k then some v else mapFind k r
def mapPut (k v : AV) : List (AV × AV) → List (AV × AV)
  | [] => [(k, v)]
  | (k', v') :: r => if k' = k then (k, v) :: r else (k', v') :: mapPut k v r

/-! ### The IR -/
inductive Opd where
  | t (n : Nat)
  | c (v : AV)
  deriving Inhabited

inductive IOp where
  | p (p : POp) (xs : List Opd)
  | lnew (l n : Nat) (agg : Bool) (x : Opd) (os : List Nat)
  | laddr (src off : Nat)
  | lload (src n : Nat) (agg : Bool)
  | lstore (src n : Nat) (agg : Bool) (x : Opd) (os : List Nat)
  | onil (sz : Nat)
  | tmov (src : Nat)
  | take (src : Nat)
  | app (sz bytes src : Nat) (y : Opd)
  | give (src x : Nat)
  | hnew (n : Nat) (agg : Bool) (x : Opd) (os : List Nat)
  | hload (n : Nat) (agg : Bool) (p : Opd)
  | hstore (n : Nat) (agg : Bool) (p x : Opd)
  | htake (p : Opd)
  | hgive (p : Opd) (x : Nat)
  | call (f : Nat) (xs : List Opd)
  | callv (x : Opd) (xs : List Opd)
  | mapNew
  | mapGet (zero : AV) (ok : Bool) (m k : Opd)
  | mapPut (m k v : Opd)
  | mapLen (m : Opd)
  deriving Inhabited

structure IOper where
  dst : Option Nat
  guard : Option (Nat × Bool)
  op : IOp
  deriving Inhabited

/-- what lives on: temporaries, locals, places (tmp, local), owners -/
structure Head where
  ts : List Nat
  ls : List (Nat × Nat × Bool)
  ps : List (Nat × Nat)
  os : List Ent
  deriving Inhabited

inductive IC where
  | skip
  | region (ops : List IOper)
  | drawn (ops : List IOper) (chk : List (Nat × List Nat))
  | seq (a b : IC)
  | cond (x : Opd) (a b : IC)
  | block (id : Nat) (c : IC)
  | loop (hd : Head) (c : IC)
  | join (hd : Head) (a b : IC)
  | exit (id : Nat)
  | ret
  deriving Inhabited

inductive IRes where
  | t (n : Nat)
  | l (l n : Nat) (agg : Bool)
  | h (t n : Nat) (agg : Bool)
  deriving Inhabited

structure IFunc where
  params : Nat
  results : List IRes
  trunc : Bool
  body : IC
  deriving Inhabited

def Opd.val (s : S) : Opd → Option AV
  | .t n => get s.env n
  | .c v => some v
def vals (s : S) : List Opd → Option (List AV)
  | [] => some []
  | x :: xs => match x.val s with
    | some v => match vals s xs with
      | some vs => some (v :: vs)
      | none => none
    | none => none

def S.out (s : S) (d : Option Nat) (v : AV) : S :=
  match d with
  | some d => s.put d v
  | none => s

/-- the cells that shall own their lists do hold nil: they hold an empty list of their own from now on -/
def claim (v : AV) (ag : Bool) : List Nat → Option AV
  | [] => some v
  | o :: os => match ag with
    | true => match part v o 1 false with
      | some (.list true sz []) => match setPart v o (.list false sz []) 1 false with
        | some v' => claim v' ag os
        | none => none
      | _ => none
    | false => match o, v with
      | 0, .list true sz [] => claim (.list false sz []) ag os
      | _, _ => none

def ownersOf (l : Nat) : List Nat → List Ent
  | [] => []
  | o :: os => .l l o :: ownersOf l os

abbrev Call := Nat → List AV → H → R

/-- a guard's temporary -/
def guardOk (s : S) : Option (Nat × Bool) → Option Bool
  | none => some true
  | some (t, want) => match get s.env t with
    | some (.bool b) => some (match b, want with
      | true, true => true
      | false, false => true
      | _, _ => false)
    | some (.tuple _) => some false
    | _ => none

def xOp {α : Type} (C : Call) (o : IOp) (d : Option Nat) (s : S) (k : S → Option α) : Option α :=
  match o with
  | .p p xs => match vals s xs with
    | some vs => (evalP p vs).bind fun v => k (s.out d v)
    | none => none
  | .lnew l n ag x os => match x.val s, d with
    | some v, some d => (shape n ag v).bind fun v => (claim v ag os).bind fun v =>
        k { env := del s.env d, lp := (d, (l, 0)) :: del (delLp s.lp l) d, loc := (l, ⟨n, ag, v⟩) :: s.loc,
                    own := ownersOf l os ++ delLoc (delE s.own (.t d)) l, h := s.h }
    | _, _ => none
  | .laddr src off => match get s.lp src, d with
    | some (l, o), some d => k { s with env := del s.env d, lp := (d, (l, o + off)) :: s.lp, own := delE s.own (.t d) }
    | _, _ => none
  | .lload src n ag => match get s.lp src with
    | some (l, o) => match get s.loc l with
      | some x => match o, Nat.beq x.n n, (match x.agg, ag with | true, true => true | false, false => true | _, _ => false) with
        | 0, true, true => k (s.out d x.v)
        | o, _, _ => (part x.v o n ag).bind fun v => k (s.out d v)
      | none => none
    | none => none
  | .lstore src n ag x os => match get s.lp src, x.val s with
    | some (l, o), some v => match get s.loc l with
      | some y => match o, Nat.beq y.n n, (match y.agg, ag with | true, true => true | false, false => true | _, _ => false) with
        | 0, true, true => (shape n ag v).bind fun v => (claim v ag os).bind fun v =>
          k { s with loc := (l, ⟨n, ag, v⟩) :: s.loc, own := ownersOf l os ++ delLoc s.own l }
        | o, _, _ => (setPart y.v o v n ag).bind fun w => k { s with loc := (l, { y with v := w }) :: s.loc, own := dropRange s.own l o n }
      | none => none
    | _, _ => none
  | .onil sz => match d with
    | some d => k { s.put d (.list false sz []) with own := .t d :: delE s.own (.t d) }
    | none => none
  | .tmov src => match get s.env src, hasE s.own (.t src), d with
    | some v, true, some d => k { env := (d, v) :: s.env, lp := del s.lp d, loc := s.loc, own := .t d :: delE (delE s.own (.t d)) (.t src), h := s.h }
    | _, _, _ => none
  | .take src => match get s.lp src, d with
    | some (l, o), some d => match get s.loc l, hasE s.own (.l l o) with
      | some x, true => (match x.agg, o with
        | true, o => part x.v o 1 false
        | false, 0 => some x.v
        | _, _ => none).bind fun v => k { env := (d, v) :: s.env, lp := del s.lp d, loc := s.loc, own := .t d :: delE (delE s.own (.t d)) (.l l o), h := s.h }
      | _, _ => none
    | _, _ => none
  | .app sz bytes src y => match get s.env src, hasE s.own (.t src), y.val s, d with
    | some x, true, some y, some d => (appList sz bytes x y).bind fun v =>
        k { env := (d, v) :: s.env, lp := del s.lp d, loc := s.loc, own := .t d :: delE (delE s.own (.t d)) (.t src), h := s.h }
    | _, _, _, _ => none
  | .give src x => match get s.lp src, get s.env x, hasE s.own (.t x) with
    | some (l, o), some v, true => match get s.loc l with
      | some y => (match y.agg, o with
        | true, o => setPart y.v o v 1 false
        | false, 0 => shape 1 false v
        | _, _ => none).bind fun w => k { s with loc := (l, { y with v := w }) :: s.loc, own := .l l o :: delE (delE s.own (.l l o)) (.t x) }
      | none => none
    | _, _, _ => none
  | .hnew n ag x os => match x.val s, d with
    | some v, some d => (shape n ag v).bind fun v => (claim v ag os).bind fun v =>
      k { s.put d (.ptr s.h.size 0 0) with h := s.h.push (.cells n ag v os) }
    | _, _ => none
  | .hload n ag p => match p.val s with
    | some p => (Abs.hload s.h p n ag).bind fun v => k (s.out d v)
    | none => none
  | .hstore n ag p x => match p.val s, x.val s with
    | some p, some x => (Abs.hstore s.h p x n ag).bind fun h => k { s with h := h }
    | _, _ => none
  | .htake p => match p.val s, d with
    | some p, some d => (hTake s.h p).bind fun r => k { env := (d, r.1) :: s.env, lp := del s.lp d, loc := s.loc, own := .t d :: delE s.own (.t d), h := r.2 }
    | _, _ => none
  | .hgive p x => match p.val s, get s.env x, hasE s.own (.t x) with
    | some p, some v, true => (hGive s.h p v).bind fun h => k { s with own := delE s.own (.t x), h := h }
    | _, _, _ => none
  | .call f xs => match vals s xs with
    | some vs => (C f vs s.h).bind fun r => k { s.out d r.1 with h := r.2 }
    | none => none
  | .callv x xs => match x.val s, vals s xs with
    | some x, some vs => (callV C x vs s.h).bind fun r => k { s.out d r.1 with h := r.2 }
    | _, _ => none
  | .mapNew => match d with
    | some d => k { s.put d (.map s.h.size) with h := s.h.push (.map []) }
    | none => none
  | .mapGet zero ok m key => match m.val s, key.val s with
    | some m, some key => (mGet s.h m key zero ok).bind fun v => k (s.out d v)
    | _, _ => none
  | .mapPut m key v => match m.val s, key.val s, v.val s with
    | some m, some key, some v => (mPut s.h m key v).bind fun h => k { s with h := h }
    | _, _, _ => none
  | .mapLen m => match m.val s with
    | some m => (mLen s.h m).bind fun v => k (s.out d v)
    | none => none
  where
  dropRange : List Ent → Nat → Nat → Nat → List Ent
    | [], _, _, _ => []
    | .l a b :: r, l, o, n => match Nat.beq a l && Nat.ble o b && Nat.blt b (o + n) with
      | true => dropRange r l o n
      | false => .l a b :: dropRange r l o n
    | e :: r, l, o, n => e :: dropRange r l o n
  appList (sz bytes : Nat) (x y : AV) : Option AV :=
    match x, y with
    | .list _ s xs, .list _ t ys => if s = sz ∧ t = sz ∧ (xs.length + ys.length) * bytes ≤ 140737488355328 ∧ xs.length + ys.length ≤ maxInt then some (.list false sz (xs ++ ys)) else none
    | _, _ => none
  hTake (h : H) (p : AV) : Option (AV × H) :=
    match p with
    | .ptr b 0 off => match h.get b with
      | some (.cells n ag v os) => if off ∈ os then match ag, off with
          | true, off => (part v off 1 false).map fun x => (x, h.set b (.cells n ag v (os.filter fun o => o != off)))
          | false, 0 => some (v, h.set b (.cells n ag v []))
          | _, _ => none
        else none
      | _ => none
    | _ => none
  hGive (h : H) (p x : AV) : Option H :=
    match p with
    | .ptr b 0 off => match h.get b, mayStore h b x with
      | some (.cells n ag v os), true => match ag, off with
          | true, off => (setPart v off x 1 false).map fun w => h.set b (.cells n ag w (off :: os.filter fun o => o != off))
          | false, 0 => (shape 1 false x).map fun w => h.set b (.cells n ag w [0])
          | _, _ => none
      | _, _ => none
    | _ => none
  callV (C : Call) (x : AV) (vs : List AV) (h : H) : R :=
    match x with
    | .func f a b => C f (a ++ vs ++ b) h
    | _ => none
  mGet (h : H) (m key zero : AV) (ok : Bool) : Option AV :=
    match m with
    | .map b => match h.get b with
      | some (.map es) => match mapFind key es with
        | some v => some (match ok with | true => .tuple [v, .bool true] | false => v)
        | none => some (match ok with | true => .tuple [zero, .bool false] | false => zero)
      | _ => none
    | _ => none
  mPut (h : H) (m key v : AV) : Option H :=
    match m with
    | .map b => match h.get b, mayStore h b key && mayStore h b v with
      | some (.map es), true => some (h.set b (.map (Abs.mapPut key v es)))
      | _, _ => none
    | _ => none
  mLen (h : H) (m : AV) : Option AV :=
    match m with
    | .map b => match h.get b with
      | some (.map es) => some (.int .i64 es.length)
      | _ => none
    | _ => none

/-- a value that nobody looks at -/
def undefAV : AV := .tuple []

def xOps (C : Call) : List IOper → S → (S → R) → R
  | [], s, k => k s
  | o :: os, s, k => match guardOk s o.guard with
    | some true => xOp C o.op o.dst s fun s => xOps C os s k
    | some false => xOps C os (s.out o.dst undefAV) k
    | none => none

/-- the loads of a drawn region, seen again at the heaps ahead of and behind what is not ordered with them -/
def stable (ops : List IOper) (s : S) (hs : List H) : List (Nat × List Nat) → Bool
  | [] => true
  | (j, at_) :: r => (match ops[j]? with
    | some ⟨some d, g, .hload n ag p⟩ => match guardOk s g with
      | some false => true
      | some true => match p.val s, get s.env d with
        | some p, some v => at_.all fun i => match hs[i]? with
          | some h => match Abs.hload h p n ag with
            | some w => decide (w = v)
            | none => false
          | none => false
        | _, _ => false
      | none => false
    | some ⟨some d, g, .mapGet z ok m k⟩ => match guardOk s g with
      | some false => true
      | some true => match m.val s, k.val s, get s.env d with
        | some m, some k, some v => at_.all fun i => match hs[i]? with
          | some h => match xOp.mGet h m k z ok with
            | some w => decide (w = v)
            | none => false
          | none => false
        | _, _, _ => false
      | none => false
    | some ⟨some d, g, .mapLen m⟩ => match guardOk s g with
      | some false => true
      | some true => match m.val s, get s.env d with
        | some m, some v => at_.all fun i => match hs[i]? with
          | some h => match xOp.mLen h m with
            | some w => decide (w = v)
            | none => false
          | none => false
        | _, _ => false
      | none => false
    | _ => false) && stable ops s hs r

def xDrawn (C : Call) : List IOper → S → List H → (S → List H → R) → R
  | [], s, hs, k => k s hs
  | o :: os, s, hs, k => match guardOk s o.guard with
    | some true => xOp C o.op o.dst s fun s => xDrawn C os s (hs ++ [s.h]) k
    | some false => xDrawn C os (s.out o.dst undefAV) (hs ++ [s.h]) k
    | none => none

abbrev St := List AV × H

def heads {α β : Type} (f : α → Option β) : List α → Option (List β)
  | [] => some []
  | x :: xs => match f x with
    | some y => match heads f xs with
      | some ys => some (y :: ys)
      | none => none
    | none => none

/-- what is handed on at a head: the temporaries, then the locals -/
def Head.pack (hd : Head) (s : S) : Option (List AV) :=
  match heads (get s.env) hd.ts, heads (fun x : Nat × Nat × Bool => match get s.loc x.1 with
      | some l => match Nat.beq l.n x.2.1, (match l.agg, x.2.2 with | true, true => true | false, false => true | _, _ => false) with
        | true, true => some l.v
        | _, _ => none
      | none => none) hd.ls with
  | some a, some b => match (hd.ps.all fun p => match get s.lp p.1 with | some (l, o) => Nat.beq l p.2 && Nat.beq o 0 | none => false) && hd.os.all (hasE s.own) with
    | true => some (a ++ b)
    | false => none
  | _, _ => none
def zipT : List Nat → List AV → List (Nat × AV) × List AV
  | [], vs => ([], vs)
  | t :: ts, v :: vs => let r := zipT ts vs; ((t, v) :: r.1, r.2)
  | t :: ts, [] => let r := zipT ts []; ((t, .nili) :: r.1, r.2)
def zipL : List (Nat × Nat × Bool) → List AV → List (Nat × Loc)
  | [], _ => []
  | (l, n, ag) :: r, v :: vs => (l, ⟨n, ag, v⟩) :: zipL r vs
  | (l, n, ag) :: r, [] => (l, ⟨n, ag, .nili⟩) :: zipL r []
def Head.open (hd : Head) (vs : List AV) (h : H) : S :=
  { env := (zipT hd.ts vs).1, lp := hd.ps.map fun p => (p.1, (p.2, 0)), loc := zipL hd.ls (zipT hd.ts vs).2, own := hd.os, h := h }

abbrev Loop := ((St → R) → St → R) → St → R

/-- the run: kn goes on, kr returns, kx leaves a block -/
def exec (C : Call) (L : Loop) : IC → S → (S → R) → (S → R) → (Nat → S → R) → R
  | .skip, s, kn, _, _ => kn s
  | .region ops, s, kn, _, _ => xOps C ops s kn
  | .drawn ops chk, s, kn, _, _ => xDrawn C ops s [s.h] fun s' hs => match stable ops s' hs chk with
    | true => kn s'
    | false => none
  | .seq a b, s, kn, kr, kx => exec C L a s (fun s => exec C L b s kn kr kx) kr kx
  | .cond x a b, s, kn, kr, kx => match x.val s with
    | some (.bool t) => match t with
      | true => exec C L a s kn kr kx
      | false => exec C L b s kn kr kx
    | _ => none
  | .block id c, s, kn, kr, kx => exec C L c s kn kr fun j s => match Nat.beq j id with
    | true => kn s
    | false => kx j s
  | .loop hd c, s, _, kr, kx => match hd.pack s with
    | some vs => L (fun self st => exec C L c (hd.open st.1 st.2) (fun s => match hd.pack s with
        | some vs => self (vs, s.h)
        | none => none) kr kx) (vs, s.h)
    | none => none
  | .join hd a b, s, kn, kr, kx => exec C L a s (fun s => match hd.pack s with
      | some vs => exec C L b (hd.open vs s.h) kn kr kx
      | none => none) kr kx
  | .exit id, s, _, _, kx => kx id s
  | .ret, s, _, kr, _ => kr s

def resVal (s : S) : IRes → Option AV
  | .t n => get s.env n
  | .l l n ag => match get s.lp l with
    | some (l, 0) => match get s.loc l with
      | some x => match Nat.beq x.n n, (match x.agg, ag with | true, true => true | false, false => true | _, _ => false) with
        | true, true => some x.v
        | _, _ => none
      | none => none
    | _ => none
  | .h t n ag => match get s.env t with
    | some p => hload s.h p n ag
    | none => none
def resVals (s : S) : List IRes → Option (List AV)
  | [] => some []
  | x :: xs => match resVal s x with
    | some v => match resVals s xs with
      | some vs => some (v :: vs)
      | none => none
    | none => none

def binds : Nat → List AV → List (Nat × AV)
  | _, [] => []
  | i, v :: vs => (i, v) :: binds (i + 1) vs

def H.trunc (h : H) (n : Nat) (fl : List Nat) : H := { floors := fl, blks := h.blks.take n }

def finish (f : IFunc) (fl : List Nat) (n : Nat) (s : S) : R :=
  (match resVals s f.results with
    | some [v] => some v
    | some vs => some (.tuple vs)
    | none => none).bind fun v => match f.trunc with
    | true => if v.under n = true then some (v, s.h.trunc n fl) else none
    | false => some (v, s.h)

def execF (C : Call) (L : Loop) (f : IFunc) (args : List AV) (h : H) : R :=
  if args.length = f.params then
    exec C L f.body { env := binds 0 args, lp := [], loc := [], own := [], h := match f.trunc with | true => { h with floors := h.size :: h.floors } | false => h }
      (finish f h.floors h.size) (finish f h.floors h.size) (fun _ _ => none)
  else none

end Go.Abs
