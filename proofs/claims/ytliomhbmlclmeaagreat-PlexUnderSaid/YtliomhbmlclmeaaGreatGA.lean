/-
  Joined from: AbsA AbsB AbsC AbsD.
-/
import GoSem.Machine.Frame
import Derived.Orders
/-
  AN ABSTRACT MACHINE OVER THE MODEL's ELABORATED CODE: values without addresses where none is wanted ('lst': a slice that nobody writes any more), own memory as numbered blocks; 'ev' is its meaning of a 'Code'. Plain definitions.
-/
section
namespace Go.Abs

/-- Abstract values. -/
inductive PV where
  | junk
  | int (k : IntKind) (n : Int)
  | bool (b : Bool)
  | str (s : ByteArray)
  | agg (cs : List PV)
  | tup (xs : List PV)
  | lst (xs : List PV)
  | nilS
  | z0
  | fr (sz : Nat) (xs : List PV)
  | sl (id n off len : Nat)
  | ptr (id n idx off : Nat)
  | cref (x : PV) (off : Nat)
  | nilP
  | func (f : FuncId) (first cap : List PV)
  | nilF
  | iface (t : TypeId) (x : PV)
  | nilI
  deriving Inhabited

/-- A block of the abstract memory: elements of so many cells each. -/
structure Blk where
  sz : Nat
  xs : List PV

structure St where
  H : Nat → Option Blk
  nx : Nat
  dead : Nat → Bool

def St.empty : St := ⟨fun _ => none, 0, fun _ => false⟩

def upd (H : Nat → Option Blk) (i : Nat) (b : Option Blk) : Nat → Option Blk := fun j => if j = i then b else H j

inductive Res where
  | ok (v : PV) (st : St)
  | panic (p : PV) (st : St)
  | fail

abbrev M := St → Res

def Res.thn (r : Res) (k : PV → M) : Res :=
  match r with
  | .ok v st => k v st
  | .panic p st => .panic p st
  | .fail => .fail

def M.b (m : M) (k : PV → M) : M := fun st => (m st).thn k
def ret (v : PV) : M := fun st => .ok v st
def failM : M := fun _ => .fail
def opt (o : Option PV) : M := match o with | some v => ret v | none => failM

/-- What is known of a type. -/
inductive TD where
  | int (k : IntKind) | bool | str
  | slice (e : TypeId)
  | ptr (e : TypeId)
  | struct (fs : List (TypeId × Nat))
  | arr (n : Nat) (e : TypeId)
  | func | iface | other

structure TI where
  d : TD
  size : Nat
  bytes : Nat
  zero : PV

def TI.bad : TI := ⟨.other, 0, 0, .junk⟩
def TI.isAgg (t : TI) : Bool := match t.d with | .struct _ | .arr _ _ => true | _ => false
def TI.usable (t : TI) : Bool := match t.d with | .other => false | _ => true

def PV.cells : PV → List PV
  | .agg cs => cs
  | x => [x]

/-- A value of known form that fills just its own cells. -/
def PV.known : PV → Bool
  | .junk | .tup _ => false
  | _ => true
/-- What may be stored into one cell. -/
def PV.simple : PV → Bool
  | .junk | .tup _ | .agg _ => false
  | _ => true

mutual
def PV.noref : PV → Bool
  | .int .. | .bool _ | .str _ | .lst _ | .nilS | .nilP | .nilF | .nilI => true
  | .agg cs => noreL cs
  | .tup xs => noreL xs
  | .func _ a b => noreL a && noreL b
  | .iface _ x => x.noref
  | _ => false
def noreL : List PV → Bool
  | [] => true
  | x :: xs => x.noref && noreL xs
end

/-- No list in it, nothing that refers: numbers, truth values, texts alone. -/
def PV.scalar : PV → Bool
  | .int .. | .bool _ | .str _ => true
  | .tup xs => xs.all fun | .int .. | .bool _ | .str _ => true | _ => false
  | _ => false

/-! ### parts of values -/
/-- How a variable of a type is read: as one cell ('some none'), as so many ('some (some n)'). -/
def TI.pt (t : TI) : Option (Option Nat) := if t.isAgg then some (some t.size) else if t.usable then some none else none

def part (t : Option Nat) (x : PV) (off : Nat) : Option PV :=
  match t with
  | some n => if off + n ≤ x.cells.length then some (.agg ((x.cells.drop off).take n)) else none
  | none => x.cells[off]?

def splice (cs : List PV) (off : Nat) (vs : List PV) : List PV := cs.take off ++ vs ++ cs.drop (off + vs.length)

def setPart (x : PV) (off : Nat) (v : PV) : Option PV :=
  if v.known && v.cells.all (·.simple) then
    match x with
    | .agg cs => if off + v.cells.length ≤ cs.length then some (.agg (splice cs off v.cells)) else none
    | _ => if off = 0 ∧ v.simple then some v else none
  else none

/-! ### memory -/
def loadM (t : Option Nat) (p : PV) : M := fun st =>
  match p with
  | .ptr id n idx off =>
    match st.H id with
    | some b => if b.xs.length = n then (match b.xs[idx]? with | some x => opt (part t x off) st | none => .fail) else .fail
    | none => .fail
  | .cref x off => opt (part t x off) st
  | _ => .fail

def storeM (size : Nat) (p v : PV) : M := fun st =>
  match p with
  | .ptr id n idx off =>
    match st.H id with
    | some b => if b.xs.length = n ∧ v.cells.length = size then
        (match b.xs[idx]? with
         | some x => (match setPart x off v with
            | some y => .ok (.tup []) { st with H := upd st.H id (some ⟨b.sz, b.xs.set idx y⟩) }
            | none => .fail)
         | none => .fail) else .fail
    | none => .fail
  | _ => .fail

def fitsE (sz : Nat) (x : PV) : Bool := x.known && x.cells.length == sz

def newAt (id : Nat) (sz : Nat) (xs : List PV) (v : PV) : M := fun st =>
  if xs.all (fitsE sz) = true then .ok v { st with H := upd st.H id (some ⟨sz, xs⟩) } else .fail

/-- Makes a block under the next number, or under one that was kept for it. -/
def withId (at_ : Option Nat) (f : Nat → M) : M := fun st =>
  match at_ with
  | some id => f id st
  | none => f st.nx { st with nx := st.nx + 1 }

/-- A variable of its own that holds this. -/
def boxM (at_ : Option Nat) (size : Nat) (v : PV) : M := withId at_ fun id => newAt id size [v] (.ptr id 1 0 0)

def isAggV : PV → Bool | .agg _ => true | _ => false

def fillE (esz : Nat) (eagg : Bool) : List PV → List (Nat × PV) → Option (List PV)
  | xs, [] => some xs
  | xs, (i, v) :: ps => if i < xs.length ∧ fitsE esz v = true ∧ eagg = isAggV v then fillE esz eagg (xs.set i v) ps else none

def buildSliceM (at_ : Option Nat) (esz : Nat) (eagg : Bool) (zero : PV) (len : Nat) (ps : List (Nat × PV)) : M :=
  match fillE esz eagg (List.replicate len zero) ps with
  | some xs => if len * esz ≤ 2 ^ 24 then withId at_ fun id => newAt id esz xs (.sl id len 0 len) else failM
  | none => failM

/-- Parts (where, how many cells, what) laid over cells. -/
def fillS : List PV → List (Nat × Nat × PV) → Option (List PV)
  | cs, [] => some cs
  | cs, (off, n, v) :: ps => if v.known = true ∧ v.cells.length = n ∧ off + n ≤ cs.length then fillS (splice cs off v.cells) ps else none

def buildM (zs : List PV) (ps : List (Nat × Nat × PV)) : M :=
  match fillS zs ps with
  | some cs => ret (.agg cs)
  | none => failM

def makeSliceM (at_ : Option Nat) (esz bytes : Nat) (zero : PV) (len cap : PV) : M :=
  match len, cap with
  | .int _ l, .int _ c => if 0 ≤ l ∧ l ≤ c ∧ c ≤ 2 ^ 30 ∧ bytes ≤ 2 ^ 12 ∧ 0 < esz then withId at_ fun id => newAt id esz (List.replicate l.toNat zero) (.sl id l.toNat 0 l.toNat) else failM
  | _, _ => failM

/-! ### addresses -/
/-- Has the first element, if there is one, so many cells? -/
def fitsHd (esz : Nat) (xs : List PV) : Bool := match xs with | [] => true | x :: _ => fitsE esz x

def idxM (esz : Nat) (x i : PV) : M := fun st =>
  match x, i with
  | .lst xs, .int _ n => if 0 ≤ n then (match xs[n.toNat]? with | some y => if fitsE esz y = true then .ok (.cref y 0) st else .fail | none => .fail) else .fail
  | .sl id m off len, .int _ n =>
    (match st.H id with
     | some b => if b.sz = esz ∧ b.xs.length = m ∧ 0 ≤ n ∧ n < len then .ok (.ptr id m (off + n.toNat) 0) st else .fail
     | none => .fail)
  | _, _ => .fail

/-- An element of an array variable. -/
def idxA (len esz : Nat) (x i : PV) : M :=
  match x, i with
  | .ptr id m idx off, .int _ n => if 0 ≤ n ∧ n < len then ret (.ptr id m idx (off + n.toNat * esz)) else failM
  | .cref y off, .int _ n => if 0 ≤ n ∧ n < len then ret (.cref y (off + n.toNat * esz)) else failM
  | _, _ => failM

/-- A part of a variable, so many cells further on. -/
def addM (o : Nat) (p : PV) : M :=
  match p with
  | .ptr id n idx off => ret (.ptr id n idx (off + o))
  | .cref x off => ret (.cref x (off + o))
  | _ => failM

def fieldM (t : Option Nat) (o : Nat) (x : PV) : M :=
  match x with
  | .agg cs => opt (part t (.agg cs) o)
  | _ => failM

def nilCheckM (x : PV) : M :=
  match x with
  | .ptr .. | .cref .. | .lst _ | .sl .. | .nilS | .z0 | .func .. | .iface .. | .int .. | .bool _ | .str _ | .agg _ => ret x
  | _ => failM

/-! ### numbers -/
def binI (op : BinOp) (k : IntKind) (x y : Int) : Option PV :=
  match op with
  | .add => some (.int k (k.wrap (x + y)))
  | .sub => some (.int k (k.wrap (x - y)))
  | .mul => some (.int k (k.wrap (x * y)))
  | .quo => if y = 0 then none else some (.int k (k.wrap (x.tdiv y)))
  | .rem => if y = 0 then none else some (.int k (x.tmod y))
  | .and => some (.int k (k.wrap (BitVec.ofInt k.bits x &&& BitVec.ofInt k.bits y).toNat))
  | .or => some (.int k (k.wrap (BitVec.ofInt k.bits x ||| BitVec.ofInt k.bits y).toNat))
  | .xor => some (.int k (k.wrap (BitVec.ofInt k.bits x ^^^ BitVec.ofInt k.bits y).toNat))
  | .andNot => some (.int k (k.wrap (BitVec.ofInt k.bits x &&& ~~~ BitVec.ofInt k.bits y).toNat))
  | .eql => some (.bool (x == y))
  | .neq => some (.bool (x != y))
  | .lss => some (.bool (x < y))
  | .leq => some (.bool (x ≤ y))
  | .gtr => some (.bool (x > y))
  | .geq => some (.bool (x ≥ y))
  | _ => none

/-- Is it nil? For what can be held against nil. -/
def PV.isNil? : PV → Option Bool
  | .nilS | .nilP | .nilF | .nilI => some true
  | .lst (_ :: _) => some false
  | .ptr .. | .cref .. | .func .. | .iface .. => some false
  | _ => none

/-- The type's own sort of nil. -/
def TD.nilOf : TD → PV → Bool
  | .slice _, .nilS => true
  | .ptr _, .nilP => true
  | .func, .nilF => true
  | _, _ => false
def TD.holds : TD → PV → Bool
  | .slice _, .nilS | .slice _, .lst (_ :: _) => true
  | .ptr _, .nilP | .ptr _, .ptr .. | .ptr _, .cref .. => true
  | .func, .nilF | .func, .func .. => true
  | _, _ => false

def eqV (t : TI) (x y : PV) : Option Bool :=
  match t.d, x, y with
  | .bool, .bool a, .bool b => some (a == b)
  | .iface, .nilI, .nilI => none
  | .iface, .nilI, .iface _ _ => some false
  | .iface, .iface _ _, .nilI => some false
  | d, x, y => if d.nilOf y && d.holds x then x.isNil? else if d.nilOf x && d.holds y then y.isNil? else none

def binV (op : BinOp) (t : TI) (x y : PV) : Option PV :=
  match op, x, y with
  | .shl, .int k a, .int _ b => if b < 0 then none else some (.int k (k.wrap (a * 2 ^ (min b.toNat k.bits))))
  | .shr, .int k a, .int _ b => if b < 0 then none else some (.int k (a.fdiv (2 ^ (min b.toNat k.bits))))
  | op, .int k a, .int k' b => if k = k' then binI op k a b else none
  | .add, .str a, .str b => if a.size + b.size ≤ 2 ^ 30 then some (.str (a ++ b)) else none
  | .eql, .str a, .str b => some (.bool (a.toList == b.toList))
  | .neq, .str a, .str b => some (.bool (!(a.toList == b.toList)))
  | .eql, x, y => (eqV t x y).map fun b => .bool b
  | .neq, x, y => (eqV t x y).map fun b => .bool !b
  | _, _, _ => none

def binM (op : BinOp) (t : TI) (x y : PV) : M := opt (binV op t x y)

def unM (op : UnOp) (x : PV) : M :=
  match op, x with
  | .neg, .int k n => ret (.int k (k.wrap (0 - n)))
  | .xor, .int k n => opt (binI .xor k (if k.signed then -1 else k.max) n)
  | .not, .bool b => ret (.bool !b)
  | _, _ => failM

def convM (k : IntKind) (x : PV) : M := match x with | .int _ n => ret (.int k (k.wrap n)) | _ => failM

def pickM (c a b : PV) : M := match c with | .bool t => ret (bif t then a else b) | _ => failM

def intOf : PV → Option Int | .int _ n => some n | _ => none

def bounds (lo hi : Option PV) (len : Nat) : Option (Nat × Nat) :=
  match (match hi with | none => some (len : Int) | some v => intOf v), (match lo with | none => some 0 | some v => intOf v) with
  | some h, some l => if 0 ≤ l ∧ l ≤ h ∧ h ≤ len then some (l.toNat, h.toNat) else none
  | _, _ => none

/-- How far the upper bound may go. -/
def hiTop (hi : Option PV) (len room : Nat) : Nat := match hi with | none => len | some _ => room

def sliceStr (x : PV) (lo hi : Option PV) : M :=
  match x with
  | .str s => (match bounds lo hi s.size with | some (l, h) => ret (.str (s.extract l h)) | none => failM)
  | _ => failM

def sliceM (esz : Nat) (x : PV) (lo hi mx : Option PV) : M := fun st =>
  match x, mx with
  | .lst xs, none => (match bounds lo hi xs.length with | some (l, h) => if fitsHd esz xs = true then .ok (.lst ((xs.take h).drop l)) st else .fail | none => .fail)
  | .nilS, none => (match bounds lo hi 0 with | some _ => .ok .nilS st | none => .fail)
  | .sl id n off len, none =>
    (match st.H id with
     | some b => if b.sz = esz ∧ b.xs.length = n ∧ off ≤ n then
        (match bounds lo hi (hiTop hi len (n - off)) with
         | some (l, h) => if 0 < l ∧ n ≤ off + l then .ok (.lst []) st else .ok (.sl id n (off + l) (h - l)) st
         | none => .fail) else .fail
     | none => .fail)
  | .lst _, some (.int _ 0) => if hi.isSome = true then (match bounds lo hi 0 with | some _ => .ok .z0 st | none => .fail) else .fail
  | .nilS, some (.int _ 0) => if hi.isSome = true then (match bounds lo hi 0 with | some _ => .ok .z0 st | none => .fail) else .fail
  | _, _ => .fail

def extractM (x : PV) (i : Nat) : M := match x with | .tup xs => opt xs[i]? | _ => failM

/-- A byte of a text. -/
def byteM (x i : PV) : M :=
  match x, i with
  | .str s, .int _ n => if 0 ≤ n then (match s[n.toNat]? with | some b => ret (.int .u8 b.toNat) | none => failM) else failM
  | _, _ => failM

/-! ### slices -/
/-- The elements of a slice. -/
def elems (st : St) (x : PV) : Option (List PV) :=
  match x with
  | .lst xs => some xs
  | .nilS | .z0 => some []
  | .sl id n off len => match st.H id with
    | some b => if b.xs.length = n ∧ off + len ≤ n then some ((b.xs.drop off).take len) else none
    | none => none
  | _ => none

def isByte : PV → Bool | .int .u8 _ => true | _ => false
def pushV (r : ByteArray) (y : PV) : ByteArray := match y with | .int _ n => r.push (UInt8.ofNat n.toNat) | _ => r
/-- The text of bytes. -/
def strOfM (x : PV) : M := fun st =>
  match elems st x with
  | none => .fail
  | some ys => if ys.all isByte = true then .ok (.str (ys.foldl pushV ByteArray.empty)) st else .fail

def lenM (x : PV) : M :=
  match x with
  | .lst xs => ret (.int .i64 xs.length)
  | .nilS => ret (.int .i64 0)
  | .z0 => ret (.int .i64 0)
  | .sl _ _ _ len => ret (.int .i64 len)
  | _ => failM

def lenStr (x : PV) : M := match x with | .str s => ret (.int .i64 s.size) | _ => failM

/-- So many elements may a slice have that is appended to; so many bytes each. -/
def mostLen : Nat := 2 ^ 24
def mostBytes : Nat := 2 ^ 12

def fitsA (esz : Nat) (y : PV) : Bool := y.known && y.cells.length == esz && y.cells.all (·.simple)

def appendM (esz bytes : Nat) (s x : PV) : M := fun st =>
  match elems st x with
  | none => .fail
  | some ys =>
    if 0 < esz ∧ bytes ≤ mostBytes ∧ ys.length ≤ mostLen ∧ ys.all (fitsA esz) = true then
      match s with
      | .nilS => if ys.length = 0 then .ok s st else .ok (.sl st.nx ys.length 0 ys.length) { st with H := upd st.H st.nx (some ⟨esz, ys⟩), nx := st.nx + 1 }
      | .z0 => if ys.length = 0 then .ok s st else .ok (.sl st.nx ys.length 0 ys.length) { st with H := upd st.H st.nx (some ⟨esz, ys⟩), nx := st.nx + 1 }
      | .sl id n off len =>
        (match st.H id with
         | some b =>
           if b.xs.length = n ∧ off = 0 ∧ len ≤ n ∧ b.sz = esz ∧ len ≤ mostLen then
             if len + ys.length ≤ n then .ok (.sl id n 0 (len + ys.length)) { st with H := upd st.H id (some ⟨b.sz, b.xs.take len ++ ys ++ b.xs.drop (len + ys.length)⟩) }
             else .ok (.sl id (len + ys.length) 0 (len + ys.length)) { st with H := upd st.H id (some ⟨b.sz, b.xs.take len ++ ys⟩) }
           else .fail
         | none => .fail)
      | _ => .fail
    else .fail

def maxStep (a : Option PV) (y : PV) : Option PV :=
  match a, y with
  | some (.int k m), .int k' n => if k = k' then some (.int k (if n > m then n else m)) else none
  | _, _ => none
def minStep (a : Option PV) (y : PV) : Option PV :=
  match a, y with
  | some (.int k m), .int k' n => if k = k' then some (.int k (if n < m then n else m)) else none
  | _, _ => none
def intOnly (x : PV) : Option PV := match x with | .int _ _ => some x | _ => none
def maxI (xs : List PV) : Option PV :=
  match xs with
  | [] => none
  | x :: rest => rest.foldl maxStep (intOnly x)
def minI (xs : List PV) : Option PV :=
  match xs with
  | [] => none
  | x :: rest => rest.foldl minStep (intOnly x)

/-! ### what leaves a function, or comes into one, without references -/
mutual
def snapF (H : Nat → Option Blk) : Nat → PV → Option PV
  | 0, _ => none
  | d + 1, x =>
    match x with
    | .int .. | .bool _ | .str _ | .lst _ | .nilP | .nilF | .nilI => some x
    | .nilS | .z0 => some (.lst [])
    | .fr _ xs => some (.lst xs)
    | .sl id n off len => match H id with
      | some b => if b.xs.length = n ∧ off + len ≤ n then (snapL H d ((b.xs.drop off).take len)).map .lst else none
      | none => none
    | .agg cs => (snapL H d cs).map .agg
    | .tup cs => (snapL H d cs).map .tup
    | .iface t x => (snapF H d x).map (.iface t)
    | .func f [] [] => some (.func f [] [])
    | _ => none
def snapL (H : Nat → Option Blk) : Nat → List PV → Option (List PV)
  | 0, _ => none
  | d + 1, xs =>
    match xs with
    | [] => some []
    | x :: xs => match snapF H d x, snapL H d xs with
      | some y, some ys => some (y :: ys)
      | _, _ => none
end

mutual
/-- The blocks that 'snapF' comes to. -/
def idsF (H : Nat → Option Blk) : Nat → PV → List Nat
  | 0, _ => []
  | d + 1, x =>
    match x with
    | .sl id _ off len => id :: (match H id with | some b => idsL H d ((b.xs.drop off).take len) | none => [])
    | .agg cs => idsL H d cs
    | .tup cs => idsL H d cs
    | .iface _ x => idsF H d x
    | _ => []
def idsL (H : Nat → Option Blk) : Nat → List PV → List Nat
  | 0, _ => []
  | d + 1, xs =>
    match xs with
    | [] => []
    | x :: xs => idsF H d x ++ idsL H d xs
end

mutual
def beqV : PV → PV → Bool
  | .junk, .junk => true
  | .int k n, .int k' n' => decide (k = k') && decide (n = n')
  | .bool b, .bool b' => b == b'
  | .str s, .str s' => s.data == s'.data
  | .agg a, .agg b => beqL a b
  | .tup a, .tup b => beqL a b
  | .lst a, .lst b => beqL a b
  | .nilS, .nilS => true
  | .z0, .z0 => true
  | .fr n a, .fr m b => n == m && beqL a b
  | .sl a b c d, .sl a' b' c' d' => a == a' && b == b' && c == c' && d == d'
  | .ptr a b c d, .ptr a' b' c' d' => a == a' && b == b' && c == c' && d == d'
  | .cref x o, .cref y o' => beqV x y && o == o'
  | .nilP, .nilP => true
  | .func f a b, .func f' a' b' => f == f' && beqL a a' && beqL b b'
  | .nilF, .nilF => true
  | .iface t x, .iface t' y => t == t' && beqV x y
  | .nilI, .nilI => true
  | _, _ => false
def beqL : List PV → List PV → Bool
  | [], [] => true
  | x :: xs, y :: ys => beqV x y && beqL xs ys
  | _, _ => false
end

mutual
theorem beqV_refl : ∀ x : PV, beqV x x = true
  | .junk => by simp [beqV]
  | .int _ _ => by simp [beqV]
  | .bool _ => by simp [beqV]
  | .str _ => by simp [beqV]
  | .agg a => by simp [beqV, beqL_refl a]
  | .tup a => by simp [beqV, beqL_refl a]
  | .lst a => by simp [beqV, beqL_refl a]
  | .nilS => by simp [beqV]
  | .z0 => by simp [beqV]
  | .fr _ a => by simp [beqV, beqL_refl a]
  | .sl _ _ _ _ => by simp [beqV]
  | .ptr _ _ _ _ => by simp [beqV]
  | .cref x _ => by simp [beqV, beqV_refl x]
  | .nilP => by simp [beqV]
  | .func _ a b => by simp [beqV, beqL_refl a, beqL_refl b]
  | .nilF => by simp [beqV]
  | .iface _ x => by simp [beqV, beqV_refl x]
  | .nilI => by simp [beqV]
theorem beqL_refl : ∀ xs : List PV, beqL xs xs = true
  | [] => by simp [beqL]
  | x :: xs => by simp [beqL, beqV_refl x, beqL_refl xs]
end

mutual
theorem beqV_eq : ∀ x y : PV, beqV x y = true → x = y
  | .junk, y, h => by cases y <;> simp [beqV] at h ⊢
  | .int _ _, y, h => by cases y <;> simp [beqV] at h ⊢; exact h
  | .bool _, y, h => by cases y <;> simp [beqV] at h ⊢; exact h
  | .str s, y, h => by
    cases y <;> simp [beqV] at h ⊢
    exact ByteArray.ext h
  | .agg a, y, h => by cases y <;> simp [beqV] at h ⊢; exact beqL_eq a _ h
  | .tup a, y, h => by cases y <;> simp [beqV] at h ⊢; exact beqL_eq a _ h
  | .lst a, y, h => by cases y <;> simp [beqV] at h ⊢; exact beqL_eq a _ h
  | .nilS, y, h => by cases y <;> simp [beqV] at h ⊢
  | .z0, y, h => by cases y <;> simp [beqV] at h ⊢
  | .fr _ a, y, h => by cases y <;> simp [beqV] at h ⊢; exact ⟨h.1, beqL_eq a _ h.2⟩
  | .sl _ _ _ _, y, h => by cases y <;> simp [beqV] at h ⊢; simp_all
  | .ptr _ _ _ _, y, h => by cases y <;> simp [beqV] at h ⊢; simp_all
  | .cref x _, y, h => by cases y <;> simp [beqV] at h ⊢; exact ⟨beqV_eq x _ h.1, h.2⟩
  | .nilP, y, h => by cases y <;> simp [beqV] at h ⊢
  | .func _ a b, y, h => by cases y <;> simp [beqV] at h ⊢; exact ⟨h.1.1, beqL_eq a _ h.1.2, beqL_eq b _ h.2⟩
  | .nilF, y, h => by cases y <;> simp [beqV] at h ⊢
  | .iface _ x, y, h => by cases y <;> simp [beqV] at h ⊢; exact ⟨h.1, beqV_eq x _ h.2⟩
  | .nilI, y, h => by cases y <;> simp [beqV] at h ⊢
theorem beqL_eq : ∀ xs ys : List PV, beqL xs ys = true → xs = ys
  | [], ys, h => by cases ys <;> simp [beqL] at h ⊢
  | x :: xs, ys, h => by cases ys <;> simp [beqL] at h ⊢; exact ⟨beqV_eq x _ h.1, beqL_eq xs _ h.2⟩
end

def beqO : Option Blk → Option Blk → Bool
  | none, none => true
  | some a, some b => a.sz == b.sz && beqL a.xs b.xs
  | _, _ => false
theorem beqO_eq {a b : Option Blk} (h : beqO a b = true) : a = b := by
  cases a <;> cases b <;> simp [beqO] at h ⊢
  rename_i a b
  obtain ⟨h1, h2⟩ := h
  cases a; cases b
  simp only at h1 h2
  rw [h1, beqL_eq _ _ h2]
theorem beqO_refl (a : Option Blk) : beqO a a = true := by cases a <;> simp [beqO, beqL_refl]

/-- Are two memories the same as far as a number? -/
def sameTo (H H' : Nat → Option Blk) : Nat → Bool
  | 0 => true
  | n + 1 => beqO (H n) (H' n) && sameTo H H' n
theorem sameTo_iff {H H' : Nat → Option Blk} : ∀ {n : Nat}, sameTo H H' n = true ↔ ∀ i, i < n → H i = H' i
  | 0 => by simp [sameTo]
  | n + 1 => by
    simp only [sameTo, Bool.and_eq_true, sameTo_iff (n := n)]
    constructor
    · rintro ⟨h1, h2⟩ i hi
      by_cases h : i = n
      · subst h; exact beqO_eq h1
      · exact h2 i (by omega)
    · intro h
      exact ⟨by rw [h n (by omega)]; exact beqO_refl _, fun i hi => h i (by omega)⟩

end Go.Abs
end
/-
  THE ABSTRACT MACHINE's MEANING OF CODE. Plain definitions: nothing is proved here.
-/
section
namespace Go.Abs

/-- What a call of a function without references comes to. -/
inductive PRes where
  | ret (v : PV)
  | panic (p : PV)
  | fail

inductive CallE where
  | none
  | P (F : List PV → PRes)
  | R (F : List PV → M)
  | S (F : List PV → M)
  | N (F : List PV → M)

/-- What the walk is told beside the code: at which conditions (by the first region behind them) and blocks (by the number) the ways meet, and which slots are then still read; of each loop (by its body's first region) its slots; which calls' results become memory of our own; which calls take their arguments' memory away. -/
structure Hints where
  join : List (Nat × List Nat) := []
  blk : List (Nat × List Nat) := []
  loop : List (Nat × List Nat) := []
  own : List Nat := []
  frz : List Nat := []
  buf : List (Nat × Nat) := []

structure Ctx where
  T : TypeId → TI
  call : FuncId → CallE
  dyn : FuncId → List PV → M
  dynR : Bool
  h : Hints

def look {α : Type} (l : List (Nat × α)) (k : Nat) : Option α :=
  match l with
  | [] => none
  | (i, x) :: l => if i = k then some x else look l k

def ofConst : Value → PV
  | .int k n => .int k n
  | .bool b => .bool b
  | .string s => .str s
  | .pointer none => .nilP
  | .slice none 0 0 => .nilS
  | .nilFunc => .nilF
  | .nilIface => .nilI
  | _ => .junk

def opd (s : List PV) : Operand → PV
  | .tmp t => s.getD t .junk
  | .const v => ofConst v
  | .global _ => .junk
  | .func f => .func f [] []

def putS (s : List PV) (d : Option Tmp) (v : PV) : List PV :=
  match d with
  | some d => s.set d v
  | none => s

/-- The same, a step at a time: so that the kernel has the list at hand, and no promise of one. -/
def setK {α : Type} : List PV → Nat → PV → (List PV → α) → α
  | [], _, _, k => k []
  | _ :: xs, 0, v, k => k (v :: xs)
  | x :: xs, n + 1, v, k => setK xs n v fun ys => k (x :: ys)
def putK {α : Type} (s : List PV) (d : Option Tmp) (v : PV) (k : List PV → α) : α :=
  match d with
  | some d => setK s d v k
  | none => k s
def atK {α : Type} : List PV → Nat → (PV → α) → α
  | [], _, k => k .junk
  | x :: _, 0, k => k x
  | _ :: xs, n + 1, k => atK xs n k
def getK {α : Type} (s : List PV) (x : Operand) (k : PV → α) : α :=
  match x with
  | .tmp t => atK s t k
  | .const v => k (ofConst v)
  | .global _ => k .junk
  | .func f => k (.func f [] [])
def forceL {α : Type} : List PV → (List PV → α) → α
  | [], k => k []
  | x :: xs, k => forceL xs fun ys => k (x :: ys)

/-- WHAT A FUNCTION DOES, AS A TREE: the walk of a code makes one, which the kernel holds against a printed one; 'run' is its meaning. -/
inductive Prog where
  | bnd (m : M) (k : PV → Prog)
  | leaf (m : M)
  | ifP (c : PV) (a b : Prog)
  | join (body : List PV → Prog) (use : (List PV → M) → Prog)
  | loop (F : (List PV → M) → List PV → Prog) (v : List PV)
  | base (n : Nat) (k : Nat → Prog)

def ifM (c : PV) (a b : M) : M :=
  match c with
  | .bool t => bif t then a else b
  | _ => failM

def iter : Nat → ((List PV → M) → List PV → M) → List PV → M
  | 0, _, _ => failM
  | n + 1, F, v => F (iter n F) v

def fuel : Nat := 2 ^ 64

/-- Numbers kept for the blocks that are made in what follows. -/
def withBase (n : Nat) (f : Nat → M) : M := fun st => f st.nx { st with nx := st.nx + n }

def Prog.run : Prog → M
  | .bnd m k => m.b fun v => (k v).run
  | .leaf m => m
  | .ifP c a b => ifM c a.run b.run
  | .join body use => (use fun v => (body v).run).run
  | .loop F v => iter fuel (fun self v => (F self v).run) v
  | .base n k => withBase n fun b => (k b).run

def kill (st : St) : List Nat → St
  | [] => st
  | i :: is => (match st.H i with
    | some _ => kill { st with H := upd st.H i none, dead := fun j => if j = i then true else st.dead j } is
    | none => kill st is)

def depth : Nat := 1000000

/-- A result that is fresh becomes memory of our own ('own'), or a list. -/
def takeM (own : Option Nat) (v : PV) : M :=
  match v, own with
  | .fr sz xs, some e => if sz = e ∧ xs.all (fitsE sz) = true then withId none fun id => fun st => .ok (.sl id xs.length 0 xs.length) { st with H := upd st.H id (some ⟨sz, xs⟩) } else failM
  | .fr _ xs, none => ret (.lst xs)
  | v, _ => ret v

def callP (frz : Bool) (own : Option Nat) (mayPanic : Bool) (F : List PV → PRes) (args : List PV) : M := fun st =>
  match snapL st.H depth args with
  | none => .fail
  | some as_ =>
    match F as_ with
    | .fail => .fail
    | .panic p => if mayPanic && noreL args then .panic p st else .fail
    | .ret v =>
      if noreL args then takeM own v st
      else if frz then takeM own v (kill st (idsL st.H depth args))
      else if v.scalar then .ok v st else .fail

/-- A call of what may panic where that must not be. -/
def calm (mayPanic : Bool) (m : M) : M := fun st =>
  match m st with
  | .panic p st' => if mayPanic then .panic p st' else .fail
  | r => r

/-- A call that leaves all as it was. -/
def callR (F : List PV → M) (args : List PV) : M := fun st =>
  match F args st with
  | .ok v st' => if sameTo st'.H st.H st.nx = true ∧ v.noref = true then .ok v st else .fail
  | .panic p st' => if sameTo st'.H st.H st.nx = true ∧ p.noref = true then .panic p st else .fail
  | .fail => .fail

/-- A call that makes new blocks, and leaves the old ones as they were. -/
def callN (F : List PV → M) (args : List PV) : M := fun st =>
  match F args st with
  | .ok v st' => if sameTo st'.H st.H st.nx = true then .ok v st' else .fail
  | .panic p st' => .panic p st'
  | .fail => .fail

section
variable (X : Ctx)

/-- A call of a known function; 'mp': it may panic here. -/
def callM (mp : Bool) (frz : Bool) (own : Option Nat) (f : FuncId) (args : List PV) : M :=
  match X.call f with
  | .none => failM
  | .P F => callP frz own mp F args
  | .R F => calm mp (callR F args)
  | .S F => calm mp (F args)
  | .N F => calm mp (callN F args)

def dynM (mp : Bool) (f : PV) (args : List PV) : M :=
  match f with
  | .func g first cap => if X.dynR then calm mp (callR (X.dyn g) (first ++ args ++ cap)) else calm mp (X.dyn g (first ++ args ++ cap))
  | _ => failM

def isU8 : TD → Bool | .int .u8 => true | _ => false

/-- Only of a type that the table holds. -/
def ifU (t : TI) (m : M) : M := bif t.usable then m else failM

def builtinM (b : Builtin) (types : List TypeId) (args : List PV) : M :=
  match b, types, args with
  | .len, [t], [x] => (match (X.T t).d with | .slice _ => lenM x | .str => lenStr x | .arr n _ => ret (.int .i64 n) | _ => failM)
  | .append, [t, t'], [s, x] => (match (X.T t).d with | .slice e => ifU (X.T e) (bif t' == t then appendM (X.T e).size (X.T e).bytes s x else failM) | _ => failM)
  | .max, _, xs => opt (maxI xs)
  | .min, _, xs => opt (minI xs)
  | _, _, _ => failM

/-- Where a field lies, and how many cells it has. -/
def fieldOf (t : TI) (f : Nat) : Option (Nat × TI) :=
  match t.d with
  | .struct fs => (match fs[f]? with | some (u, o) => some (o, X.T u) | none => none)
  | _ => none

/-- Where the parts of a struct lie. -/
def placesOf (t : TI) (s : List PV) : List (Nat × Operand) → Option (List (Nat × Nat × PV))
  | [] => some []
  | (f, x) :: ps =>
    match fieldOf X t f, placesOf t s ps with
    | some (o, u), some l => if u.usable then some ((o, u.size, opd s x) :: l) else none
    | _, _ => none

/-- One operation. 'at_': the number of the block that it makes, if it was kept for it. -/
def evOp (mp : Bool) (at_ : Option Nat) (o : Oper) (s : List PV) : M :=
  match o.op with
  | .move x | .assign x => ret (opd s x)
  | .pick c a b => pickM (opd s c) (opd s a) (opd s b)
  | .alloc e => ifU (X.T e) (boxM at_ (X.T e).size (X.T e).zero)
  | .box e x => ifU (X.T e) (boxM at_ (X.T e).size (opd s x))
  | .build t ps => (match (X.T t).d, (X.T t).zero, placesOf X (X.T t) s ps.toList with | .struct _, .agg zs, some l => buildM zs l | _, _, _ => failM)
  | .buildSlice t len ps => (match (X.T t).d with | .slice e => ifU (X.T e) (buildSliceM at_ (X.T e).size (X.T e).isAgg (X.T e).zero len (ps.toList.map fun p => (p.1, opd s p.2))) | _ => failM)
  | .load t a => (match (X.T t).pt with | some q => loadM q (opd s a) | none => failM)
  | .store t a v => ifU (X.T t) (storeM (X.T t).size (opd s a) (opd s v))
  | .nilCheck x => nilCheckM (opd s x)
  | .binOp op t x y _ => binM op (X.T t) (opd s x) (opd s y)
  | .unOp op _ x => unM op (opd s x)
  | .convert a b x => (match (X.T b).d, (X.T a).d with
     | .int k, _ => ifU (X.T a) (convM k (opd s x))
     | .str, .slice e => bif isU8 (X.T e).d then strOfM (opd s x) else failM
     | _, _ => failM)
  | .makeFunc (.func f) first cap => ret (.func f (first.toList.map (opd s)) (cap.toList.map (opd s)))
  | .makeSlice t l c => (match (X.T t).d with | .slice e => ifU (X.T e) (makeSliceM at_ (X.T e).size (X.T e).bytes (X.T e).zero (opd s l) (opd s c)) | _ => failM)
  | .slice t x lo hi mx => (match (X.T t).d, mx with
     | .str, none => sliceStr (opd s x) (lo.map (opd s)) (hi.map (opd s))
     | .slice e, _ => ifU (X.T e) (sliceM (X.T e).size (opd s x) (lo.map (opd s)) (hi.map (opd s)) (mx.map (opd s)))
     | _, _ => failM)
  | .fieldAddr t x f => (match fieldOf X (X.T t) f with | some (o, u) => ifU u (bif u.size == 0 then failM else addM o (opd s x)) | none => failM)
  | .field t x f => (match fieldOf X (X.T t) f with | some (o, u) => (match u.pt with | some q => fieldM q o (opd s x) | none => failM) | none => failM)
  | .indexAddr t x i => (match (X.T t).d with | .slice e => ifU (X.T e) (idxM (X.T e).size (opd s x) (opd s i)) | .arr n e => ifU (X.T e) (idxA n (X.T e).size (opd s x) (opd s i)) | _ => failM)
  | .index t x i => (match (X.T t).d with | .str => byteM (opd s x) (opd s i) | _ => failM)
  | .extract t i => extractM (opd s t) i
  | .makeInterface t x => (match (X.T t).d with | .iface | .other => failM | _ => ret (.iface t (opd s x)))
  | .panic x => (match opd s x with | .iface t v => if mp then fun st => .panic (.iface t v) st else failM | _ => failM)
  | .call c =>
    (match c.callee with
     | .builtin b => builtinM X b c.argTypes.toList (c.args.toList.map (opd s))
     | .value (.func f) => callM X mp (X.h.frz.contains (o.dst.getD 0)) (if X.h.own.contains (o.dst.getD 0) then (match (X.T o.type).d with | .slice e => some (X.T e).size | _ => none) else none) f (c.args.toList.map (opd s))
     | .value (.tmp t) => dynM X mp (opd s (.tmp t)) (c.args.toList.map (opd s))
     | _ => failM)
  | _ => failM

/-- An operation under a guard. -/
def guardM (g : PV) (want : Bool) (m : M) : M :=
  match g with
  | .bool b => bif b == want then m else ret (.tup [])
  | .tup [] => ret (.tup [])
  | _ => failM

/-- The slot that an operation's guard looks at. -/
def guardOf (ops : List Oper) (o : Oper) : Option (Option Tmp × Bool) :=
  match o.guard with
  | none => none
  | some (j, want) => some ((ops[j]?).bind (·.dst), want)

def evG (ops : List Oper) (mp : Bool) (at_ : Option Nat) (o : Oper) (s : List PV) : M :=
  match guardOf ops o with
  | none => evOp X mp at_ o s
  | some (none, _) => ret (.tup [])
  | some (some d, want) => guardM (s.getD d .junk) want (evOp X mp at_ o s)

/-- A plain copy; a nil slice may become a buffer of our own. -/
def copyOf (o : Oper) : Option Operand :=
  match o.guard, o.op with
  | none, .move x | none, .assign x => some x
  | _, _ => none

/-- A value becomes one without references, and its memory is given away. -/
def frzM (v : PV) : M := fun st => match snapF st.H depth v with | some y => .ok y (kill st (idsF st.H depth v)) | none => .fail
/-- A nil slice that becomes an empty buffer of our own; any other value becomes one without references. -/
def bufM (sz : Nat) (v : PV) : M :=
  match v with
  | .nilS => withId none fun id => fun st => .ok (.sl id 0 0 0) { st with H := upd st.H id (some ⟨sz, []⟩) }
  | v => frzM v

def evOps (all : List Oper) : List Oper → List PV → (List PV → Prog) → Prog
  | [], s, k => k s
  | o :: os, s, k =>
    match copyOf o with
    | some x =>
      (match (match o.dst with | some d => look X.h.buf d | none => none) with
       | some sz => .bnd (bufM sz (opd s x)) fun v => putK s o.dst v fun s => evOps all os s k
       | none => getK s x fun v => putK s o.dst v fun s => evOps all os s k)
    | none =>
      (match (match o.dst with | some d => look X.h.buf d | none => none) with
       | some _ => .bnd ((evG X all true none o s).b frzM) fun v => putK s o.dst v fun s => evOps all os s k
       | none => .bnd (evG X all true none o s) fun v => putK s o.dst v fun s => evOps all os s k)

/-! ### regions that draw their order -/
/-- What an operation does to memory: nothing (P); it looks at blocks that its operands name (R), at whatever (Q); it makes a block (A); it makes blocks, and leaves all others alone (N); it may do all (W). -/
inductive Cls where
  | P | R | Q | A | N | W
  deriving DecidableEq

def isStr : TD → Bool | .str => true | _ => false

def clsOp (o : Oper) : Cls :=
  match o.op with
  | .move _ | .assign _ | .pick .. | .build .. | .nilCheck _ | .binOp .. | .unOp .. | .makeFunc .. | .fieldAddr .. | .field .. | .index .. | .extract .. | .makeInterface .. => .P
  | .convert _ b _ => bif isStr (X.T b).d then .R else .P
  | .load .. | .slice .. | .indexAddr .. => .R
  | .alloc _ | .box .. | .buildSlice .. | .makeSlice .. => .A
  | .call c =>
    (match c.callee with
     | .builtin .len | .builtin .max | .builtin .min => .P
     | .value (.func f) => (match X.call f with | .P _ => if X.h.frz.contains (o.dst.getD 0) || X.h.own.contains (o.dst.getD 0) then .W else .R | .R _ => .Q | .N _ => .N | _ => .W)
     | .value (.tmp _) => if X.dynR then .Q else .W
     | _ => .W)
  | _ => .W

/-- Two operations of which neither need come first. -/
def compat : Cls → Cls → Bool
  | .P, _ | _, .P => true
  | .R, .R | .R, .Q | .Q, .R | .Q, .Q => true
  | .A, .R | .R, .A | .A, .A => true
  | .R, .N | .N, .R => true
  | _, _ => false

/-- Of an operation, the operations that it waits for, through others too (a number's bits). -/
def maskOf (o : Oper) (acc : List Nat) : Nat :=
  o.after.toList.foldl (fun m e => if Region.binds .any e then m ||| 2 ^ e.on ||| acc.getD e.on 0 else m) 0
def masksFrom : List Oper → List Nat → List Nat
  | [], acc => acc
  | o :: os, acc => masksFrom os (acc ++ [maskOf o acc])
def masks (ops : List Oper) : List Nat := masksFrom ops []

/-- The slot that holds the address which an operation reads, or writes (true). -/
def addrOf (o : Oper) : Option (Tmp × Bool) :=
  match o.guard, o.op with
  | none, .load _ (.tmp a) => some (a, false)
  | none, .store _ (.tmp a) _ => some (a, true)
  | _, _ => none

/-- Two of which one writes, and which may come in either order if their addresses lie in different blocks. -/
def cellPair (x y : Oper) : Option (Tmp × Tmp) :=
  match addrOf x, addrOf y with
  | some (a, p), some (b, q) => bif p || q then some (a, b) else none
  | _, _ => none

/-- Is a slot, where operation i looks at it, what it stays? -/
def settled (ops : List Oper) (ms : List Nat) (i : Nat) (a : Tmp) : Bool :=
  (List.range ops.length).all fun p => (match ops[p]? with | some o => o.dst != some a | none => true) || (ms.getD i 0).testBit p

def cellOk (ops : List Oper) (ms : List Nat) (j i : Nat) (oj oi : Oper) : Bool :=
  match cellPair oj oi with
  | some (a, b) => settled ops ms j a && settled ops ms i b
  | none => false

def pairOk (ops : List Oper) (ms : List Nat) (j i : Nat) : Bool :=
  match ops[j]?, ops[i]? with
  | some oj, some oi => (ms.getD i 0).testBit j || (Oper.apart ops.toArray oj oi && (compat (clsOp X oj) (clsOp X oi) || cellOk ops ms j i oj oi))
  | _, _ => true

/-- The pairs of addresses that are to lie in different blocks. -/
def cellPairs (ops : List Oper) : List (Tmp × Tmp) :=
  (List.range ops.length).flatMap fun i => (List.range i).flatMap fun j =>
    match ops[j]?, ops[i]? with
    | some oj, some oi => bif ((masks ops).getD i 0).testBit j || compat (clsOp X oj) (clsOp X oi) then [] else (cellPair oj oi).toList
    | _, _ => []

/-- May these operations be walked in the order of the text? -/
def drawOk (ops : List Oper) : Bool :=
  (List.range ops.length).all fun i =>
    (match ops[i]? with | some o => o.after.toList.all fun e => !Region.binds .any e || Nat.blt e.on i | none => true) &&
    (List.range i).all fun j => pairOk X ops (masks ops) j i

/-- May operation i end in a panic? Only if all behind it wait for it, and what stands ahead of it, unawaited, leaves memory alone. -/
def panicOk (ops : List Oper) (i : Nat) : Bool :=
  (cellPairs X ops).isEmpty && ((List.range ops.length).all fun j => Nat.ble j i || ((masks ops).getD j 0).testBit i) &&
  ((List.range i).all fun j => ((masks ops).getD i 0).testBit j || (match ops[j]? with | some o => (match clsOp X o with | .P | .R | .Q => true | _ => false) | none => true))

def evOpsD (all : List Oper) (base : Nat) : List Oper → Nat → List PV → (List PV → Prog) → Prog
  | [], _, s, k => k s
  | o :: os, i, s, k =>
    match copyOf o with
    | some x => getK s x fun v => putK s o.dst v fun s => evOpsD all base os (i + 1) s k
    | none => .bnd (evG X all (panicOk X all i) (some (base + i)) o s) fun v => putK s o.dst v fun s => evOpsD all base os (i + 1) s k

/-- Two addresses in different blocks. -/
def apartM (p q : PV) : M :=
  match p, q with
  | .ptr i _ _ _, .ptr j _ _ _ => if i = j then failM else ret (.tup [])
  | .cref _ _, .ptr _ _ _ _ => ret (.tup [])
  | .ptr _ _ _ _, .cref _ _ => ret (.tup [])
  | _, _ => failM

def chk : List (Tmp × Tmp) → List PV → (List PV → Prog) → Prog
  | [], s, k => k s
  | (a, b) :: ps, s, k => .bnd (apartM (s.getD a .junk) (s.getD b .junk)) fun _ => chk ps s k

def evDraw (ops : List Oper) (s : List PV) (k : List PV → Prog) : Prog :=
  bif drawOk X ops then
    (bif ops.any (fun o => clsOp X o == .A) then .base ops.length fun base => evOpsD X ops base ops 0 s (fun s => chk (cellPairs X ops) s k)
     else evOpsD X ops 0 ops 0 s (fun s => chk (cellPairs X ops) s k))
  else .leaf failM

/-! ### code -/
/-- A code's first region, and 1000 for each loop that opens ahead of it: by this a condition or a loop is told from others. -/
def keyOf : Code → Option Nat
  | .region id _ _ => some id
  | .seq a b => (match keyOf a with | some i => some i | none => keyOf b)
  | .cond _ a b => (match keyOf a with | some i => some i | none => keyOf b)
  | .block _ b => keyOf b
  | .loop b => (keyOf b).map (1000 + ·)
  | _ => none
def keyOf2 (a b : Code) : Option Nat := match keyOf a with | some i => some i | none => keyOf b

def proj (live : List Nat) (s : List PV) : List PV := live.map fun i => s.getD i .junk
def unprojFrom : List Nat → Nat → List PV → List PV → List PV
  | [], _, _, s => s
  | i :: l, j, v, s => unprojFrom l (j + 1) v (s.set i (v.getD j .junk))
def unproj (n : Nat) (live : List Nat) (v : List PV) : List PV := unprojFrom live 0 v (List.replicate n .junk)

structure Ks where
  nrm : List PV → Prog
  ret : List PV → Prog
  ext : Nat → List PV → Prog

def ev : Code → Ks → List PV → Prog
  | .skip, κ, s => κ.nrm s
  | .region _ ops draw, κ, s => bif draw then evDraw X ops.toList s κ.nrm else evOps X ops.toList ops.toList s κ.nrm
  | .seq a b, κ, s => ev a { κ with nrm := fun s' => ev b κ s' } s
  | .cond c a b, κ, s =>
    (match (match keyOf2 a b with | some r => look X.h.join r | none => none) with
     | some live => .join (fun v => forceL (unproj s.length live v) κ.nrm) fun j =>
         .ifP (opd s c) (ev a { κ with nrm := fun s' => .leaf (j (proj live s')) } s) (ev b { κ with nrm := fun s' => .leaf (j (proj live s')) } s)
     | none => .ifP (opd s c) (ev a κ s) (ev b κ s))
  | .block i b, κ, s =>
    (match look X.h.blk i with
     | some live => .join (fun v => forceL (unproj s.length live v) κ.nrm) fun j =>
         ev b { κ with nrm := fun s' => .leaf (j (proj live s')), ext := fun n s' => if n = i then .leaf (j (proj live s')) else κ.ext n s' } s
     | none => ev b { κ with ext := fun n s' => if n = i then κ.nrm s' else κ.ext n s' } s)
  | .loop b, κ, s =>
    (match (match keyOf b with | some r => look X.h.loop r | none => none) with
     | some live => .loop (fun self v => forceL (unproj s.length live v) fun s0 => ev b { κ with nrm := fun s' => .leaf (self (proj live s')) } s0) (proj live s)
     | none => .leaf failM)
  | .exit i, κ, s => κ.ext i s
  | .ret, κ, s => κ.ret s
  | _, _, _ => .leaf failM

/-! ### functions -/
def resP : List ResultVar → List PV → List PV → Prog
  | [], _, [v] => .leaf (ret v)
  | [], _, vs => .leaf (ret (.tup vs))
  | .tmp t :: rs, s, vs => resP rs s (vs ++ [s.getD t .junk])
  | .cell a t :: rs, s, vs => (match (X.T t).pt with | some q => .bnd (loadM q (s.getD a .junk)) fun v => resP rs s (vs ++ [v]) | none => .leaf failM)

def evBody (fn : Func) (args : List PV) : Prog :=
  match fn.body with
  | some c => forceL (args ++ List.replicate (fn.ntmps - args.length) (.tup [])) fun s => ev X c ⟨fun s => resP X fn.results.toList s [], fun s => resP X fn.results.toList s [], fun _ _ => .leaf failM⟩ s
  | none => .leaf failM

end

/-- A result that is a whole buffer of our own is handed over fresh. -/
def freshV (st : St) (v : PV) : Option PV :=
  match v with
  | .sl id n 0 len => (match st.H id with | some b => if b.xs.length = n ∧ len = n ∧ noreL b.xs = true then some (.fr b.sz b.xs) else none | none => none)
  | v => snapF st.H depth v

/-- A function without references: it runs on memory of its own. -/
def runP (fresh : Bool) (body : List PV → M) : List PV → PRes := fun args =>
  match body args .empty with
  | .ok v st => (match (bif fresh then freshV st v else snapF st.H depth v) with | some v => .ret v | none => .fail)
  | .panic p st => (match snapF st.H depth p with | some p => .panic p | none => .fail)
  | .fail => .fail

end Go.Abs
end
/-
  WORDS FOR THE PRINTED FUNCTIONS.
-/
section
namespace Go.Abs
abbrev I (n : Int) : PV := .int .i64 n
def g (v : List PV) (i : Nat) : PV := v.getD i .junk
def panicM (mp : Bool) (x : PV) : M := match x with | .iface t v => if mp then fun st => .panic (.iface t v) st else failM | _ => failM
def dynC (D : FuncId → List PV → M) (r mp : Bool) (f : PV) (args : List PV) : M :=
  match f with
  | .func g first cap => if r then calm mp (callR (D g) (first ++ args ++ cap)) else calm mp (D g (first ++ args ++ cap))
  | _ => failM
end Go.Abs
end
/-
  FUNCTIONS BY HAND: what they mean.
-/
section
namespace Go.Abs

def lookC : List (FuncId × CallE) → FuncId → CallE
  | [], _ => .none
  | (i, e) :: l, f => bif Nat.beq i f then e else lookC l f
def lookD : List (FuncId × (List PV → M)) → FuncId → List PV → M
  | [], _ => fun _ => failM
  | (i, e) :: l, f => bif Nat.beq i f then e else lookD l f


/-- What it does: the function's panic is told by false. -/
def guardedM (D : FuncId → List PV → M) (g : FuncId) (args : List PV) : M := fun st =>
  match D g args ⟨upd st.H st.nx (some ⟨1, [.bool false]⟩), st.nx + 1, st.dead⟩ with
  | .ok _ st2 =>
    (match st2.H st.nx with
     | some ⟨1, [.bool _]⟩ => .ok (.bool true) { st2 with H := upd st2.H st.nx (some ⟨1, [.bool true]⟩) }
     | _ => .fail)
  | .panic p st2 =>
    (match p, st2.H st.nx with
     | .iface _ _, some ⟨1, [.bool _]⟩ => .ok (.bool false) { st2 with H := upd st2.H st.nx (some ⟨1, [.bool false]⟩) }
     | _, _ => .fail)
  | .fail => .fail

def guardedF (D : FuncId → List PV → M) : List PV → M
  | [.func g first cap] => guardedM D g (first ++ cap)
  | _ => failM

/-- slices.Clone: of no elements, whether nil or not, fresh and empty. -/
def cloneW (sz : Nat) (F0 : List PV → PRes) : List PV → PRes
  | [.lst []] => .ret (.fr sz [])
  | as_ => F0 as_

end Go.Abs
end
