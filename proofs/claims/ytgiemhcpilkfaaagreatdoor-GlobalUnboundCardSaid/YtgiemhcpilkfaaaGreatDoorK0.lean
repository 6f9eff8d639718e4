/- The abstract evaluator: pure values, an annotated copy of the model's code, and what it comes to. No program in sight. -/
import Derived.Calls
import Derived.Orders

namespace Go.Ab

inductive PV where
  | undef
  | never
  | bool (b : Bool)
  | int (k : IntKind) (n : Int)
  | str (s : ByteArray)
  | nil
  | nilp
  | list (es : List PV)
  | agg (cs : List PV)
  | tuple (vs : List PV)
  | ptr (κ off : Nat)
  | arr (κ tot off len : Nat)
  | aptr (κ tot i c : Nat)
  | eptr (cs : List PV)
  | boxed (cs : List PV)
  | fn (f : Nat)
  | map (κ : Nat)
  | rptr (cs : List PV)
  | clo (f : Nat) (first caps : List PV)
  | nilfn
  | yfn (l : Nat)
  deriving Inhabited

def PV.cells : PV → List PV
  | .agg cs => cs
  | v => [v]

inductive Src where
  | t (i : Nat)
  | c (v : PV)
  deriving Inhabited

inductive Blk where
  | box (cs : List PV)
  | arr (sz : Nat) (rows : List PV) (ro : Bool)
  | siter (s : ByteArray) (pos : Nat)
  | map (es : List (Int × Bool))
  | rbox (cs : List PV)

abbrev Hp := Nat → Option Blk
abbrev Tm := Nat → PV

structure St where
  T : Tm
  H : Hp

def upd {α : Type} (f : Nat → α) (k : Nat) (v : α) : Nat → α := fun i => if i = k then v else f i

def put (T : Tm) (d : Option Nat) (v : PV) : Tm :=
  match d with
  | some d => upd T d v
  | none => T

def val (T : Tm) : Src → PV
  | .t i => T i
  | .c v => v

def restr (H : Hp) (ks : List Nat) : Hp := fun κ => if ks.contains κ then H κ else none

def ups (H : Hp) : List (Nat × Blk) → Hp
  | [] => H
  | (κ, b) :: l => ups (upd H κ (some b)) l

/-- Kinds of cells that may be compared. -/
inductive EK where
  | int
  | str
  | bool
  deriving DecidableEq

inductive CK where
  | int (k : IntKind)
  | same
  | strBytes
  | bytesStr
  | runeStr
  | strRunes
  deriving DecidableEq

inductive IOp where
  | mov (x : Src)
  | movp (x : Src)
  | pick (c a b : Src)
  | nilarr (κ sz : Nat)
  | alloc (κ : Nat) (zs : List PV)
  | box (κ n : Nat) (x : Src)
  | build (zs : List PV) (parts : List (Nat × Nat × Src))
  | buildSl (κ : Option Nat) (sz : Nat) (zero : PV) (len : Nat) (parts : List (Nat × Src))
  | makeSl (κ sz by_ : Nat) (zero : PV) (l c : Src)
  | load (n : Nat) (ag : Bool) (a : Src)
  | store (n : Nat) (a x : Src)
  | nilChk (x : Src)
  | bin (op : BinOp) (x y : Src)
  | eqB (ne : Bool) (x y : Src)
  | eqAgg (ne : Bool) (ks : List EK) (x y : Src)
  | un (op : UnOp) (x : Src)
  | conv (k : CK) (x : Src)
  | faddr (off : Nat) (x : Src)
  | field (off n : Nat) (ag : Bool) (x : Src)
  | iaddr (sz : Nat) (x i : Src)
  | index (x i : Src)
  | slice (isStr : Bool) (sz : Nat) (x : Src) (lo hi : Option Src)
  | len (isStr : Bool) (x : Src)
  | app (κ : Option Nat) (sz by_ : Nat) (x y : Src)
  | copy (sz : Nat) (x y : Src)
  | mm (isMax : Bool) (x y : Src)
  | extract (x : Src) (i : Nat)
  | call (rκ : Option Nat) (f : Nat) (args : List Src)
  | range (κ : Nat) (x : Src)
  | next (x : Src)
  | mkMap (κ : Nat)
  | mapSet (m k v : Src)
  | mapGet (m k : Src)
  | mapLen (m : Src)
  | mkFn (f lo : Nat) (first caps : List Src)
  | callv (x : Src) (fs : List Nat) (args : List Src)
  | isNil (x : Src)
  deriving Inhabited

def IOp.operands : IOp → List Src
  | .mov x | .movp x | .box _ _ x | .load _ _ x | .nilChk x | .un _ x | .conv _ x | .faddr _ x | .field _ _ _ x | .len _ x | .extract x _ | .range _ x | .next x | .mapLen x | .isNil x => [x]
  | .pick c a b => [c, a, b]
  | .nilarr .. | .alloc .. | .mkMap .. => []
  | .mapSet m k v => [m, k, v]
  | .mapGet m k => [m, k]
  | .build _ ps => ps.map (·.2.2)
  | .buildSl _ _ _ _ ps => ps.map (·.2)
  | .makeSl _ _ _ _ l c => [l, c]
  | .store _ a x => [a, x]
  | .bin _ x y | .eqB _ x y | .eqAgg _ _ x y | .iaddr _ x y | .index x y | .app _ _ _ x y | .copy _ x y | .mm _ x y => [x, y]
  | .slice _ _ x lo hi => x :: lo.toList ++ hi.toList
  | .call _ _ args => args
  | .mkFn _ _ as bs => as ++ bs
  | .callv x _ args => x :: args

structure IOper where
  dst : Option Nat
  op : IOp
  guard : Option (Nat × Bool) := none
  ks : List Nat := []
  pre : List Nat := []
  deriving Inhabited

/-! ### The operations -/

def bytesPV (s : ByteArray) : List PV := s.data.toList.map fun b => .int .u8 b.toNat

def rowsOf (h : Hp) : PV → Option (List PV)
  | .nil => some []
  | .list es => some es
  | .str s => some (bytesPV s)
  | .arr κ tot off len =>
    match h κ with
    | some (.arr _ rows _) => if rows.length = tot ∧ off + len ≤ tot then some ((rows.drop off).take len) else none
    | _ => none
  | _ => none

def purC (h : Hp) (nrm : Bool) : PV → Option PV
  | .bool b => some (.bool b)
  | .int k n => some (.int k n)
  | .str s => some (.str s)
  | .nilp => some .nilp
  | .fn f => some (.fn f)
  | .nilfn => some .nilfn
  | .yfn l => some (.yfn l)
  | .rptr cs => some (.rptr cs)
  | .clo f a b => some (.clo f a b)
  | .list es => some (.list es)
  | .nil => some (if nrm then .list [] else .nil)
  | .arr κ tot off len =>
    match h κ with
    | some (.arr _ rows _) => if rows.length = tot ∧ off + len ≤ tot then some (.list ((rows.drop off).take len)) else none
    | _ => none
  | _ => none

def purCs (h : Hp) (nrm : Bool) : List PV → Option (List PV)
  | [] => some []
  | c :: cs => match purC h nrm c with
    | some p => match purCs h nrm cs with
      | some ps => some (p :: ps)
      | none => none
    | none => none

def pur (h : Hp) (nrm : Bool) : PV → Option PV
  | .agg cs => match purCs h nrm cs with
    | some ps => some (.agg ps)
    | none => none
  | v => purC h nrm v

def refC : PV → List Nat
  | .ptr κ _ => [κ]
  | .arr κ _ _ _ => [κ]
  | .aptr κ _ _ _ => [κ]
  | .map κ => [κ]
  | _ => []

def refs : PV → List Nat
  | .agg cs => cs.flatMap refC
  | .tuple cs => cs.flatMap refC
  | v => refC v

def frz (h : Hp) : List Nat → List (Nat × Blk)
  | [] => []
  | κ :: l => match h κ with
    | some (.arr sz rows _) => (κ, .arr sz rows true) :: frz h l
    | _ => frz h l

def ld (n : Nat) (ag : Bool) (cs : List PV) : Option PV :=
  if ag then (if n ≤ cs.length then some (.agg (cs.take n)) else none) else (if n = 1 then cs[0]? else none)

/-- May it lie in a cell? -/
def cellOk : PV → Bool
  | .bool _ | .int _ _ | .str _ | .nil | .nilp | .list _ | .ptr _ _ | .arr _ _ _ _ | .aptr _ _ _ _ | .fn _ | .rptr _ | .clo _ _ _ | .nilfn | .yfn _ => true
  | _ => false

def cellsOk : PV → Bool
  | .agg _ => true
  | v => cellOk v

def fillC (cs : List PV) : List (Nat × Nat × PV) → Option (List PV)
  | [] => some cs
  | (off, size, v) :: l =>
    if cellsOk v = true ∧ v.cells.length = size ∧ off + size ≤ cs.length then fillC (cs.take off ++ v.cells ++ cs.drop (off + size)) l else none

def fillR (h : Hp) (sz : Nat) (rows : List PV) : List (Nat × PV) → Option (List PV)
  | [] => some rows
  | (i, v) :: l =>
    match pur h true v with
    | some p => if p.cells.length = sz ∧ i < rows.length then fillR h sz (rows.set i p) l else none
    | none => none

def rowSet (row : PV) (cs : List PV) : PV :=
  match row with
  | .agg _ => .agg cs
  | _ => cs.headD .undef

def intBin (op : BinOp) (k : IntKind) (a b : Int) : Option PV :=
  match op with
  | .add => some (.int k (k.wrap (a + b)))
  | .sub => some (.int k (k.wrap (a - b)))
  | .mul => some (.int k (k.wrap (a * b)))
  | .quo => if b = 0 then none else some (.int k (k.wrap (a.tdiv b)))
  | .rem => if b = 0 then none else some (.int k (a.tmod b))
  | .and => some (.int k (k.wrap (BitVec.ofInt k.bits a &&& BitVec.ofInt k.bits b).toNat))
  | .or => some (.int k (k.wrap (BitVec.ofInt k.bits a ||| BitVec.ofInt k.bits b).toNat))
  | .xor => some (.int k (k.wrap (BitVec.ofInt k.bits a ^^^ BitVec.ofInt k.bits b).toNat))
  | .andNot => some (.int k (k.wrap (BitVec.ofInt k.bits a &&& ~~~ (BitVec.ofInt k.bits b)).toNat))
  | .eql => some (.bool (a == b))
  | .neq => some (.bool (a != b))
  | .lss => some (.bool (decide (a < b)))
  | .leq => some (.bool (decide (a ≤ b)))
  | .gtr => some (.bool (decide (a > b)))
  | .geq => some (.bool (decide (a ≥ b)))
  | _ => none

def shiftBin (op : BinOp) (k : IntKind) (a b : Int) : Option PV :=
  if b < 0 then none else
  match op with
  | .shl => some (.int k (k.wrap (a * 2 ^ (min b.toNat k.bits))))
  | .shr => some (.int k (a.fdiv (2 ^ (min b.toNat k.bits))))
  | _ => none

def strBin (op : BinOp) (x y : ByteArray) : Option PV :=
  match op with
  | .add => if ((x.size + y.size : Nat) : Int) > IntKind.i64.max then none else some (.str (x ++ y))
  | .eql => some (.bool (x.toList == y.toList))
  | .neq => some (.bool !(x.toList == y.toList))
  | .lss => some (.bool (Op.bytesLess x.toList y.toList))
  | .leq => some (.bool (Op.bytesLess x.toList y.toList || x.toList == y.toList))
  | .gtr => some (.bool !(Op.bytesLess x.toList y.toList || x.toList == y.toList))
  | .geq => some (.bool !(Op.bytesLess x.toList y.toList))
  | _ => none

def binV (op : BinOp) : PV → PV → Option PV
  | .int k a, .int k' b =>
    match op with
    | .shl | .shr => shiftBin op k a b
    | _ => if k = k' then intBin op k a b else none
  | .str a, .str b => strBin op a b
  | _, _ => none

/-- Two cells of plain kinds, compared. -/
def eqCell : EK → PV → PV → Option Bool
  | .int, .int k a, .int k' b => if k = k' then some (a == b) else none
  | .str, .str a, .str b => some (a.toList == b.toList)
  | .bool, .bool a, .bool b => some (a == b)
  | _, _, _ => none

def eqCells : List EK → List PV → List PV → Option Bool
  | [], [], [] => some true
  | k :: ks, a :: l, b :: m => match eqCell k a b with
    | some true => eqCells ks l m
    | some false => some false
    | none => none
  | _, _, _ => none

def unV (op : UnOp) : PV → Option PV
  | .bool b => match op with
    | .not => some (.bool !b)
    | _ => none
  | .int k n => match op with
    | .neg => some (.int k (k.wrap (0 - n)))
    | .xor => some (.int k (k.wrap (BitVec.ofInt k.bits (if k.signed then -1 else k.max) ^^^ BitVec.ofInt k.bits n).toNat))
    | _ => none
  | _ => none

def bytesOf : List PV → Option (List UInt8)
  | [] => some []
  | .int .u8 n :: l => match bytesOf l with
    | some bs => some (UInt8.ofNat n.toNat :: bs)
    | none => none
  | _ => none

/-- A code point with its place and its size. -/
abbrev U := Nat × Nat × Nat

def unitsFrom (s : ByteArray) : Nat → Nat → List U
  | 0, _ => []
  | f + 1, p => if p < s.size then ((Utf8.decode s p).1, p, (Utf8.decode s p).2) :: unitsFrom s f (p + (Utf8.decode s p).2) else []

def unitsOf (s : ByteArray) : List U := unitsFrom s s.size 0

def unitPV (u : U) : PV := .agg [.int .i32 u.1, .int .i64 u.2.1, .int .i64 u.2.2]

def convV (h : Hp) (k : CK) (v : PV) : Option PV :=
  match k, v with
  | .int k, .int _ n => some (.int k (k.wrap n))
  | .same, .str s => some (.str s)
  | .strBytes, .str s => some (.list (bytesPV s))
  | .strRunes, .str s => some (.list ((unitsOf s).map fun u => .int .i32 u.1))
  | .bytesStr, .str _ => none
  | .bytesStr, v => match rowsOf h v with
    | some es => (bytesOf es).map fun bs => .str ⟨bs.toArray⟩
    | none => none
  | .runeStr, .int _ n => some (.str (Utf8.encode n))
  | _, _ => none

def bnd (ρ : Src → PV) : Option Src → Option (Option Nat)
  | none => some none
  | some x => match ρ x with
    | .int _ n => if 0 ≤ n then some (some n.toNat) else none
    | _ => none

def sliceV (h : Hp) (isStr : Bool) (sz : Nat) (v : PV) (lo hi : Option Nat) : Option PV :=
  match isStr, v with
  | true, .str s =>
    if lo.getD 0 ≤ hi.getD s.size ∧ hi.getD s.size ≤ s.size then some (.str (s.extract (lo.getD 0) (hi.getD s.size))) else none
  | false, .list es =>
    if lo.getD 0 ≤ hi.getD es.length ∧ hi.getD es.length ≤ es.length ∧ es.all (fun e => e.cells.length == sz) = true then some (.list ((es.take (hi.getD es.length)).drop (lo.getD 0))) else none
  | false, .nil =>
    if lo.getD 0 = 0 ∧ hi.getD 0 = 0 then some .nil else none
  | false, .arr κ tot off len =>
    match h κ with
    | some (.arr sz' rows _) => if rows.length = tot ∧ off + len ≤ tot ∧ lo.getD 0 ≤ hi.getD len ∧ hi.getD len ≤ len ∧ sz' = sz then some (.arr κ tot (off + lo.getD 0) (hi.getD len - lo.getD 0)) else none
    | _ => none
  | _, _ => none

def lenV (h : Hp) (isStr : Bool) (v : PV) : Option Nat :=
  match isStr, v with
  | true, .str s => some s.size
  | false, .nil => some 0
  | false, .list es => some es.length
  | false, .arr κ tot off len =>
    match h κ with
    | some (.arr _ rows _) => if rows.length = tot ∧ off + len ≤ tot then some len else none
    | _ => none
  | _, _ => none

def room : Nat := 70368744177664

def boxKey : PV → List Nat
  | .ptr κ _ => [κ]
  | _ => []

def lend (h : Hp) : PV → Option PV
  | .ptr κ off =>
    if off = 0 then
      match h κ with
      | some (.box cs) => match purCs h false cs with
        | some ps => some (.boxed ps)
        | none => none
      | _ => none
    else none
  | v => pur h true v

def lends (h : Hp) : List PV → Option (List PV)
  | [] => some []
  | v :: l => match lend h v with
    | some p => match lends h l with
      | some ps => some (p :: ps)
      | none => none
    | none => none

/-- The arrays that are lent: of values, and of what lies in a box that is lent. -/
def lentKeys (h : Hp) (v : PV) : List Nat :=
  match v with
  | .ptr κ _ => match h κ with
    | some (.box cs) => cs.flatMap refC
    | _ => []
  | v => refs v

def outUps : List Nat → List (List PV) → Option (List (Nat × Blk))
  | [], [] => some []
  | κ :: l, cs :: m => match outUps l m with
    | some u => some ((κ, .box cs) :: u)
    | none => none
  | _, _ => none

def mapPut (es : List (Int × Bool)) (n : Int) (b : Bool) : List (Int × Bool) :=
  match es with
  | [] => [(n, b)]
  | (m, c) :: l => if n = m then (n, b) :: l else (m, c) :: mapPut l n b

def mapAt : List (Int × Bool) → Int → Bool
  | [], _ => false
  | (m, c) :: l, n => if n = m then c else mapAt l n

abbrev CallF := Nat → List PV → Option (PV × List (List PV))

/-- What a closure captures: a box of the frame's own is laid open for good. -/
def capV (h : Hp) (lo : Nat) (v : PV) : Option (PV × List (Nat × Blk)) :=
  match v with
  | .ptr κ off => if off = 0 ∧ lo ≤ κ then match h κ with
      | some (.box cs) => match purCs h true cs with
        | some ps => some (.rptr ps, frz h (cs.flatMap refC) ++ [(κ, .rbox ps)])
        | none => none
      | some (.rbox ps) => some (.rptr ps, [])
      | _ => none
    else none
  | v => match purC h true v with
    | some p => some (p, frz h (refC v))
    | none => none

def capL (h : Hp) (lo : Nat) : List PV → Option (List PV × List (Nat × Blk))
  | [] => some ([], [])
  | v :: l => match capV h lo v with
    | some (p, us) => match capL (ups h us) lo l with
      | some (ps, us') => some (p :: ps, us ++ us')
      | none => none
    | none => none

def evCall (call : CallF) (h : Hp) (rκ : Option Nat) (f : Nat) (vs : List PV) : Option (PV × List (Nat × Blk)) :=
  match lends h vs with
  | some as => match call f as with
    | some (res, outs) =>
      let bks := vs.flatMap boxKey
      if bks.Nodup then
        match outUps bks outs with
        | some us =>
          let us' := frz h (vs.flatMap (lentKeys h)) ++ us
          match res, rκ with
          | .boxed cs, some κ => if (h κ).isNone then some (.ptr κ 0, us' ++ [(κ, .box cs)]) else none
          | .boxed _, none => none
          | v, _ => some (v, us')
        | none => none
      else none
    | none => none
  | none => none

def evOp (call : CallF) (ρ : Src → PV) (h : Hp) : IOp → Option (PV × List (Nat × Blk))
  | .mov x => some (ρ x, [])
  | .movp x => match pur h true (ρ x) with
    | some p => some (p, frz h (refs (ρ x)))
    | none => none
  | .pick c a b => match ρ c with
    | .bool t => some (if t then ρ a else ρ b, [])
    | _ => none
  | .nilarr κ sz => if (h κ).isNone then some (.arr κ 0 0 0, [(κ, .arr sz [] false)]) else none
  | .alloc κ zs => if (h κ).isNone then some (.ptr κ 0, [(κ, .box zs)]) else none
  | .box κ n x => if (h κ).isNone ∧ cellsOk (ρ x) = true ∧ (ρ x).cells.length = n then some (.ptr κ 0, [(κ, .box (ρ x).cells)]) else none
  | .build zs parts => match fillC zs (parts.map fun p => (p.1, p.2.1, ρ p.2.2)) with
    | some cs => some (.agg cs, [])
    | none => none
  | .buildSl κ sz zero n parts =>
    match fillR h sz (List.replicate n zero) (parts.map fun p => (p.1, ρ p.2)) with
    | some rows =>
      let fs := frz h (parts.flatMap fun p => refs (ρ p.2))
      match κ with
      | none => some (.list rows, fs)
      | some κ => if (h κ).isNone then some (.arr κ n 0 n, fs ++ [(κ, .arr sz rows false)]) else none
    | none => none
  | .makeSl κ sz by_ zero l c => match ρ l, ρ c with
    | .int .i64 n, .int .i64 m =>
      if (h κ).isNone ∧ 0 ≤ n ∧ n ≤ m ∧ m.toNat * by_ ≤ room ∧ m ≤ room then some (.arr κ n.toNat 0 n.toNat, [(κ, .arr sz (List.replicate n.toNat zero) false)]) else none
    | _, _ => none
  | .load n ag a => match ρ a with
    | .ptr κ off => match h κ with
      | some (.box cs) => (ld n ag (cs.drop off)).map (·, [])
      | some (.rbox cs) => (ld n ag (cs.drop off)).map (·, [])
      | _ => none
    | .eptr cs => (ld n ag cs).map (·, [])
    | .rptr cs => (ld n ag cs).map (·, [])
    | .aptr κ tot i c => match h κ with
      | some (.arr _ rows _) => if rows.length = tot then
          match rows[i]? with
          | some r => (ld n ag (r.cells.drop c)).map (·, [])
          | none => none
        else none
      | _ => none
    | _ => none
  | .store n a x => match ρ a with
    | .ptr κ off => match h κ with
      | some (.box cs) => if cellsOk (ρ x) = true ∧ (ρ x).cells.length = n ∧ off + n ≤ cs.length then some (.never, [(κ, .box (cs.take off ++ (ρ x).cells ++ cs.drop (off + n)))]) else none
      | _ => none
    | .aptr κ tot i c => match h κ with
      | some (.arr sz rows false) => if rows.length = tot then
          match rows[i]?, pur h true (ρ x) with
          | some r, some p => if refs (ρ x) = [] ∧ p.cells.length = n ∧ c + n ≤ r.cells.length then
              some (.never, [(κ, .arr sz (rows.set i (rowSet r (r.cells.take c ++ p.cells ++ r.cells.drop (c + n)))) false)]) else none
          | _, _ => none
        else none
      | _ => none
    | _ => none
  | .nilChk x => match ρ x with
    | .ptr κ o => some (.ptr κ o, [])
    | .eptr cs => some (.eptr cs, [])
    | .rptr cs => some (.rptr cs, [])
    | .aptr κ t i c => match h κ with
      | some (.arr _ rows _) => if rows.length = t then some (.aptr κ t i c, []) else none
      | _ => none
    | _ => none
  | .bin op x y => (binV op (ρ x) (ρ y)).map (·, [])
  | .eqB ne x y => match ρ x, ρ y with
    | .bool a, .bool b => some (.bool (if ne then !(a == b) else a == b), [])
    | _, _ => none
  | .eqAgg ne ks x y => match ρ x, ρ y with
    | .agg a, .agg b => (eqCells ks a b).map fun r => (.bool (if ne then !r else r), [])
    | _, _ => none
  | .un op x => (unV op (ρ x)).map (·, [])
  | .conv k x => (convV h k (ρ x)).map (·, [])
  | .faddr off x => match ρ x with
    | .ptr κ o => some (.ptr κ (o + off), [])
    | .eptr cs => some (.eptr (cs.drop off), [])
    | .rptr cs => some (.rptr (cs.drop off), [])
    | .aptr κ t i c => match h κ with
      | some (.arr _ rows _) => if rows.length = t then some (.aptr κ t i (c + off), []) else none
      | _ => none
    | _ => none
  | .field off n ag x => match ρ x with
    | .agg cs => (ld n ag (cs.drop off)).map (·, [])
    | _ => none
  | .iaddr sz x i => match ρ i with
    | .int _ n => if 0 ≤ n then
        match ρ x with
        | .list es => match es[n.toNat]? with
          | some e => if e.cells.length = sz then some (.eptr e.cells, []) else none
          | none => none
        | .arr κ tot off len => match h κ with
          | some (.arr sz' rows _) => if rows.length = tot ∧ off + len ≤ tot ∧ sz' = sz ∧ n.toNat < len then some (.aptr κ tot (off + n.toNat) 0, []) else none
          | _ => none
        | _ => none
      else none
    | _ => none
  | .index x i => match ρ x, ρ i with
    | .str s, .int _ n => if 0 ≤ n then match s[n.toNat]? with
        | some b => some (.int .u8 b.toNat, [])
        | none => none
      else none
    | _, _ => none
  | .slice isStr sz x lo hi => match bnd ρ lo, bnd ρ hi with
    | some l, some r => (sliceV h isStr sz (ρ x) l r).map (·, [])
    | _, _ => none
  | .len isStr x => (lenV h isStr (ρ x)).map fun (n : Nat) => (.int .i64 (n : Int), [])
  | .app κ sz by_ x y => match rowsOf h (ρ y) with
    | some ys =>
      if ys.all (fun e => e.cells.length == sz) then
        match ρ x, κ with
        | .arr κ tot off len, _ => match h κ with
          | some (.arr sz' rows ro) =>
            if rows.length = tot ∧ off = 0 ∧ len = tot ∧ sz' = sz ∧ (tot + ys.length) * by_ ≤ room ∧ tot + ys.length ≤ room then
              some (.arr κ (tot + ys.length) 0 (tot + ys.length), [(κ, .arr sz (rows ++ ys) ro)])
            else none
          | _ => none
        | .nil, some κ =>
          if (h κ).isNone ∧ ys.length * by_ ≤ room ∧ ys.length ≤ room then some (.arr κ ys.length 0 ys.length, [(κ, .arr sz ys false)]) else none
        | _, _ => none
      else none
    | none => none
  | .copy sz x y => match rowsOf h (ρ y), ρ x with
    | some ys, .arr κ tot off len => match h κ with
      | some (.arr sz' rows false) =>
        if rows.length = tot ∧ off + len ≤ tot ∧ sz' = sz ∧ ys.all (fun e => e.cells.length == sz) then
          some (.int .i64 (min ys.length len : Nat), [(κ, .arr sz (rows.take off ++ ys.take (min ys.length len) ++ rows.drop (off + min ys.length len)) false)])
        else none
      | _ => none
    | _, _ => none
  | .mm isMax x y => match ρ x, ρ y with
    | .int k a, .int k' b => if k = k' then some (.int k (if isMax then (if b > a then b else a) else (if b < a then b else a)), []) else none
    | _, _ => none
  | .extract x i => match ρ x with
    | .tuple vs => match vs[i]? with
      | some v => some (v, [])
      | none => none
    | _ => none
  | .call rκ f args => evCall call h rκ f (args.map ρ)
  | .callv x fs args => match ρ x with
    | .fn f => if fs.contains f then evCall call h none f (args.map ρ) else none
    | .clo f as bs => if fs.contains f then evCall call h none f (as ++ args.map ρ ++ bs) else none
    | _ => none
  | .mkFn f lo as bs => match capL h lo ((as ++ bs).map ρ) with
    | some (ps, us) => some (.clo f (ps.take as.length) (ps.drop as.length), us)
    | none => none
  | .range κ x => match ρ x with
    | .str s => if (h κ).isNone then some (.ptr κ 0, [(κ, .siter s 0)]) else none
    | _ => none
  | .next x => match ρ x with
    | .ptr κ off => match h κ with
      | some (.siter s pos) => if off = 0 then
          if pos < s.size then some (.tuple [.bool true, .int .i64 pos, .int .i32 (Utf8.decode s pos).1], [(κ, .siter s (pos + (Utf8.decode s pos).2))])
          else some (.tuple [.bool false], [])
        else none
      | _ => none
    | _ => none
  | .mkMap κ => if (h κ).isNone then some (.map κ, [(κ, .map [])]) else none
  | .mapSet m k v => match ρ m, ρ k, ρ v with
    | .map κ, .int .i64 n, .bool b => match h κ with
      | some (.map es) => some (.never, [(κ, .map (mapPut es n b))])
      | _ => none
    | _, _, _ => none
  | .mapGet m k => match ρ m, ρ k with
    | .map κ, .int .i64 n => match h κ with
      | some (.map es) => some (.bool (mapAt es n), [])
      | _ => none
    | _, _ => none
  | .mapLen m => match ρ m with
    | .map κ => match h κ with
      | some (.map es) => some (.int .i64 es.length, [])
      | _ => none
    | _ => none
  | .isNil x => match ρ x with
    | .nil => some (.bool true, [])
    | .list (_ :: _) => some (.bool false, [])
    | _ => none

def wantd (T : Tm) : Option (Nat × Bool) → Option Bool
  | none => some true
  | some (t, b) => match T t with
    | .bool c => some (c == b)
    | .never => some false
    | _ => none

def evOper (call : CallF) (o : IOper) (σ : St) : Option St :=
  match wantd σ.T o.guard with
  | none => none
  | some false => some ⟨put σ.T o.dst .never, σ.H⟩
  | some true => match evOp call (val σ.T) (restr σ.H o.ks) o.op with
    | some (v, us) => if us.all (fun u => o.ks.contains u.1) then some ⟨put σ.T o.dst v, ups σ.H us⟩ else none
    | none => none

def evOps (call : CallF) : List IOper → St → Option St
  | [], σ => some σ
  | o :: os, σ => match evOper call o σ with
    | some σ' => evOps call os σ'
    | none => none

/-! ### A loop over a range over a function -/

def sameKind : Option Blk → Option Blk → Bool
  | some (.box _), some (.box _) => true
  | some (.arr _ _ _), some (.arr _ _ _) => true
  | none, none => true
  | _, _ => false

def kindsOk (lk : List Nat) (H H' : Hp) : Bool := lk.all fun κ => sameKind (H κ) (H' κ)

def isBox : Option Blk → Bool
  | some (.box _) => true
  | _ => false

def tempOk (H : Hp) : PV → Bool
  | .ptr κ _ => isBox (H κ)
  | v => (refs v).isEmpty

inductive IC where
  | skip
  | region (ops : List IOper) (draw : Bool)
  | seq (a b : IC)
  | cond (c : Src) (a b : IC)
  | block (id : Nat) (c : IC)
  | loop (lt lk : List Nat) (c : IC)
  | exit (id : Nat)
  | ret
  | scope (c : IC)
  | gmask (lt lk : List Nat) (c : IC)
  | gpost (lt lk : List Nat) (c : IC)
  | gadopt (kb off κ sz : Nat) (c : IC)
  | runits (g : Nat) (x : Src) (lt lk : List Nat) (p npb : Nat) (a b : IC)
  deriving Inhabited

inductive IX where
  | normal
  | exit (id : Nat)
  | ret
  deriving DecidableEq

def maskT (T : Tm) : List Nat → Tm
  | [] => fun _ => .undef
  | t :: l => upd (maskT T l) t (T t)

def maskH (H : Hp) : List Nat → Hp
  | [] => fun _ => none
  | κ :: l => upd (maskH H l) κ (H κ)

def closedB (lt lk : List Nat) (σ : St) : Bool :=
  lt.all (fun t => (refs (σ.T t)).all lk.contains) &&
  lk.all (fun κ => match σ.H κ with
    | some (.box cs) => cs.all fun c => (refC c).all lk.contains
    | _ => true)

def mask (lt lk : List Nat) (σ : St) : Option St :=
  if closedB lt lk σ then some ⟨maskT σ.T lt, maskH σ.H lk⟩ else none

def adopt (kb off κ sz : Nat) (σ : St) : Option St :=
  match σ.H kb, σ.H κ with
  | some (.box cs), none => match cs[off]? with
    | some .nil => some ⟨σ.T, upd (upd σ.H kb (some (.box (cs.set off (.arr κ 0 0 0))))) κ (some (.arr sz [] false))⟩
    | _ => none
  | _, _ => none

/-- Rounds of a loop: what is not alive is forgotten at each round's head. -/
def loopN (lt lk : List Nat) (body : St → Option (IX × St)) : Nat → St → Option (IX × St)
  | 0, _ => none
  | n + 1, σ => match mask lt lk σ with
    | some σ₀ => match body σ₀ with
      | some (.normal, σ') => loopN lt lk body n σ'
      | r => r
    | none => none

def startOk (lt lk : List Nat) (σ : St) : Bool := kindsOk lk σ.H σ.H && lt.all fun t => tempOk σ.H (σ.T t)

/-- The rounds of a loop over code points: each begins with the frame's own slots as they were. -/
def roundsN (lt lk : List Nat) (p : Nat) (ea eb : St → Option (IX × St)) : List U → St → Option (IX × St)
  | [], σ => some (.normal, σ)
  | u :: us, σ => match ea ⟨upd σ.T p (unitPV u), σ.H⟩ with
    | some (.normal, σ1) => match eb σ1 with
      | some (x, σ2) => if kindsOk lk σ.H σ2.H = true then
          match mask lt lk ⟨σ.T, σ2.H⟩ with
          | some σ3 => match x with
            | .normal => roundsN lt lk p ea eb us σ3
            | x => some (x, σ3)
          | none => none
        else none
      | none => none
    | _ => none

def runU (g : Nat) (x : Src) (lt lk : List Nat) (p : Nat) (ea eb : St → Option (IX × St)) (σ : St) : Option (IX × St) :=
  match val σ.T x with
  | .clo f [] [.rptr [.str s]] => if f = g ∧ s.size ≤ room then
      match mask lt lk σ with
      | some σ0 => if startOk lt lk σ0 = true then roundsN lt lk p ea eb (unitsOf s) σ0 else none
      | none => none
    else none
  | _ => none

def ev (call : CallF) (n : Nat) : IC → St → Option (IX × St)
  | .skip, σ => some (.normal, σ)
  | .region ops _, σ => match evOps call ops σ with
    | some σ' => some (.normal, σ')
    | none => none
  | .seq a b, σ => match ev call n a σ with
    | some (.normal, σ') => ev call n b σ'
    | r => r
  | .cond c a b, σ => match val σ.T c with
    | .bool t => if t then ev call n a σ else ev call n b σ
    | _ => none
  | .block id c, σ => match ev call n c σ with
    | some (.exit j, σ') => if j = id then some (.normal, σ') else some (.exit j, σ')
    | r => r
  | .loop lt lk c, σ => loopN lt lk (ev call n c) n σ
  | .exit id, σ => some (.exit id, σ)
  | .ret, σ => some (.ret, σ)
  | .scope c, σ => ev call n c σ
  | .gmask lt lk c, σ => match mask lt lk σ with
    | some σ' => ev call n c σ'
    | none => none
  | .gpost lt lk c, σ => match ev call n c σ with
    | some (.normal, σ') => match mask lt lk σ' with
      | some σ'' => some (.normal, σ'')
      | none => none
    | r => r
  | .gadopt kb off κ sz c, σ => match adopt kb off κ sz σ with
    | some σ' => ev call n c σ'
    | none => none
  | .runits g x lt lk p _ ia ib, σ => runU g x lt lk p (ev call n ia) (ev call n ib) σ

inductive IRes where
  | tmp (t : Nat)
  | cell (t n : Nat) (ag : Bool)

structure IFunc where
  np : Nat
  nt : Nat
  res : List IRes
  body : IC
  prim : Option (List PV → Option PV)

/-- The arguments laid down: a pointer to a box of the caller's is a box of one's own, under the parameter's number. -/
def enterT : Nat → List PV → Tm
  | _, [] => fun _ => .never
  | i, .boxed _ :: l => upd (enterT (i + 1) l) i (.ptr i 0)
  | i, v :: l => upd (enterT (i + 1) l) i v

def enterH : Nat → List PV → Hp
  | _, [] => fun _ => none
  | i, .boxed cs :: l => upd (enterH (i + 1) l) i (some (.box cs))
  | i, _ :: l => enterH (i + 1) l

def resVal (σ : St) : IRes → Option PV
  | .tmp t => some (σ.T t)
  | .cell t n ag => match σ.T t with
    | .ptr κ off => match σ.H κ with
      | some (.box cs) => ld n ag (cs.drop off)
      | _ => none
    | _ => none

def resVals (σ : St) : List IRes → Option (List PV)
  | [] => some []
  | r :: l => match resVal σ r with
    | some v => match resVals σ l with
      | some vs => some (v :: vs)
      | none => none
    | none => none

def purs (h : Hp) : List PV → Option (List PV)
  | [] => some []
  | v :: l => match pur h true v with
    | some p => match purs h l with
      | some ps => some (p :: ps)
      | none => none
    | none => none

/-- What a function gives back: a value; the address of a box of its own, handed over whole; several values. -/
def give (np : Nat) (h : Hp) : List PV → Option PV
  | [.ptr κ off] => if np ≤ κ ∧ off = 0 then
      match h κ with
      | some (.box cs) => match purCs h false cs with
        | some ps => some (.boxed ps)
        | none => none
      | _ => none
    else none
  | [v] => pur h true v
  | vs => match purs h vs with
    | some ps => some (.tuple ps)
    | none => none

def outs (h : Hp) : Nat → List PV → Option (List (List PV))
  | _, [] => some []
  | i, .boxed _ :: l => match h i with
    | some (.box cs) => match purCs h false cs with
      | some ps => match outs h (i + 1) l with
        | some os => some (ps :: os)
        | none => none
      | none => none
    | _ => none
  | i, _ :: l => outs h (i + 1) l

def finish (F : IFunc) (args : List PV) : Option (IX × St) → Option (PV × List (List PV))
  | some (.exit _, _) => none
  | some (_, σ) => match resVals σ F.res with
    | some vs => match give F.np σ.H vs with
      | some r => match outs σ.H 0 args with
        | some os => some (r, os)
        | none => none
      | none => none
    | none => none
  | none => none

def callN (prog : Nat → Option IFunc) : Nat → CallF
  | 0 => fun _ _ => none
  | n + 1 => fun f args => match prog f with
    | some F => match F.prim with
      | some g => match g args with
        | some r => some (r, [])
        | none => none
      | none => if args.length = F.np then finish F args (ev (callN prog n) n F.body ⟨enterT 0 args, enterH 0 args⟩) else none
    | none => none

end Go.Ab
