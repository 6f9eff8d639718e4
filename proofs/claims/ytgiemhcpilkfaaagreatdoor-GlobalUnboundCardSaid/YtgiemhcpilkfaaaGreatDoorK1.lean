/- Cells that stay for good, and those of them that are laid before the run begins: none here. And what follows from it, part by part. -/
import Derived.Test.YtgiemhcpilkfaaaGreatDoorK0
import Derived.Laws.AppendOwn
import Derived.Laws.CopyRow
import Derived.Laws.MakeOwn
import Derived.Deep.AppendSrc
import Derived.Great.BuildSlice
import Derived.Deep.Upon
import Derived.Laws.StructEq
import Derived.Laws.Slices
import Derived.Laws.BytesArg

/- Part Laid. -/
namespace Go.Ab
open Go

/-- Cells that will never be written again, with what they hold. -/
abbrev Ghost := Addr → Option Value

def Ghost.le (G G' : Ghost) : Prop := ∀ x v, G x = some v → G' x = some v

def laidG : Ghost := fun _ => none

end Go.Ab

/- Part Rel. -/
namespace Go.Ab
open Go

theorem Ghost.le.refl (G : Ghost) : G.le G := fun _ _ h => h
theorem Ghost.le.trans {A B C : Ghost} (h : A.le B) (k : B.le C) : A.le C := fun x v e => k x v (h x v e)

/-- One cell's plain value. -/
inductive RepC (G : Ghost) : PV → Value → Prop
  | bool (b : Bool) : RepC G (.bool b) (.bool b)
  | int (k : IntKind) (n : Int) : RepC G (.int k n) (.int k n)
  | str (s : ByteArray) : RepC G (.str s) (.string s)
  | nil : RepC G .nil (.slice none 0 0)
  | nilp : RepC G .nilp (.pointer none)
  | fn (f : Nat) : RepC G (.fn f) (.func (.func f) #[] #[])
  | nilfn : RepC G .nilfn .nilFunc
  | yfn (l : Nat) : RepC G (.yfn l) (.func (.yield l) #[] #[])
  | list (es : List PV) (A : Option Addr) (n cap b o sz : Nat) (val : Nat → Nat → Value) (hn : n = es.length) (hc : es.length ≤ cap)
      (hA : es = [] ∨ A = some ⟨b, o, none⟩) (hs : ∀ (j : Nat) (e : PV), es[j]? = some e → e.cells.length = sz)
      (hg : ∀ (j : Nat) (e : PV) (i : Nat) (c : PV), es[j]? = some e → e.cells[i]? = some c → G ⟨b, o + j * sz + i, none⟩ = some (val j i))
      (hr : ∀ (j : Nat) (e : PV) (i : Nat) (c : PV), es[j]? = some e → e.cells[i]? = some c → RepC G c (val j i)) : RepC G (.list es) (.slice A n cap)
  | rptr (cs : List PV) (b o : Nat) (val : Nat → Value) (hg : ∀ (i : Nat) (c : PV), cs[i]? = some c → G ⟨b, o + i, none⟩ = some (val i))
      (hr : ∀ (i : Nat) (c : PV), cs[i]? = some c → RepC G c (val i)) : RepC G (.rptr cs) (.pointer (some ⟨b, o, none⟩))
  | clo (f : Nat) (as bs : List PV) (us vs : Array Value) (val wal : Nat → Value) (hu : us.size = as.length) (hv : vs.size = bs.length)
      (hus : ∀ (i : Nat) (u : Value), us[i]? = some u → u = val i) (hvs : ∀ (i : Nat) (u : Value), vs[i]? = some u → u = wal i)
      (hr : ∀ (i : Nat) (c : PV), as[i]? = some c → RepC G c (val i)) (hr' : ∀ (i : Nat) (c : PV), bs[i]? = some c → RepC G c (wal i)) : RepC G (.clo f as bs) (.func (.func f) us vs)

theorem RepC.mono {G G' : Ghost} (h : G.le G') {p : PV} {v : Value} (r : RepC G p v) : RepC G' p v := by
  induction r with
  | bool b => exact .bool b
  | int k n => exact .int k n
  | str s => exact .str s
  | nil => exact .nil
  | nilp => exact .nilp
  | fn f => exact .fn f
  | nilfn => exact .nilfn
  | yfn l => exact .yfn l
  | list es A n cap b o sz val hn hc hA hs hg _ ih =>
    exact .list es A n cap b o sz val hn hc hA hs (fun j e i c h1 h2 => h _ _ (hg j e i c h1 h2)) ih
  | rptr cs b o val hg _ ih => exact .rptr cs b o val (fun i c h1 => h _ _ (hg i c h1)) ih
  | clo f as bs us vs val wal hu hv hus hvs _ _ ih ih' => exact .clo f as bs us vs val wal hu hv hus hvs ih ih'

theorem RepC.one {G : Ghost} {p : PV} {v : Value} (r : RepC G p v) : v.oneCell' = true := by cases r <;> rfl
theorem RepC.cells {G : Ghost} {p : PV} {v : Value} (r : RepC G p v) : v.cells = #[v] := by cases r <;> rfl
theorem RepC.pcells {G : Ghost} {p : PV} {v : Value} (r : RepC G p v) : p.cells = [p] := by cases r <;> rfl

/-- A plain value: one cell, or a struct's cells. -/
inductive RepP (G : Ghost) : PV → Value → Prop
  | one {p : PV} {v : Value} (h : RepC G p v) : RepP G p v
  | agg (cs : List PV) (vs : Array Value) (hl : cs.length = vs.size) (h : ∀ (i : Nat) c v, cs[i]? = some c → vs[i]? = some v → RepC G c v) : RepP G (.agg cs) (.agg vs)

theorem RepP.mono {G G' : Ghost} (h : G.le G') {p : PV} {v : Value} (r : RepP G p v) : RepP G' p v := by
  cases r with
  | one r => exact .one (r.mono h)
  | agg cs vs hl hr => exact .agg cs vs hl (fun i c v a b => (hr i c v a b).mono h)

/-- The cells of a plain value, cell by cell. -/
theorem RepP.cells {G : Ghost} {p : PV} {v : Value} (r : RepP G p v) :
    p.cells.length = v.cells.size ∧ ∀ (i : Nat) c u, p.cells[i]? = some c → v.cells[i]? = some u → RepC G c u := by
  cases r with
  | one r =>
    rw [r.cells, r.pcells]
    refine ⟨rfl, fun i c u h1 h2 => ?_⟩
    cases i with
    | zero => simp at h1 h2; subst h1; subst h2; exact r
    | succ i => simp at h1
  | agg cs vs hl hr => exact ⟨hl, hr⟩

structure ALoc where
  blk : Option Nat
  cap : Nat
  cnt : Nat
  sz : Nat

structure Env where
  bx : Nat → Nat
  ar : Nat → ALoc

/-- One cell's value in a frame: it may point to what the frame owns. -/
inductive RepX (E : Env) (G : Ghost) : PV → Value → Prop
  | pure {p : PV} {v : Value} (h : RepC G p v) : RepX E G p v
  | ptr (κ off : Nat) : RepX E G (.ptr κ off) (.pointer (some ⟨E.bx κ, off, none⟩))
  | arrNil (κ tot : Nat) (h : (E.ar κ).blk = none) (ht : tot = (E.ar κ).cnt) : RepX E G (.arr κ tot 0 0) (.slice none 0 0)
  | arr (κ tot off len : Nat) (A : Option Addr) (b : Nat) (h : (E.ar κ).blk = some b) (ht : tot = (E.ar κ).cnt) (hl : off + len ≤ tot) (hc : tot ≤ (E.ar κ).cap)
      (hA : (E.ar κ).cap = off ∨ A = some ⟨b, off * (E.ar κ).sz, none⟩) : RepX E G (.arr κ tot off len) (.slice A len ((E.ar κ).cap - off))
  | arrStale (κ tot off len : Nat) (v : Value) (h : tot < (E.ar κ).cnt) (hv : v.oneCell' = true) : RepX E G (.arr κ tot off len) v
  | aptr (κ tot i c b : Nat) (h : (E.ar κ).blk = some b) (ht : tot = (E.ar κ).cnt) (hi : i < tot) :
      RepX E G (.aptr κ tot i c) (.pointer (some ⟨b, i * (E.ar κ).sz + c, none⟩))
  | aptrStale (κ tot i c : Nat) (v : Value) (h : tot < (E.ar κ).cnt) (hv : v.oneCell' = true) : RepX E G (.aptr κ tot i c) v
  | map (κ : Nat) : RepX E G (.map κ) (.map (some (E.bx κ)))

theorem RepX.one {E : Env} {G : Ghost} {p : PV} {v : Value} (r : RepX E G p v) : v.oneCell' = true := by
  cases r with
  | pure h => exact h.one
  | arrStale κ tot off len v h hv => exact hv
  | aptrStale κ tot i c v h hv => exact hv
  | _ => rfl

theorem oneCell_cells {v : Value} (h : v.oneCell' = true) : v.cells = #[v] := by cases v <;> first | rfl | cases h

theorem RepX.pcells {E : Env} {G : Ghost} {p : PV} {v : Value} (r : RepX E G p v) : p.cells = [p] := by
  cases r with
  | pure h => exact h.pcells
  | _ => rfl

theorem RepX.mono {E : Env} {G G' : Ghost} (h : G.le G') {p : PV} {v : Value} (r : RepX E G p v) : RepX E G' p v := by
  cases r with
  | pure r => exact .pure (r.mono h)
  | ptr κ off => exact .ptr κ off
  | arrNil κ tot h ht => exact .arrNil κ tot h ht
  | arr κ tot off len A b h ht hl hc hA => exact .arr κ tot off len A b h ht hl hc hA
  | arrStale κ tot off len v h hv => exact .arrStale κ tot off len v h hv
  | aptr κ tot i c b h ht hi => exact .aptr κ tot i c b h ht hi
  | aptrStale κ tot i c v h hv => exact .aptrStale κ tot i c v h hv
  | map κ => exact .map κ

/-- A value in a frame's slot. -/
inductive Rep (E : Env) (G : Ghost) : PV → Value → Prop
  | one {p : PV} {v : Value} (h : RepX E G p v) : Rep E G p v
  | agg (cs : List PV) (vs : Array Value) (hl : cs.length = vs.size) (h : ∀ (i : Nat) c v, cs[i]? = some c → vs[i]? = some v → RepX E G c v) : Rep E G (.agg cs) (.agg vs)
  | tuple (cs : List PV) (vs : Array Value) (hl : cs.length = vs.size) (h : ∀ (i : Nat) c v, cs[i]? = some c → vs[i]? = some v → RepP G c v) : Rep E G (.tuple cs) (.tuple vs)
  | eptr (cs : List PV) (b o : Nat) (h : ∀ (i : Nat) c, cs[i]? = some c → ∃ v, G ⟨b, o + i, none⟩ = some v ∧ RepC G c v) : Rep E G (.eptr cs) (.pointer (some ⟨b, o, none⟩))
  | undef (v : Value) : Rep E G .undef v
  | never : Rep E G .never Go.undef

theorem Rep.mono {E : Env} {G G' : Ghost} (h : G.le G') {p : PV} {v : Value} (r : Rep E G p v) : Rep E G' p v := by
  cases r with
  | one r => exact .one (r.mono h)
  | agg cs vs hl hr => exact .agg cs vs hl (fun i c v a b => (hr i c v a b).mono h)
  | tuple cs vs hl hr => exact .tuple cs vs hl (fun i c v a b => (hr i c v a b).mono h)
  | eptr cs b o hr => exact .eptr cs b o (fun i c hc => let ⟨v, hv, r⟩ := hr i c hc; ⟨v, h _ _ hv, r.mono h⟩)
  | undef v => exact .undef v
  | never => exact .never

theorem RepP.rep {E : Env} {G : Ghost} {p : PV} {v : Value} (r : RepP G p v) : Rep E G p v := by
  cases r with
  | one r => exact .one (.pure r)
  | agg cs vs hl hr => exact .agg cs vs hl (fun i c v a b => .pure (hr i c v a b))

/-- The cells of a value that may be stored. -/
theorem Rep.cells {E : Env} {G : Ghost} {p : PV} {v : Value} (r : Rep E G p v) (hok : cellsOk p = true) :
    p.cells.length = v.cells.size ∧ ∀ (i : Nat) c u, p.cells[i]? = some c → v.cells[i]? = some u → RepX E G c u := by
  cases r with
  | one r =>
    rw [oneCell_cells r.one, r.pcells]
    refine ⟨rfl, fun i c u h1 h2 => ?_⟩
    cases i with
    | zero => simp at h1 h2; subst h1; subst h2; exact r
    | succ i => simp at h1
  | agg cs vs hl hr => exact ⟨hl, hr⟩
  | tuple cs vs hl hr => simp [cellsOk, cellOk] at hok
  | eptr cs b o hr => simp [cellsOk, cellOk] at hok
  | undef v => simp [cellsOk, cellOk] at hok
  | never => simp [cellsOk, cellOk] at hok

/-! ### What a block of the frame's own holds -/

def GFree (G : Ghost) (b : Nat) : Prop := ∀ x : Addr, x.block = b → G x = none

def BlkRep (E : Env) (G : Ghost) (w : World) (κ : Nat) : Blk → Prop
  | .box cs => ∃ vals elem, w.heap[E.bx κ]? = some (.cells vals elem (0, 0)) ∧ cs.length = vals.size ∧
      (∀ (i : Nat) c v, cs[i]? = some c → vals[i]? = some v → RepX E G c v) ∧ GFree G (E.bx κ)
  | .arr sz rows ro => (E.ar κ).sz = sz ∧ (E.ar κ).cnt = rows.length ∧ rows.length ≤ (E.ar κ).cap ∧ (∀ r ∈ rows, r.cells.length = sz) ∧
      match (E.ar κ).blk with
      | none => rows = [] ∧ (E.ar κ).cap = 0
      | some b => ∃ vals elem, w.heap[b]? = some (.cells vals elem (0, 0)) ∧ vals.size = (E.ar κ).cap * sz ∧
          (∀ (j : Nat) r (i : Nat) c, rows[j]? = some r → r.cells[i]? = some c → ∃ v, vals[j * sz + i]? = some v ∧ RepC G c v) ∧
          (ro = false → GFree G b) ∧ (∀ x : Addr, x.block = b → G x ≠ none → x.off < rows.length * sz)
  | .siter s pos => w.heap[E.bx κ]? = some (.stringIter s pos)
  | .rbox cs => ∃ vals elem, w.heap[E.bx κ]? = some (.cells vals elem (0, 0)) ∧ cs.length = vals.size ∧
      (∀ (i : Nat) c v, cs[i]? = some c → vals[i]? = some v → G ⟨E.bx κ, i, none⟩ = some v ∧ RepC G c v)
  | .map es => ∃ arr clock, w.heap[E.bx κ]? = some (.map arr clock) ∧ arr.toList.map (fun e => (e.key, e.val)) = es.map (fun p => (Value.int .i64 p.1, Value.bool p.2))

def blkOf (E : Env) (κ : Nat) : Blk → Option Nat
  | .arr _ _ _ => (E.ar κ).blk
  | _ => some (E.bx κ)

/-- Every key that a value names is alive. -/
def Cl (H : Hp) (p : PV) : Prop := ∀ κ ∈ refs p, (H κ).isSome = true
def ClC (H : Hp) (p : PV) : Prop := ∀ κ ∈ refC p, (H κ).isSome = true

def Holds (G : Ghost) (w : World) : Prop := ∀ x v, G x = some v → w.cell? x = some v

/-- The world has only grown: no block that there was has turned. -/
structure Ext (w w' : World) : Prop where
  blk : ∀ b, b < w.heap.size → w'.heap[b]? = w.heap[b]?
  size : w.heap.size ≤ w'.heap.size
  os : w'.os = w.os
  tape : w'.tape = w.tape
  output : w'.output = w.output

theorem Ext.refl (w : World) : Ext w w := ⟨fun _ _ => rfl, Nat.le_refl _, rfl, rfl, rfl⟩
theorem Ext.trans {a b c : World} (h : Ext a b) (k : Ext b c) : Ext a c :=
  ⟨fun i hi => (k.blk i (Nat.lt_of_lt_of_le hi h.size)).trans (h.blk i hi), Nat.le_trans h.size k.size, k.os.trans h.os, k.tape.trans h.tape, k.output.trans h.output⟩
theorem Ext.alloc (w : World) (o : Obj) : Ext w (w.alloc o) :=
  ⟨fun b hb => heap_alloc_old w o b hb, by simp, rfl, rfl, rfl⟩
theorem Ext.drew (w : World) : Ext w w.drew := ⟨fun _ _ => rfl, Nat.le_refl _, rfl, rfl, rfl⟩
theorem Ext.drawn (w : World) (n : Nat) : Ext w { w with drawn := n } := ⟨fun _ _ => rfl, Nat.le_refl _, rfl, rfl, rfl⟩

theorem heap_lt {w : World} {b : Nat} {o : Obj} (h : w.heap[b]? = some o) : b < w.heap.size := (Array.getElem?_eq_some_iff.1 h).1

theorem cell_of_heap {w w' : World} {x : Addr} (h : w'.heap[x.block]? = w.heap[x.block]?) : w'.cell? x = w.cell? x := by
  simp only [World.cell?, h]

theorem cell_lt {w : World} {x : Addr} {v : Value} (h : w.cell? x = some v) : x.block < w.heap.size := by
  unfold World.cell? at h
  split at h
  · rename_i hb; exact heap_lt hb
  · cases h

theorem Holds.ext {G : Ghost} {w w' : World} (h : Holds G w) (e : Ext w w') : Holds G w' := fun x v hx => by
  have h1 := h x v hx
  rw [cell_of_heap (e.blk x.block (cell_lt h1))]
  exact h1

/-- Deferred calls: nothing but the marks of loops over functions, in whose rounds nothing was deferred. -/
def MarksOk (base w : World) : List Deferred → Prop
  | [] => True
  | d :: ds => (∃ D, d = { target := .collected D, args := #[] } ∧ base.heap.size ≤ D ∧ w.heap[D]? = some (.deferred (some []))) ∧ d ∉ ds ∧ MarksOk base w ds

theorem MarksOk.keep {base w w' : World} : ∀ {ds : List Deferred}, MarksOk base w ds → (∀ (D : Nat) (o : Option (List Deferred)), w.heap[D]? = some (.deferred o) → w'.heap[D]? = some (.deferred o)) → MarksOk base w' ds
  | [], _, _ => trivial
  | _ :: _, ⟨⟨D, e, hb, hD⟩, hn, hr⟩, h => ⟨⟨D, e, hb, h D _ hD⟩, hn, hr.keep h⟩

/-- The abstract state stands for frame and memory. 'base': the world when the call began; 'pb': the blocks that were lent to it. -/
structure Rel (nt : Nat) (base : World) (pb : List (Nat × Nat)) (G0 : Ghost) (σ : St) (E : Env) (G : Ghost) (a : Act) (w : World) : Prop where
  tm : ∀ t, Rep E G (σ.T t) (a.tmps.getD t Go.undef)
  ts : a.tmps.size = nt
  df : MarksOk base w a.defers
  hp : ∀ κ B, σ.H κ = some B → BlkRep E G w κ B
  inj : ∀ κ κ' B B' b, σ.H κ = some B → σ.H κ' = some B' → κ ≠ κ' → blkOf E κ B = some b → blkOf E κ' B' ≠ some b
  cT : ∀ t, Cl σ.H (σ.T t)
  cH : ∀ κ cs, σ.H κ = some (.box cs) → ∀ c ∈ cs, ClC σ.H c
  hold : Holds G w
  lai : laidG.le G0
  gle : G0.le G
  gnew : ∀ x, G x ≠ none → G0 x ≠ none ∨ base.heap.size ≤ x.block ∨ x.block ∈ pb.map (·.2)
  fr : ∀ b, b < base.heap.size → b ∉ pb.map (·.2) → w.heap[b]? = base.heap[b]?
  sz : base.heap.size ≤ w.heap.size
  own : ∀ κ B b, σ.H κ = some B → blkOf E κ B = some b → base.heap.size ≤ b ∨ (κ, b) ∈ pb
  par : ∀ κ b cs, (κ, b) ∈ pb → σ.H κ = some (.box cs) → E.bx κ = b
  os : w.os = base.os
  tape : w.tape = base.tape
  output : w.output = base.output

theorem BlkRep.lt {E : Env} {G : Ghost} {w : World} {κ : Nat} {B : Blk} {b : Nat} (h : BlkRep E G w κ B) (hb : blkOf E κ B = some b) : b < w.heap.size := by
  cases B with
  | box cs => obtain ⟨vals, elem, hh, _⟩ := h; simp [blkOf] at hb; subst hb; exact heap_lt hh
  | arr sz rows ro =>
    obtain ⟨_, _, _, _, h5⟩ := h
    simp only [blkOf] at hb
    rw [hb] at h5
    obtain ⟨vals, elem, hh, _⟩ := h5
    exact heap_lt hh
  | siter s pos => simp [blkOf] at hb; subst hb; exact heap_lt h
  | map es => obtain ⟨arr, clock, hh, _⟩ := h; simp [blkOf] at hb; subst hb; exact heap_lt hh
  | rbox cs => obtain ⟨vals, elem, hh, _⟩ := h; simp [blkOf] at hb; subst hb; exact heap_lt hh

/-- A block's word stands as long as the block does, and its cells stay what they were. -/
theorem BlkRep.keep {E : Env} {G G' : Ghost} {w w' : World} {κ : Nat} {B : Blk} (h : BlkRep E G w κ B) (hg : G.le G')
    (hw : ∀ b, blkOf E κ B = some b → w'.heap[b]? = w.heap[b]?)
    (hf : ∀ b, blkOf E κ B = some b → ∀ x : Addr, x.block = b → G' x ≠ none → G x ≠ none) : BlkRep E G' w' κ B := by
  cases B with
  | box cs =>
    obtain ⟨vals, elem, hh, hl, hr, hfr⟩ := h
    refine ⟨vals, elem, by rw [hw _ rfl]; exact hh, hl, fun i c v a b => (hr i c v a b).mono hg, fun x hx => ?_⟩
    cases hG : G' x with
    | none => rfl
    | some v => exact absurd (hfr x hx) (hf _ rfl x hx (by simp [hG]))
  | arr sz rows ro =>
    obtain ⟨h1, h2, h3, h4, h5⟩ := h
    refine ⟨h1, h2, h3, h4, ?_⟩
    cases hb : (E.ar κ).blk with
    | none => rw [hb] at h5; exact h5
    | some b =>
      rw [hb] at h5
      obtain ⟨vals, elem, hh, hsz, hr, hro, hoff⟩ := h5
      refine ⟨vals, elem, by rw [hw b hb]; exact hh, hsz, fun j r i c a d => ?_, fun he x hx => ?_, fun x hx hne => hoff x hx (hf b hb x hx hne)⟩
      · obtain ⟨v, hv, r'⟩ := hr j r i c a d; exact ⟨v, hv, r'.mono hg⟩
      · cases hG : G' x with
        | none => rfl
        | some v => exact absurd (hro he x hx) (hf b hb x hx (by simp [hG]))
  | siter s pos => show _ = _; rw [hw _ rfl]; exact h
  | map es => obtain ⟨arr, clock, hh, he⟩ := h; exact ⟨arr, clock, by rw [hw _ rfl]; exact hh, he⟩
  | rbox cs =>
    obtain ⟨vals, elem, hh, hl, hr⟩ := h
    exact ⟨vals, elem, by rw [hw _ rfl]; exact hh, hl, fun i c v a b => ⟨hg _ _ (hr i c v a b).1, (hr i c v a b).2.mono hg⟩⟩

theorem Rel.lt {nt : Nat} {base : World} {pb : List (Nat × Nat)} {G0 : Ghost} {σ : St} {E : Env} {G : Ghost} {a : Act} {w : World} (h : Rel nt base pb G0 σ E G a w)
    {κ : Nat} {B : Blk} {b : Nat} (hH : σ.H κ = some B) (hb : blkOf E κ B = some b) : b < w.heap.size := (h.hp κ B hH).lt hb

/-- The world grows. -/
theorem Rel.ext {nt : Nat} {base : World} {pb : List (Nat × Nat)} {G0 : Ghost} {σ : St} {E : Env} {G : Ghost} {a : Act} {w w' : World}
    (h : Rel nt base pb G0 σ E G a w) (e : Ext w w') : Rel nt base pb G0 σ E G a w' :=
  { tm := h.tm, ts := h.ts, df := h.df.keep fun D o hD => (e.blk D (heap_lt hD)).trans hD, lai := h.lai,
    hp := fun κ B hH => (h.hp κ B hH).keep (.refl G) (fun b hb => e.blk b (h.lt hH hb)) (fun _ _ _ _ k => k),
    inj := h.inj, cT := h.cT, cH := h.cH, hold := h.hold.ext e, gle := h.gle, gnew := h.gnew,
    fr := fun b hb hp => (e.blk b (Nat.lt_of_lt_of_le hb h.sz)).trans (h.fr b hb hp), sz := Nat.le_trans h.sz e.size, own := h.own, par := h.par,
    os := e.os.trans h.os, tape := e.tape.trans h.tape, output := e.output.trans h.output }

/-- New cells that nobody will write again: in blocks that no key owns. -/
theorem Rel.ghost {nt : Nat} {base : World} {pb : List (Nat × Nat)} {G0 : Ghost} {σ : St} {E : Env} {G G' : Ghost} {a : Act} {w : World}
    (h : Rel nt base pb G0 σ E G a w) (hg : G.le G') (hold : Holds G' w) (hnew : ∀ x, G' x ≠ none → G x ≠ none ∨ base.heap.size ≤ x.block)
    (hfree : ∀ κ B b, σ.H κ = some B → blkOf E κ B = some b → ∀ x : Addr, x.block = b → G' x ≠ none → G x ≠ none) : Rel nt base pb G0 σ E G' a w :=
  { tm := fun t => (h.tm t).mono hg, ts := h.ts, df := h.df, lai := h.lai,
    hp := fun κ B hH => (h.hp κ B hH).keep hg (fun _ _ => rfl) (hfree κ B · hH ·),
    inj := h.inj, cT := h.cT, cH := h.cH, hold := hold, gle := h.gle.trans hg,
    gnew := fun x hx => (hnew x hx).elim (h.gnew x) (fun hb => .inr (.inl hb)), fr := h.fr, sz := h.sz, own := h.own, par := h.par, os := h.os, tape := h.tape, output := h.output }

theorem getD_put {a : Act} {d t : Nat} {x : Value} : (a.tmps.setIfInBounds d x).getD t Go.undef = if t = d ∧ d < a.tmps.size then x else a.tmps.getD t Go.undef := by
  by_cases h : t = d
  · subst h
    by_cases hl : t < a.tmps.size
    · simp [hl]
    · simp [hl, Array.getD]
  · simp only [h, false_and, if_false]
    simp only [Array.getD_eq_getD_getElem?]
    rw [Array.getElem?_setIfInBounds_ne (Ne.symm h)]

/-- A slot gets a value. -/
theorem Rel.put {nt : Nat} {base : World} {pb : List (Nat × Nat)} {G0 : Ghost} {T : Tm} {H : Hp} {E : Env} {G : Ghost} {a : Act} {w : World} {d : Option Nat} {v : PV} {x : Value}
    (h : Rel nt base pb G0 ⟨T, H⟩ E G a w) (hd : ∀ k, d = some k → k < nt) (hr : Rep E G v x) (hc : Cl H v) : Rel nt base pb G0 ⟨Ab.put T d v, H⟩ E G (a.put d x) w := by
  cases d with
  | none => exact h
  | some d =>
    have hlt : d < a.tmps.size := by rw [h.ts]; exact hd d rfl
    exact
    { tm := fun t => by
        show Rep E G (upd T d v t) ((a.tmps.setIfInBounds d x).getD t Go.undef)
        rw [getD_put]
        by_cases ht : t = d
        · simp only [upd, ht, hlt, if_true, true_and]; exact hr
        · simp only [upd, ht, if_false, false_and]; exact h.tm t
      ts := by simp [Act.put, h.ts]
      df := h.df
      hp := h.hp, inj := h.inj
      cT := fun t => by
        show Cl H (upd T d v t)
        by_cases ht : t = d
        · simp only [upd, ht, if_true]; exact hc
        · simp only [upd, ht, if_false]; exact h.cT t
      cH := h.cH, hold := h.hold, lai := h.lai, gle := h.gle, gnew := h.gnew, fr := h.fr, sz := h.sz, own := h.own, par := h.par, os := h.os, tape := h.tape, output := h.output }

theorem BlkRep.noMark {E : Env} {G : Ghost} {w : World} {κ : Nat} {B : Blk} {b : Nat} {o : Option (List Deferred)} (h : BlkRep E G w κ B) (hb : blkOf E κ B = some b) : w.heap[b]? ≠ some (.deferred o) := by
  intro hd
  cases B with
  | box cs => obtain ⟨vals, elem, hh, _⟩ := h; simp [blkOf] at hb; subst hb; rw [hh] at hd; cases hd
  | arr sz rows ro =>
    obtain ⟨_, _, _, _, h5⟩ := h
    simp only [blkOf] at hb
    rw [hb] at h5
    obtain ⟨vals, elem, hh, _⟩ := h5
    rw [hh] at hd; cases hd
  | siter s pos => simp [blkOf] at hb; subst hb; rw [show w.heap[E.bx κ]? = some (.stringIter s pos) from h] at hd; cases hd
  | map es => obtain ⟨arr, clock, hh, _⟩ := h; simp [blkOf] at hb; subst hb; rw [hh] at hd; cases hd
  | rbox cs => obtain ⟨vals, elem, hh, _⟩ := h; simp [blkOf] at hb; subst hb; rw [hh] at hd; cases hd

end Go.Ab

/- Part Step. -/
namespace Go.Ab
open Go

theorem RepX.env {E E' : Env} {G : Ghost} {p : PV} {v : Value} (r : RepX E G p v) (h : ∀ κ ∈ refC p, E'.bx κ = E.bx κ ∧ E'.ar κ = E.ar κ) : RepX E' G p v := by
  cases r with
  | pure r => exact .pure r
  | ptr κ off => have := (h κ (by simp [refC])).1; rw [← this]; exact .ptr κ off
  | arrNil κ tot h1 ht => have e := (h κ (by simp [refC])).2; exact .arrNil κ tot (by rw [e]; exact h1) (by rw [e]; exact ht)
  | arr κ tot off len A b h1 ht hl hc hA =>
    have e := (h κ (by simp [refC])).2
    rw [← e]
    exact .arr κ tot off len A b (by rw [e]; exact h1) (by rw [e]; exact ht) hl (by rw [e]; exact hc) (by rw [e]; exact hA)
  | arrStale κ tot off len v h1 hv => have e := (h κ (by simp [refC])).2; exact .arrStale κ tot off len v (by rw [e]; exact h1) hv
  | aptr κ tot i c b h1 ht hi =>
    have e := (h κ (by simp [refC])).2
    rw [← e]
    exact .aptr κ tot i c b (by rw [e]; exact h1) (by rw [e]; exact ht) hi
  | aptrStale κ tot i c v h1 hv => have e := (h κ (by simp [refC])).2; exact .aptrStale κ tot i c v (by rw [e]; exact h1) hv
  | map κ => have := (h κ (by simp [refC])).1; rw [← this]; exact .map κ

/-- An array has grown: what pointed to it is stale. -/
theorem RepX.grow {E E' : Env} {G : Ghost} {p : PV} {v : Value} {κ : Nat} (r : RepX E G p v) (hb : E'.bx = E.bx) (ho : ∀ κ', κ' ≠ κ → E'.ar κ' = E.ar κ')
    (hc : E'.ar κ = E.ar κ ∨ (E.ar κ).cnt < (E'.ar κ).cnt) : RepX E' G p v := by
  have one := r.one
  by_cases hk : κ ∈ refC p
  · rcases hc with hc | hc
    · exact r.env fun κ' _ => ⟨by rw [hb], by by_cases e : κ' = κ; (· rw [e]; exact hc); (· exact ho κ' e)⟩
    · cases r with
      | pure r => cases r <;> simp [refC] at hk
      | ptr κ' off => simp [refC] at hk; subst hk; rw [← hb]; exact .ptr κ off
      | arrNil κ' tot h1 ht => simp [refC] at hk; subst hk; exact .arrStale κ tot 0 0 _ (by omega) one
      | arr κ' tot off len A b h1 ht hl hcc hA => simp [refC] at hk; subst hk; exact .arrStale κ tot off len _ (by omega) one
      | arrStale κ' tot off len v h1 hv => simp [refC] at hk; subst hk; exact .arrStale κ tot off len v (by omega) hv
      | aptr κ' tot i c b h1 ht hi => simp [refC] at hk; subst hk; exact .aptrStale κ tot i c _ (by omega) one
      | aptrStale κ' tot i c v h1 hv => simp [refC] at hk; subst hk; exact .aptrStale κ tot i c v (by omega) hv
      | map κ' => simp [refC] at hk; subst hk; rw [← hb]; exact .map κ
  · exact r.env fun κ' h => ⟨by rw [hb], ho κ' (fun e => hk (e ▸ h))⟩

theorem Rep.mapX {E E' : Env} {G : Ghost} {p : PV} {v : Value} (r : Rep E G p v) (h : ∀ c u, (∀ κ ∈ refC c, κ ∈ refs p) → RepX E G c u → RepX E' G c u) : Rep E' G p v := by
  cases r with
  | one r => exact .one (h _ _ (fun κ hk => by cases p <;> first | exact hk | (cases r with | pure r => cases r)) r)
  | agg cs vs hl hr => exact .agg cs vs hl (fun i c v a b => h c v (fun κ hk => List.mem_flatMap.2 ⟨c, List.mem_of_getElem? a, hk⟩) (hr i c v a b))
  | tuple cs vs hl hr => exact .tuple cs vs hl hr
  | eptr cs b o hr => exact .eptr cs b o hr
  | undef v => exact .undef v
  | never => exact .never

theorem Rep.env {E E' : Env} {G : Ghost} {p : PV} {v : Value} (r : Rep E G p v) (h : ∀ κ ∈ refs p, E'.bx κ = E.bx κ ∧ E'.ar κ = E.ar κ) : Rep E' G p v :=
  r.mapX fun _ _ hc r => r.env fun κ hk => h κ (hc κ hk)

theorem upd_same {α : Type} (f : Nat → α) (k : Nat) (v : α) : upd f k v k = v := by simp [upd]
theorem upd_ne {α : Type} (f : Nat → α) {k i : Nat} (v : α) (h : i ≠ k) : upd f k v i = f i := by simp [upd, h]

theorem Cl.upd {H : Hp} {p : PV} {κ : Nat} {B : Blk} (h : Cl H p) : Cl (upd H κ (some B)) p := fun κ' hk => by
  by_cases e : κ' = κ
  · subst e; simp [upd_same]
  · rw [upd_ne _ _ e]; exact h κ' hk
theorem ClC.upd {H : Hp} {p : PV} {κ : Nat} {B : Blk} (h : ClC H p) : ClC (upd H κ (some B)) p := fun κ' hk => by
  by_cases e : κ' = κ
  · subst e; simp [upd_same]
  · rw [upd_ne _ _ e]; exact h κ' hk

section
variable {nt : Nat} {base : World} {pb : List (Nat × Nat)} {G0 : Ghost} {T : Tm} {H : Hp} {E : Env} {G : Ghost} {a : Act} {w : World}

/-- A new key. -/
theorem Rel.newKey (h : Rel nt base pb G0 ⟨T, H⟩ E G a w) {κ : Nat} (hκ : H κ = none) {E' : Env} {B : Blk}
    (hE : ∀ κ', κ' ≠ κ → E'.bx κ' = E.bx κ' ∧ E'.ar κ' = E.ar κ') (hB : BlkRep E' G w κ B)
    (hfresh : ∀ b, blkOf E' κ B = some b → base.heap.size ≤ b ∧ ∀ κ' B', H κ' = some B' → blkOf E κ' B' ≠ some b)
    (hcl : ∀ cs, B = .box cs → ∀ c ∈ cs, ClC H c) (hpb : ∀ b, (κ, b) ∉ pb) : Rel nt base pb G0 ⟨T, upd H κ (some B)⟩ E' G a w := by
  have hne : ∀ κ', (H κ').isSome = true → κ' ≠ κ := fun κ' hs e => by subst e; rw [hκ] at hs; cases hs
  have hblk : ∀ κ' B', κ' ≠ κ → blkOf E' κ' B' = blkOf E κ' B' := fun κ' B' e => by
    cases B' <;> simp [blkOf, (hE κ' e).1, (hE κ' e).2]
  exact
  { tm := fun t => (h.tm t).env fun κ' hk => hE κ' (hne κ' (h.cT t κ' hk)), ts := h.ts, df := h.df, lai := h.lai,
    hp := fun κ' B' hH => by
      by_cases e : κ' = κ
      · subst e; simp only [upd_same] at hH; injection hH with hH; subst hH; exact hB
      · simp only [upd_ne _ _ e] at hH
        have hb := h.hp κ' B' hH
        cases B' with
        | box cs =>
          obtain ⟨vals, elem, hh, hl, hr, hf⟩ := hb
          refine ⟨vals, elem, by rw [(hE κ' e).1]; exact hh, hl, fun i c v x y => (hr i c v x y).env fun k hk => hE k (hne k (h.cH κ' cs hH c (List.mem_of_getElem? x) k hk)), ?_⟩
          rw [(hE κ' e).1]; exact hf
        | arr sz rows ro => unfold BlkRep at hb ⊢; rw [(hE κ' e).2]; exact hb
        | siter s pos => unfold BlkRep at hb ⊢; rw [(hE κ' e).1]; exact hb
        | map es => unfold BlkRep at hb ⊢; rw [(hE κ' e).1]; exact hb
        | rbox cs => unfold BlkRep at hb ⊢; rw [(hE κ' e).1]; exact hb
    inj := fun κ1 κ2 B1 B2 b h1 h2 hn hb1 hb2 => by
      by_cases e1 : κ1 = κ
      · subst e1
        simp only [upd_same] at h1; injection h1 with h1; subst h1
        have e2 : κ2 ≠ κ1 := fun e => hn e.symm
        simp only [upd_ne _ _ e2] at h2
        rw [hblk κ2 B2 e2] at hb2
        exact (hfresh b hb1).2 κ2 B2 h2 hb2
      · simp only [upd_ne _ _ e1] at h1
        rw [hblk κ1 B1 e1] at hb1
        by_cases e2 : κ2 = κ
        · subst e2
          simp only [upd_same] at h2; injection h2 with h2; subst h2
          exact (hfresh b hb2).2 κ1 B1 h1 hb1
        · simp only [upd_ne _ _ e2] at h2
          rw [hblk κ2 B2 e2] at hb2
          exact h.inj κ1 κ2 B1 B2 b h1 h2 hn hb1 hb2
    cT := fun t => (h.cT t).upd,
    cH := fun κ' cs hH => by
      by_cases e : κ' = κ
      · subst e; simp only [upd_same] at hH; injection hH with hH; exact fun c hc => (hcl cs hH c hc).upd
      · simp only [upd_ne _ _ e] at hH; exact fun c hc => (h.cH κ' cs hH c hc).upd
    hold := h.hold, gle := h.gle, gnew := h.gnew, fr := h.fr, sz := h.sz,
    own := fun κ' B' b hH hb => by
      by_cases e : κ' = κ
      · subst e; simp only [upd_same] at hH; injection hH with hH; subst hH; exact .inl (hfresh b hb).1
      · simp only [upd_ne _ _ e] at hH; rw [hblk κ' B' e] at hb; exact h.own κ' B' b hH hb
    par := fun κ' b B' hm hH => by
      have e : κ' ≠ κ := fun e => by subst e; exact hpb b hm
      simp only [upd_ne _ _ e] at hH
      rw [(hE κ' e).1]; exact h.par κ' b B' hm hH
    os := h.os, tape := h.tape, output := h.output }

/-- A key's content turns (and, where it is an array, perhaps its block). -/
theorem Rel.setKey (h : Rel nt base pb G0 ⟨T, H⟩ E G a w) {κ : Nat} {B B' : Blk} (hκ : H κ = some B) {E' : Env} {w' : World}
    (hbx : E'.bx = E.bx) (har : ∀ κ', κ' ≠ κ → E'.ar κ' = E.ar κ') (hgr : E'.ar κ = E.ar κ ∨ (E.ar κ).cnt < (E'.ar κ).cnt)
    (hw : ∀ b, b < w.heap.size → blkOf E κ B ≠ some b → w'.heap[b]? = w.heap[b]?) (hsz : w.heap.size ≤ w'.heap.size)
    (hos : w'.os = w.os) (htape : w'.tape = w.tape) (hout : w'.output = w.output)
    (hold : Holds G w') (hB : BlkRep E' G w' κ B')
    (hblk : ∀ b, blkOf E' κ B' = some b → blkOf E κ B = some b ∨ w.heap.size ≤ b)
    (hbox : ∀ cs, B' = .box cs → ∃ cs', B = .box cs')
    (hcl : ∀ cs, B' = .box cs → ∀ c ∈ cs, ClC H c) : Rel nt base pb G0 ⟨T, upd H κ (some B')⟩ E' G a w' := by
  have hoth : ∀ κ' B1, κ' ≠ κ → blkOf E' κ' B1 = blkOf E κ' B1 := fun κ' B1 e => by
    cases B1 <;> simp [blkOf, hbx, har κ' e]
  have hap : ∀ κ' B1 b, κ' ≠ κ → H κ' = some B1 → blkOf E κ' B1 = some b → w'.heap[b]? = w.heap[b]? := fun κ' B1 b e h1 hb =>
    hw b (h.lt h1 hb) (fun hc => h.inj κ' κ B1 B b h1 hκ e hb hc)
  exact
  { tm := fun t => (h.tm t).mapX fun c u _ r => r.grow hbx har hgr, ts := h.ts, df := h.df.keep fun D o hD => (hw D (heap_lt hD) (fun hb => (h.hp κ B hκ).noMark hb hD)).trans hD, lai := h.lai,
    hp := fun κ' B1 hH => by
      by_cases e : κ' = κ
      · subst e; simp only [upd_same] at hH; injection hH with hH; subst hH; exact hB
      · simp only [upd_ne _ _ e] at hH
        have hb := (h.hp κ' B1 hH).keep (.refl G) (fun b hb => hap κ' B1 b e hH hb) (fun _ _ _ _ k => k)
        cases B1 with
        | box cs =>
          obtain ⟨vals, elem, hh, hl, hr, hf⟩ := hb
          refine ⟨vals, elem, by rw [hbx]; exact hh, hl, fun i c v x y => (hr i c v x y).grow hbx har hgr, ?_⟩
          rw [hbx]; exact hf
        | arr sz rows ro => unfold BlkRep at hb ⊢; rw [har κ' e]; exact hb
        | siter s pos => unfold BlkRep at hb ⊢; rw [hbx]; exact hb
        | map es => unfold BlkRep at hb ⊢; rw [hbx]; exact hb
        | rbox cs => unfold BlkRep at hb ⊢; rw [hbx]; exact hb
    inj := fun κ1 κ2 B1 B2 b h1 h2 hn hb1 hb2 => by
      by_cases e1 : κ1 = κ
      · subst e1
        simp only [upd_same] at h1; injection h1 with h1; subst h1
        have e2 : κ2 ≠ κ1 := fun e => hn e.symm
        simp only [upd_ne _ _ e2] at h2
        rw [hoth κ2 B2 e2] at hb2
        rcases hblk b hb1 with hb1 | hb1
        · exact h.inj κ1 κ2 B B2 b hκ h2 hn hb1 hb2
        · have := h.lt h2 hb2; omega
      · simp only [upd_ne _ _ e1] at h1
        rw [hoth κ1 B1 e1] at hb1
        by_cases e2 : κ2 = κ
        · subst e2
          simp only [upd_same] at h2; injection h2 with h2; subst h2
          rcases hblk b hb2 with hb2 | hb2
          · exact h.inj κ1 κ2 B1 B b h1 hκ hn hb1 hb2
          · have := h.lt h1 hb1; omega
        · simp only [upd_ne _ _ e2] at h2
          rw [hoth κ2 B2 e2] at hb2
          exact h.inj κ1 κ2 B1 B2 b h1 h2 hn hb1 hb2
    cT := fun t => (h.cT t).upd,
    cH := fun κ' cs hH => by
      by_cases e : κ' = κ
      · subst e; simp only [upd_same] at hH; injection hH with hH; exact fun c hc => (hcl cs hH c hc).upd
      · simp only [upd_ne _ _ e] at hH; exact fun c hc => (h.cH κ' cs hH c hc).upd
    hold := hold, gle := h.gle, gnew := h.gnew,
    fr := fun b hb hp => by
      refine (hw b (Nat.lt_of_lt_of_le hb h.sz) (fun hc => ?_)).trans (h.fr b hb hp)
      rcases h.own κ B b hκ hc with h1 | h1
      · omega
      · exact hp (List.mem_map.2 ⟨_, h1, rfl⟩)
    sz := Nat.le_trans h.sz hsz,
    own := fun κ' B1 b hH hb => by
      by_cases e : κ' = κ
      · subst e; simp only [upd_same] at hH; injection hH with hH; subst hH
        rcases hblk b hb with hb | hb
        · exact h.own κ' B b hκ hb
        · have := h.sz; exact .inl (by omega)
      · simp only [upd_ne _ _ e] at hH; rw [hoth κ' B1 e] at hb; exact h.own κ' B1 b hH hb
    par := fun κ' b B1 hm hH => by
      rw [hbx]
      by_cases e : κ' = κ
      · subst e; simp only [upd_same] at hH; injection hH with hH; subst hH
        obtain ⟨cs', rfl⟩ := hbox B1 rfl
        exact h.par κ' b cs' hm hκ
      · simp only [upd_ne _ _ e] at hH; exact h.par κ' b B1 hm hH
    os := hos.trans h.os, tape := htape.trans h.tape, output := hout.trans h.output }

/-! ### An array laid open for good -/

/-- The rows of an array's block are among the cells that stay. -/
def Open (E : Env) (G : Ghost) (κ : Nat) (sz : Nat) (rows : List PV) : Prop :=
  ∀ b, (E.ar κ).blk = some b → ∃ val : Nat → Nat → Value, ∀ (j : Nat) (r : PV) (i : Nat) (c : PV), rows[j]? = some r → r.cells[i]? = some c → G ⟨b, j * sz + i, none⟩ = some (val j i) ∧ RepC G c (val j i)

theorem Open.mono {E : Env} {G G' : Ghost} {κ sz : Nat} {rows : List PV} (h : Open E G κ sz rows) (hg : G.le G') : Open E G' κ sz rows := fun b hb => by
  obtain ⟨val, hv⟩ := h b hb
  exact ⟨val, fun j r i c h1 h2 => ⟨hg _ _ (hv j r i c h1 h2).1, (hv j r i c h1 h2).2.mono hg⟩⟩

theorem row_off {sz n j i : Nat} (hj : j < n) (hi : i < sz) : j * sz + i < n * sz :=
  calc j * sz + i < j * sz + sz := by omega
    _ = (j + 1) * sz := by rw [Nat.add_mul, Nat.one_mul]
    _ ≤ n * sz := Nat.mul_le_mul_right _ hj

theorem Rel.freeze (h : Rel nt base pb G0 ⟨T, H⟩ E G a w) {κ sz : Nat} {rows : List PV} {ro : Bool} (hκ : H κ = some (.arr sz rows ro)) :
    ∃ G', G.le G' ∧ Rel nt base pb G0 ⟨T, upd H κ (some (.arr sz rows true))⟩ E G' a w ∧ Open E G' κ sz rows := by
  have hb := h.hp κ _ hκ
  obtain ⟨h1, h2, h3, h4, h5⟩ := hb
  have key : ∀ (G1 : Ghost) (hB : BlkRep E G1 w κ (.arr sz rows true)) (h' : Rel nt base pb G0 ⟨T, H⟩ E G1 a w), Rel nt base pb G0 ⟨T, upd H κ (some (.arr sz rows true))⟩ E G1 a w := fun G1 hB h' =>
    h'.setKey hκ rfl (fun _ _ => rfl) (.inl rfl) (fun _ _ _ => rfl) (Nat.le_refl _) rfl rfl rfl h'.hold hB (fun b hb => .inl hb) (fun cs e => by cases e) (fun cs e => by cases e)
  cases hblk : (E.ar κ).blk with
  | none =>
    rw [hblk] at h5
    refine ⟨G, .refl G, key G ⟨h1, h2, h3, h4, by rw [hblk]; exact h5⟩ h, fun b hb => by rw [hblk] at hb; cases hb⟩
  | some b =>
    rw [hblk] at h5
    obtain ⟨vals, elem, hh, hvs, hr, hro, hoff⟩ := h5
    let G' : Ghost := fun x => match G x with
      | some v => some v
      | none => if x.block = b ∧ x.spot = none ∧ x.off < rows.length * sz then w.cell? x else none
    have hle : G.le G' := fun x v hx => by simp only [G', hx]
    have hcell : ∀ (j : Nat) (r : PV) (i : Nat) (c : PV), rows[j]? = some r → r.cells[i]? = some c → ∃ v, w.cell? ⟨b, j * sz + i, none⟩ = some v ∧ RepC G c v := fun j r i c hj hi => by
      obtain ⟨v, hv, rr⟩ := hr j r i c hj hi
      exact ⟨v, by rw [cell_of_row w b _ vals elem (0, 0) hh]; exact hv, rr⟩
    have hG' : ∀ (j : Nat) (r : PV) (i : Nat) (c : PV), rows[j]? = some r → r.cells[i]? = some c → ∃ v, G' ⟨b, j * sz + i, none⟩ = some v ∧ w.cell? ⟨b, j * sz + i, none⟩ = some v ∧ RepC G c v := fun j r i c hj hi => by
      obtain ⟨v, hv, rr⟩ := hcell j r i c hj hi
      refine ⟨v, ?_, hv, rr⟩
      have hjl : j < rows.length := (List.getElem?_eq_some_iff.1 hj).1
      have hil : i < sz := by rw [← h4 r (List.mem_of_getElem? hj)]; exact (List.getElem?_eq_some_iff.1 hi).1
      have hlt := row_off hjl hil
      cases hg : G ⟨b, j * sz + i, none⟩ with
      | some u =>
        have := h.hold _ _ hg
        rw [hv] at this; injection this with this; subst this
        simp only [G', hg]
      | none => simp only [G', hg, hlt, and_self, if_true, hv]
    have hold' : Holds G' w := fun x v hx => by
      simp only [G'] at hx
      split at hx
      · rename_i u hu; injection hx with hx; subst hx; exact h.hold x u hu
      · split at hx
        · exact hx
        · cases hx
    have hnew : ∀ x, G' x ≠ none → G x ≠ none ∨ x.block = b ∧ x.off < rows.length * sz := fun x hx => by
      simp only [G'] at hx
      split at hx
      · rename_i u hu; exact .inl (by simp [hu])
      · split at hx
        · rename_i hc; exact .inr ⟨hc.1, hc.2.2⟩
        · exact absurd rfl hx
    have hbase : base.heap.size ≤ b ∨ b ∈ pb.map (·.2) := by
      rcases h.own κ _ b hκ (by simp [blkOf, hblk]) with h1 | h2
      · exact .inl h1
      · exact .inr (List.mem_map.2 ⟨_, h2, rfl⟩)
    have hB' : BlkRep E G' w κ (.arr sz rows true) := by
      refine ⟨h1, h2, h3, h4, ?_⟩
      rw [hblk]
      refine ⟨vals, elem, hh, hvs, fun j r i c hj hi => ?_, (fun e => nomatch e), fun x hx hne => ?_⟩
      · obtain ⟨v, hv, rr⟩ := hr j r i c hj hi; exact ⟨v, hv, rr.mono hle⟩
      · rcases hnew x hne with h1 | ⟨_, h2⟩
        · exact hoff x hx h1
        · exact h2
    refine ⟨G', hle, ?_, fun b' hb' => ?_⟩
    · refine
      { tm := fun t => (h.tm t).mono hle, ts := h.ts, df := h.df, lai := h.lai,
        hp := fun κ' B' hH => ?_, inj := fun κ1 κ2 B1 B2 b0 e1 e2 hn => ?_, cT := fun t => (h.cT t).upd,
        cH := fun κ' cs hH => ?_, hold := hold', gle := h.gle.trans hle,
        gnew := fun x hx => ?_, fr := h.fr, sz := h.sz, own := fun κ' B' b0 hH hb0 => ?_, par := fun κ' b0 B' hm hH => ?_, os := h.os, tape := h.tape, output := h.output }
      · by_cases e : κ' = κ
        · subst e; simp only [upd_same] at hH; injection hH with hH; subst hH; exact hB'
        · simp only [upd_ne _ _ e] at hH
          refine (h.hp κ' B' hH).keep hle (fun _ _ => rfl) (fun b0 hb0 x hx hne => ?_)
          rcases hnew x hne with h1 | ⟨h2, _⟩
          · exact h1
          · exact absurd (by simp [blkOf, hblk, ← h2, hx] : blkOf E κ (.arr sz rows ro) = some b0) (h.inj κ' κ B' _ b0 hH hκ e hb0)
      · have f : ∀ κ' B', upd H κ (some (.arr sz rows true)) κ' = some B' → ∃ B0, H κ' = some B0 ∧ blkOf E κ' B' = blkOf E κ' B0 := fun κ' B' hH => by
          by_cases e : κ' = κ
          · subst e; simp only [upd_same] at hH; injection hH with hH; subst hH; exact ⟨_, hκ, rfl⟩
          · simp only [upd_ne _ _ e] at hH; exact ⟨_, hH, rfl⟩
        obtain ⟨B1', g1, g1'⟩ := f κ1 B1 e1
        obtain ⟨B2', g2, g2'⟩ := f κ2 B2 e2
        rw [g1', g2']
        exact h.inj κ1 κ2 B1' B2' b0 g1 g2 hn
      · by_cases e : κ' = κ
        · subst e; simp only [upd_same] at hH; injection hH with hH; cases hH
        · simp only [upd_ne _ _ e] at hH; exact fun c hc => (h.cH κ' cs hH c hc).upd
      · rcases hnew x hx with h1 | ⟨h2, _⟩
        · exact h.gnew x h1
        · exact .inr (by rw [h2]; exact hbase)
      · by_cases e : κ' = κ
        · subst e; simp only [upd_same] at hH; injection hH with hH; subst hH
          exact h.own κ' _ b0 hκ hb0
        · simp only [upd_ne _ _ e] at hH; exact h.own κ' B' b0 hH hb0
      · by_cases e : κ' = κ
        · subst e; simp only [upd_same] at hH; injection hH with hH; cases hH
        · simp only [upd_ne _ _ e] at hH; exact h.par κ' b0 B' hm hH
    · rw [hblk] at hb'; injection hb' with hb'; subst hb'
      refine ⟨fun j i => (G' ⟨b, j * sz + i, none⟩).getD Go.undef, fun j r i c hj hi => ?_⟩
      obtain ⟨v, hv, _, rr⟩ := hG' j r i c hj hi
      simp only [hv, Option.getD_some]
      exact ⟨trivial, rr.mono hle⟩

/-- A box of the frame's own is laid open for good. -/
theorem Rel.freezeBox (h : Rel nt base pb G0 ⟨T, H⟩ E G a w) {κ : Nat} {cs ps : List PV} (hκ : H κ = some (.box cs)) (hpb : ∀ b, (κ, b) ∉ pb) (hl : ps.length = cs.length)
    (hps : ∀ (i : Nat) p c v, ps[i]? = some p → cs[i]? = some c → RepX E G c v → RepC G p v) :
    ∃ G', G.le G' ∧ Rel nt base pb G0 ⟨T, upd H κ (some (.rbox ps))⟩ E G' a w ∧ RepC G' (.rptr ps) (.pointer (some ⟨E.bx κ, 0, none⟩)) := by
  obtain ⟨vals, elem, hh, hlen, hr, hf⟩ := h.hp κ _ hκ
  let b := E.bx κ
  let G' : Ghost := fun x => match G x with
    | some v => some v
    | none => if x.block = b ∧ x.spot = none then w.cell? x else none
  have hle : G.le G' := fun x v hx => by simp only [G', hx]
  have hcell : ∀ i : Nat, G' ⟨b, i, none⟩ = vals[i]? := fun i => by
    have hn : G ⟨b, i, none⟩ = none := hf _ rfl
    simp only [G', hn, and_self, if_true]
    rw [cell_of_row w b _ vals elem (0, 0) hh]
  have hold' : Holds G' w := fun x v hx => by
    simp only [G'] at hx
    split at hx
    · rename_i u hu; injection hx with hx; subst hx; exact h.hold x u hu
    · split at hx
      · exact hx
      · cases hx
  have hnew : ∀ x, G' x ≠ none → G x ≠ none ∨ x.block = b := fun x hx => by
    simp only [G'] at hx
    split at hx
    · rename_i u hu; exact .inl (by simp [hu])
    · split at hx
      · rename_i hc; exact .inr hc.1
      · exact absurd rfl hx
  have hbase : base.heap.size ≤ b := by
    rcases h.own κ _ b hκ rfl with h1 | h1
    · exact h1
    · exact absurd h1 (hpb b)
  have hrep : ∀ (i : Nat) p v, ps[i]? = some p → vals[i]? = some v → RepC G p v := fun i p v hp hv => by
    have hi : i < cs.length := by rw [← hl]; exact (List.getElem?_eq_some_iff.1 hp).1
    exact hps i p _ v hp (List.getElem?_eq_getElem hi) (hr i _ v (List.getElem?_eq_getElem hi) hv)
  have hB' : BlkRep E G' w κ (.rbox ps) :=
    ⟨vals, elem, hh, by rw [hl]; exact hlen, fun i p v hp hv => ⟨by rw [hcell i]; exact hv, (hrep i p v hp hv).mono hle⟩⟩
  refine ⟨G', hle, ?_, ?_⟩
  · refine
    { tm := fun t => (h.tm t).mono hle, ts := h.ts, df := h.df, lai := h.lai,
      hp := fun κ' B' hH => ?_, inj := fun κ1 κ2 B1 B2 b0 e1 e2 hn => ?_, cT := fun t => (h.cT t).upd,
      cH := fun κ' cs hH => ?_, hold := hold', gle := h.gle.trans hle,
      gnew := fun x hx => ?_, fr := h.fr, sz := h.sz, own := fun κ' B' b0 hH hb0 => ?_, par := fun κ' b0 B' hm hH => ?_, os := h.os, tape := h.tape, output := h.output }
    · by_cases e : κ' = κ
      · subst e; simp only [upd_same] at hH; injection hH with hH; subst hH; exact hB'
      · simp only [upd_ne _ _ e] at hH
        refine (h.hp κ' B' hH).keep hle (fun _ _ => rfl) (fun b0 hb0 x hx hne => ?_)
        rcases hnew x hne with h1 | h2
        · exact h1
        · exact absurd (by rw [← hx, h2]; rfl : blkOf E κ (.box cs) = some b0) (h.inj κ' κ B' _ b0 hH hκ e hb0)
    · have f : ∀ κ' B', upd H κ (some (.rbox ps)) κ' = some B' → ∃ B0, H κ' = some B0 ∧ blkOf E κ' B' = blkOf E κ' B0 := fun κ' B' hH => by
        by_cases e : κ' = κ
        · subst e; simp only [upd_same] at hH; injection hH with hH; subst hH; exact ⟨_, hκ, rfl⟩
        · simp only [upd_ne _ _ e] at hH; exact ⟨_, hH, rfl⟩
      obtain ⟨B1', g1, g1'⟩ := f κ1 B1 e1
      obtain ⟨B2', g2, g2'⟩ := f κ2 B2 e2
      rw [g1', g2']
      exact h.inj κ1 κ2 B1' B2' b0 g1 g2 hn
    · by_cases e : κ' = κ
      · subst e; simp only [upd_same] at hH; injection hH with hH; cases hH
      · simp only [upd_ne _ _ e] at hH; exact fun c hc => (h.cH κ' cs hH c hc).upd
    · rcases hnew x hx with h1 | h2
      · exact h.gnew x h1
      · exact .inr (.inl (by omega))
    · by_cases e : κ' = κ
      · subst e; simp only [upd_same] at hH; injection hH with hH; subst hH
        have : b0 = b := by simp [blkOf] at hb0; exact hb0.symm
        exact .inl (by omega)
      · simp only [upd_ne _ _ e] at hH; exact h.own κ' B' b0 hH hb0
    · by_cases e : κ' = κ
      · subst e; exact absurd hm (hpb b0)
      · simp only [upd_ne _ _ e] at hH; exact h.par κ' b0 B' hm hH
  · refine .rptr ps b 0 (fun i => (vals[i]?).getD Go.undef) (fun i c hc => ?_) (fun i c hc => ?_)
    · have hi : i < vals.size := by rw [← hlen, ← hl]; exact (List.getElem?_eq_some_iff.1 hc).1
      rw [Nat.zero_add, hcell i, Array.getElem?_eq_getElem hi]; rfl
    · have hi : i < vals.size := by rw [← hlen, ← hl]; exact (List.getElem?_eq_some_iff.1 hc).1
      rw [Array.getElem?_eq_getElem hi]
      exact (hrep i c _ hc (Array.getElem?_eq_getElem hi)).mono hle

end
end Go.Ab

/- Part Pur. -/
namespace Go.Ab
open Go

structure ArrOk (E : Env) (G : Ghost) (κ sz : Nat) (rows : List PV) : Prop where
  esz : (E.ar κ).sz = sz
  cnt : (E.ar κ).cnt = rows.length
  cap : rows.length ≤ (E.ar κ).cap
  cells : ∀ r ∈ rows, r.cells.length = sz
  nil : (E.ar κ).blk = none → rows = []
  op : Open E G κ sz rows

theorem BlkRep.arrOk {E : Env} {G G' : Ghost} {w : World} {κ sz : Nat} {rows : List PV} {ro : Bool} (h : BlkRep E G w κ (.arr sz rows ro)) (o : Open E G' κ sz rows) : ArrOk E G' κ sz rows := by
  obtain ⟨h1, h2, h3, h4, h5⟩ := h
  exact ⟨h1, h2, h3, h4, fun hb => by rw [hb] at h5; exact h5.1, o⟩

theorem drop_take_get {α : Type} {rows : List α} {off len j : Nat} {e : α} (h : ((rows.drop off).take len)[j]? = some e) : j < len ∧ rows[off + j]? = some e := by
  rw [List.getElem?_take] at h
  split at h
  · rename_i hj; exact ⟨hj, by simpa [List.getElem?_drop] using h⟩
  · cases h

theorem drop_take_len {α : Type} {rows : List α} {off len : Nat} (h : off + len ≤ rows.length) : ((rows.drop off).take len).length = len := by
  simp; omega

/-- An array of the frame's own, as a list. -/
theorem RepX.arr_list {E : Env} {G G0 : Ghost} {κ tot off len sz : Nat} {rows : List PV} {v : Value} (r : RepX E G0 (.arr κ tot off len) v) (ok : ArrOk E G κ sz rows)
    (ht : rows.length = tot) (hl : off + len ≤ tot) : RepC G (.list ((rows.drop off).take len)) v := by
  cases r with
  | pure r => cases r
  | arrStale κ tot off len v h hv => have := ok.cnt; omega
  | arrNil κ tot h ht' =>
    have e := ok.nil h
    subst e
    exact .list _ none 0 0 0 0 0 (fun _ _ => Go.undef) (by simp) (by simp) (.inl (by simp)) (fun j e h => by simp at h) (fun j e i c h => by simp at h) (fun j e i c h => by simp at h)
  | arr κ tot off len A b h ht' hl' hc hA =>
    obtain ⟨val, hv⟩ := ok.op b h
    have hlen : ((rows.drop off).take len).length = len := drop_take_len (by omega)
    refine .list _ A len _ b (off * sz) sz (fun j i => val (off + j) i) hlen.symm (by rw [hlen]; omega) ?_ (fun j e hj => ok.cells e (List.mem_of_getElem? (drop_take_get hj).2))
      (fun j e i c hj hi => ?_) (fun j e i c hj hi => (hv (off + j) e i c (drop_take_get hj).2 hi).2)
    · rcases hA with hA | hA
      · exact .inl (List.eq_nil_of_length_eq_zero (by rw [hlen]; omega))
      · exact .inr (by rw [hA, ok.esz])
    · have := (hv (off + j) e i c (drop_take_get hj).2 hi).1
      rw [Nat.add_mul] at this
      exact this

theorem RepC.nilList (G : Ghost) : RepC G (.list []) (.slice none 0 0) :=
  .list [] none 0 0 0 0 0 (fun _ _ => Go.undef) rfl (by simp) (.inl rfl) (fun j e h => by simp at h) (fun j e i c h => by simp at h) (fun j e i c h => by simp at h)

/-- Every array that a value names lies open. -/
def OpenAll (E : Env) (G : Ghost) (h : Hp) (ks : List Nat) : Prop := ∀ κ ∈ ks, ∀ sz rows ro, h κ = some (.arr sz rows ro) → ArrOk E G κ sz rows

theorem purC_rep {E : Env} {G0 G : Ghost} {h : Hp} {nrm : Bool} {p q : PV} {v : Value} (hp : purC h nrm p = some q) (r : RepX E G0 p v) (hg : G0.le G) (ho : OpenAll E G h (refC p)) : RepC G q v := by
  cases p with
  | bool b => simp only [purC, Option.some.injEq] at hp; subst hp; cases r with | pure r => exact r.mono hg
  | int k n => simp only [purC, Option.some.injEq] at hp; subst hp; cases r with | pure r => exact r.mono hg
  | str s => simp only [purC, Option.some.injEq] at hp; subst hp; cases r with | pure r => exact r.mono hg
  | nilp => simp only [purC, Option.some.injEq] at hp; subst hp; cases r with | pure r => exact r.mono hg
  | fn f => simp only [purC, Option.some.injEq] at hp; subst hp; cases r with | pure r => exact r.mono hg
  | list es => simp only [purC, Option.some.injEq] at hp; subst hp; cases r with | pure r => exact r.mono hg
  | nil =>
    simp only [purC, Option.some.injEq] at hp; subst hp
    cases r with
    | pure r => cases r; cases nrm <;> first | exact .nil | exact RepC.nilList G
  | arr κ tot off len =>
    simp only [purC] at hp
    split at hp
    · rename_i sz rows ro hk
      split at hp
      · rename_i hc; injection hp with hp; subst hp; exact r.arr_list (ho κ (by simp [refC]) _ _ _ hk) hc.1 hc.2
      · cases hp
    · cases hp
  | undef => simp [purC] at hp
  | never => simp [purC] at hp
  | agg cs => simp [purC] at hp
  | tuple cs => simp [purC] at hp
  | ptr κ off => simp [purC] at hp
  | aptr κ tot i c => simp [purC] at hp
  | eptr cs => simp [purC] at hp
  | boxed cs => simp [purC] at hp
  | map κ => simp [purC] at hp
  | nilfn => simp only [purC, Option.some.injEq] at hp; subst hp; cases r with | pure r => exact r.mono hg
  | yfn l => simp only [purC, Option.some.injEq] at hp; subst hp; cases r with | pure r => exact r.mono hg
  | rptr cs => simp only [purC, Option.some.injEq] at hp; subst hp; cases r with | pure r => exact r.mono hg
  | clo f as bs => simp only [purC, Option.some.injEq] at hp; subst hp; cases r with | pure r => exact r.mono hg

theorem purCs_get {h : Hp} {nrm : Bool} : ∀ {cs ps : List PV}, purCs h nrm cs = some ps → ps.length = cs.length ∧ ∀ (i : Nat) p, ps[i]? = some p → ∃ c, cs[i]? = some c ∧ purC h nrm c = some p
  | [], ps, hp => by simp only [purCs, Option.some.injEq] at hp; subst hp; exact ⟨rfl, fun i p h => by simp at h⟩
  | c :: cs, ps, hp => by
    simp only [purCs] at hp
    split at hp
    · rename_i q hq
      split at hp
      · rename_i qs hqs
        injection hp with hp; subst hp
        obtain ⟨hl, hr⟩ := purCs_get hqs
        refine ⟨by simp [hl], fun i p hi => ?_⟩
        cases i with
        | zero => simp at hi; subst hi; exact ⟨c, rfl, hq⟩
        | succ i => simpa using hr i p (by simpa using hi)
      · cases hp
    · cases hp

theorem pur_rep {E : Env} {G0 G : Ghost} {h : Hp} {nrm : Bool} {p q : PV} {v : Value} (hp : pur h nrm p = some q) (r : Rep E G0 p v) (hg : G0.le G) (ho : OpenAll E G h (refs p)) : RepP G q v := by
  cases r with
  | one r =>
    refine .one (purC_rep (p := p) (h := h) (nrm := nrm) ?_ r hg ?_)
    · cases p <;> first | exact hp | (cases r with | pure r => cases r)
    · cases p <;> first | exact ho | (cases r with | pure r => cases r)
  | agg cs vs hl hr =>
    simp only [pur] at hp
    split at hp
    · rename_i ps hps
      injection hp with hp; subst hp
      obtain ⟨hl', hr'⟩ := purCs_get hps
      refine .agg ps vs (by omega) (fun i p u hi hu => ?_)
      obtain ⟨c, hc, hpc⟩ := hr' i p hi
      exact purC_rep hpc (hr i c u hc hu) hg fun κ hk => ho κ (List.mem_flatMap.2 ⟨c, List.mem_of_getElem? hc, hk⟩)
    · cases hp
  | tuple cs vs hl hr => simp [pur, purC] at hp
  | eptr cs b o hr => simp [pur, purC] at hp
  | undef v => simp [pur, purC] at hp
  | never => simp [pur, purC] at hp

/-- What is plain already stays so. -/
theorem pur_plain {h : Hp} {nrm : Bool} {p q : PV} (hp : pur h nrm p = some q) : refs q = [] := by
  have one : ∀ c q, purC h nrm c = some q → refC q = [] := fun c q hc => by
    cases c <;> simp only [purC] at hc <;> first
      | (injection hc with hc; subst hc; rfl)
      | (injection hc with hc; subst hc; cases nrm <;> rfl)
      | (split at hc <;> first | (split at hc <;> first | (injection hc with hc; subst hc; rfl) | cases hc) | cases hc)
      | cases hc
  have notagg : ∀ c q, purC h nrm c = some q → refs q = refC q := fun c q hc => by
    cases c <;> simp only [purC] at hc <;> first
      | (injection hc with hc; subst hc; rfl)
      | (injection hc with hc; subst hc; cases nrm <;> rfl)
      | (split at hc <;> first | (split at hc <;> first | (injection hc with hc; subst hc; rfl) | cases hc) | cases hc)
      | cases hc
  cases p with
  | agg cs =>
    simp only [pur] at hp
    split at hp
    · rename_i ps hps
      injection hp with hp; subst hp
      simp only [refs, List.flatMap_eq_nil_iff]
      intro p hm
      obtain ⟨i, hi⟩ := List.mem_iff_getElem?.1 hm
      obtain ⟨c, _, hc⟩ := (purCs_get hps).2 i p hi
      exact one c p hc
    · cases hp
  | _ => simp only [pur] at hp; exact (notagg _ _ hp).trans (one _ _ hp)

theorem Cl.nil {H : Hp} {p : PV} (h : refs p = []) : Cl H p := fun κ hk => by rw [h] at hk; cases hk

theorem Cl.ups {p : PV} {H : Hp} {l : List (Nat × Blk)} (h : Cl H p) : Cl (ups H l) p := by
  induction l generalizing H with
  | nil => exact h
  | cons x l ih => obtain ⟨κ, b⟩ := x; exact ih h.upd
theorem ClC.ups {p : PV} {H : Hp} {l : List (Nat × Blk)} (h : ClC H p) : ClC (ups H l) p := by
  induction l generalizing H with
  | nil => exact h
  | cons x l ih => obtain ⟨κ, b⟩ := x; exact ih h.upd

theorem ups_append : ∀ (H : Hp) (l m : List (Nat × Blk)), ups H (l ++ m) = ups (ups H l) m
  | _, [], _ => rfl
  | H, (κ, b) :: l, m => ups_append (upd H κ (some b)) l m

section
variable {nt : Nat} {base : World} {pb : List (Nat × Nat)} {G0 : Ghost} {T : Tm} {E : Env} {a : Act} {w : World}

/-- The heap that an operation sees is a part of the frame's, but for arrays that have been laid open since. -/
def Sees (h H : Hp) : Prop := (∀ κ sz rows ro, h κ = some (.arr sz rows ro) → ∃ ro', H κ = some (.arr sz rows ro')) ∧ ∀ κ B, h κ = some B → (∀ sz rows ro, B ≠ .arr sz rows ro) → H κ = some B

theorem Sees.of_le {h H : Hp} (hl : ∀ κ B, h κ = some B → H κ = some B) : Sees h H := ⟨fun _ _ _ ro e => ⟨ro, hl _ _ e⟩, fun κ B e _ => hl κ B e⟩

theorem Sees.frz1 {h H : Hp} (hs : Sees h H) {κ sz : Nat} {rows : List PV} {ro : Bool} (hk : h κ = some (.arr sz rows ro)) : Sees h (upd H κ (some (.arr sz rows true))) := by
  refine ⟨fun κ' sz' rows' ro' e => ?_, fun κ' B e hB => ?_⟩
  · by_cases hκ : κ' = κ
    · subst hκ; rw [hk] at e; injection e with e; injection e with e1 e2 e3; subst e1; subst e2; exact ⟨true, upd_same _ _ _⟩
    · rw [upd_ne _ _ hκ]; exact hs.1 κ' sz' rows' ro' e
  · by_cases hκ : κ' = κ
    · subst hκ; rw [hk] at e; injection e with e; exact absurd e.symm (hB _ _ _)
    · rw [upd_ne _ _ hκ]; exact hs.2 κ' B e hB

theorem Rel.freezes {h : Hp} : ∀ (ks : List Nat) {H : Hp} {G : Ghost}, Rel nt base pb G0 ⟨T, H⟩ E G a w → Sees h H →
    ∃ G', G.le G' ∧ Rel nt base pb G0 ⟨T, ups H (frz h ks)⟩ E G' a w ∧ OpenAll E G' h ks ∧ Sees h (ups H (frz h ks)) ∧
      (∀ κ, κ ∉ ks → ups H (frz h ks) κ = H κ)
  | [], H, G, hr, hs => ⟨G, .refl G, hr, (fun _ hk => nomatch hk), hs, fun _ _ => rfl⟩
  | κ :: ks, H, G, hr, hs => by
    cases hk : h κ with
    | none =>
      obtain ⟨G', hg, hr', ho, hs', hn⟩ := Rel.freezes ks hr hs
      have e : frz h (κ :: ks) = frz h ks := by simp [frz, hk]
      rw [e]
      refine ⟨G', hg, hr', fun κ' hm sz rows ro hh => ?_, hs', fun κ' hm => hn κ' (fun c => hm (List.mem_cons_of_mem _ c))⟩
      rcases List.mem_cons.1 hm with rfl | hm
      · rw [hk] at hh; cases hh
      · exact ho κ' hm sz rows ro hh
    | some B =>
      by_cases hB : ∃ sz rows ro, B = .arr sz rows ro
      · obtain ⟨sz, rows, ro, rfl⟩ := hB
        obtain ⟨ro', hH⟩ := hs.1 κ sz rows ro hk
        obtain ⟨G1, hg1, hr1, ho1⟩ := hr.freeze hH
        obtain ⟨G', hg, hr', ho, hs', hn⟩ := Rel.freezes ks hr1 (hs.frz1 hk)
        have e : frz h (κ :: ks) = (κ, .arr sz rows true) :: frz h ks := by simp [frz, hk]
        rw [e]
        refine ⟨G', hg1.trans hg, hr', fun κ' hm sz' rows' ro'' hh => ?_, hs', fun κ' hm => ?_⟩
        · rcases List.mem_cons.1 hm with rfl | hm
          · rw [hk] at hh; injection hh with hh; injection hh with e1 e2 e3; subst e1; subst e2
            exact (hr1.hp κ' _ (upd_same _ _ _)).arrOk (ho1.mono hg)
          · exact ho κ' hm sz' rows' ro'' hh
        · have h1 : κ' ≠ κ := fun c => hm (by simp [c])
          exact (hn κ' (fun c => hm (List.mem_cons_of_mem _ c))).trans (upd_ne _ _ h1)
      · obtain ⟨G', hg, hr', ho, hs', hn⟩ := Rel.freezes ks hr hs
        have e : frz h (κ :: ks) = frz h ks := by
          simp only [frz, hk]
          cases B with
          | arr sz rows ro => exact absurd ⟨sz, rows, ro, rfl⟩ hB
          | box cs => rfl
          | siter s pos => rfl
          | map es => rfl
          | rbox cs => rfl
        rw [e]
        refine ⟨G', hg, hr', fun κ' hm sz rows ro hh => ?_, hs', fun κ' hm => hn κ' (fun c => hm (List.mem_cons_of_mem _ c))⟩
        rcases List.mem_cons.1 hm with rfl | hm
        · rw [hk] at hh; injection hh with hh; exact absurd ⟨sz, rows, ro, hh⟩ hB
        · exact ho κ' hm sz rows ro hh

end
end Go.Ab

/- Part Mem. -/
namespace Go.Ab
open Go

def OpOut (nt : Nat) (base : World) (pb : List (Nat × Nat)) (G0 : Ghost) (P : Program) (σ : St) (a : Act) (s : Sem Value) (w : World) (v : PV) (us : List (Nat × Blk)) : Prop :=
  ∃ x w' E' G', s.run P w = .ok x w' ∧ Rel nt base pb G0 ⟨σ.T, ups σ.H us⟩ E' G' a w' ∧ Rep E' G' v x ∧ Cl (ups σ.H us) v

def aggD : TypeDesc → Bool
  | .struct _ | .array _ _ => true
  | _ => false

/-- A type's cells, and whether its values are structs. -/
def tyB (P : Program) (t n : Nat) (ag : Bool) : Bool :=
  match P.info? t, P.underlying t with
  | some i, some d => i.size == n && ag == aggD d
  | _, _ => false

theorem RepC.refC {G : Ghost} {p : PV} {v : Value} (r : RepC G p v) : refC p = [] := by cases r <;> rfl
theorem RepP.refs {G : Ghost} {p : PV} {v : Value} (r : RepP G p v) : refs p = [] := by
  cases r with
  | one r => cases r <;> rfl
  | agg cs vs hl hr =>
    simp only [Ab.refs, List.flatMap_eq_nil_iff]
    intro p hm
    obtain ⟨i, hi⟩ := List.mem_iff_getElem?.1 hm
    have hlt : i < vs.size := by rw [← hl]; exact (List.getElem?_eq_some_iff.1 hi).1
    exact (hr i p vs[i] hi (Array.getElem?_eq_getElem hlt)).refC

theorem run_sizeOf {P : Program} {w : World} {t : Nat} {i : TypeInfo} (h : P.info? t = some i) : (sizeOf t).run P w = .ok i.size w := by
  simp [sizeOf, typeInfo, h]

theorem run_isAgg {P : Program} {w : World} {t : Nat} {d : TypeDesc} (h : P.underlying t = some d) :
    (isAgg t).run P w = .ok (aggD d) w := by
  cases d <;> simp [isAgg, run_underlying h, aggD]

/-- Cells in a row, read as a value. -/
theorem run_ld {P : Program} {w : World} {E : Env} {G : Ghost} {H : Hp} {t n : Nat} {ag : Bool} (ht : tyB P t n ag = true) {b o : Nat} {cs : List PV} {q : PV}
    (hc : ∀ (i : Nat) c, cs[i]? = some c → ∃ v, w.cell? ⟨b, o + i, none⟩ = some v ∧ RepX E G c v) (hcl : ∀ c ∈ cs, ClC H c) (hq : ld n ag cs = some q) :
    ∃ y, (loadVar t ⟨b, o, none⟩).run P w = .ok y w ∧ Rep E G q y ∧ Cl H q := by
  unfold tyB at ht
  split at ht
  · rename_i i d hi hd
    simp only [Bool.and_eq_true, beq_iff_eq] at ht
    obtain ⟨hn, hag⟩ := ht
    have hrun : (loadVar t ⟨b, o, none⟩).run P w = if ag = true then ((loadCells ⟨b, o, none⟩ n).run P w).andThen (fun x w' => .ok (.agg x) w') else (load ⟨b, o, none⟩).run P w := by
      unfold loadVar
      rw [Sem.run_bind, run_isAgg hd, Result.andThen_ok, ← hag]
      cases ag
      · simp
      · simp [run_sizeOf hi, hn]
    rw [hrun]
    unfold ld at hq
    cases ag with
    | true =>
      simp only [if_true] at hq ⊢
      split at hq
      · rename_i hle
        injection hq with hq; subst hq
        have hcell : ∀ j, j < n → w.cell? ((⟨b, o, none⟩ : Addr).add j) = some ((w.cell? ⟨b, o + j, none⟩).getD Go.undef) := fun j hj => by
          obtain ⟨v, hv, _⟩ := hc j cs[j] (List.getElem?_eq_getElem (by omega))
          rw [Addr.add_lit, hv]; rfl
        rw [run_loadCells w ⟨b, o, none⟩ n (fun j => (w.cell? ⟨b, o + j, none⟩).getD Go.undef) hcell]
        refine ⟨_, rfl, .agg _ _ (by simp; omega) (fun j c v h1 h2 => ?_), fun κ hk => ?_⟩
        · rw [List.getElem?_take] at h1
          split at h1
          · rename_i hj
            obtain ⟨u, hu, hr⟩ := hc j c h1
            simp [hj, hu] at h2
            subst h2; exact hr
          · cases h1
        · obtain ⟨c, hcm, hk⟩ := List.mem_flatMap.1 hk
          exact hcl c (List.mem_of_mem_take hcm) κ hk
      · cases hq
    | false =>
      simp only [Bool.false_eq_true, if_false] at hq ⊢
      split at hq
      · obtain ⟨v, hv, hr⟩ := hc 0 q hq
        simp only [Nat.add_zero] at hv
        refine ⟨v, by simp [hv], .one hr, fun κ hk => hcl q (List.mem_of_getElem? hq) κ ?_⟩
        cases q <;> first | exact hk | (cases hr with | pure r => cases r)
      · cases hq
  · cases ht

section
variable {nt : Nat} {base : World} {pb : List (Nat × Nat)} {G0 : Ghost} {P : Program} {σ : St} {E : Env} {G : Ghost} {a : Act} {w : World}

theorem OpOut.same {s : Sem Value} {x : Value} {v : PV} (h : Rel nt base pb G0 σ E G a w) (hr : s.run P w = .ok x w) (hv : Rep E G v x) (hc : Cl σ.H v) : OpOut nt base pb G0 P σ a s w v [] :=
  ⟨x, w, E, G, hr, h, hv, hc⟩

/-- The cells behind an address that a frame may read. -/
theorem addr_cells (h : Rel nt base pb G0 σ E G a w) {hh : Hp} (hle : ∀ κ B, hh κ = some B → σ.H κ = some B) {p : PV} {x : Value} (hx : Rep E G p x) {cs : List PV}
    (hp : (∃ κ off bs, p = .ptr κ off ∧ hh κ = some (.box bs) ∧ cs = bs.drop off) ∨ p = .eptr cs ∨
      (∃ κ tot i c sz rows ro r, p = .aptr κ tot i c ∧ hh κ = some (.arr sz rows ro) ∧ rows.length = tot ∧ rows[i]? = some r ∧ cs = r.cells.drop c) ∨
      (∃ κ off bs, p = .ptr κ off ∧ hh κ = some (.rbox bs) ∧ cs = bs.drop off) ∨ p = .rptr cs) :
    ∃ b o, x = .pointer (some ⟨b, o, none⟩) ∧ (∀ (i : Nat) c, cs[i]? = some c → ∃ v, w.cell? ⟨b, o + i, none⟩ = some v ∧ RepX E G c v) ∧ ∀ c ∈ cs, ClC σ.H c := by
  rcases hp with ⟨κ, off, bs, rfl, hk, rfl⟩ | rfl | ⟨κ, tot, i, c, sz, rows, ro, r, rfl, hk, ht, hr, rfl⟩ | ⟨κ, off, bs, rfl, hk, rfl⟩ | rfl
  · cases hx with
    | one hx =>
      cases hx with
      | pure r => cases r
      | ptr κ off =>
        have hH := hle _ _ hk
        obtain ⟨vals, elem, hw, hl, hr, _⟩ := h.hp κ _ hH
        refine ⟨_, _, rfl, fun i c hi => ?_, fun c hc => h.cH κ bs hH c (List.mem_of_mem_drop hc)⟩
        rw [List.getElem?_drop] at hi
        have hlt : off + i < vals.size := by rw [← hl]; exact (List.getElem?_eq_some_iff.1 hi).1
        refine ⟨vals[off + i], ?_, hr _ _ _ hi (Array.getElem?_eq_getElem hlt)⟩
        rw [cell_of_row w _ _ vals elem (0, 0) hw]; exact Array.getElem?_eq_getElem hlt
  · cases hx with
    | one hx => cases hx with | pure r => cases r
    | eptr cs b o hr =>
      refine ⟨b, o, rfl, fun i c hi => ?_, fun c hc => ?_⟩
      · obtain ⟨v, hv, r⟩ := hr i c hi; exact ⟨v, h.hold _ _ hv, .pure r⟩
      · obtain ⟨i, hi⟩ := List.mem_iff_getElem?.1 hc
        obtain ⟨v, _, r⟩ := hr i c hi
        intro κ hk; rw [r.refC] at hk; cases hk
  · cases hx with
    | one hx =>
      have hH := hle _ _ hk
      obtain ⟨h1, h2, h3, h4, h5⟩ := h.hp κ _ hH
      cases hx with
      | pure r => cases r
      | aptrStale κ tot i c v hs hv => omega
      | aptr κ tot i c b hb ht' hi =>
        rw [hb] at h5
        obtain ⟨vals, elem, hw, hvs, hrr, _⟩ := h5
        refine ⟨_, _, rfl, fun j d hj => ?_, fun d hd => ?_⟩
        · rw [List.getElem?_drop] at hj
          obtain ⟨v, hv, rr⟩ := hrr i r (c + j) d hr hj
          refine ⟨v, ?_, .pure rr⟩
          rw [cell_of_row w _ _ vals elem (0, 0) hw, h1, Nat.add_assoc]; exact hv
        · obtain ⟨j, hj⟩ := List.mem_iff_getElem?.1 (List.mem_of_mem_drop hd)
          obtain ⟨v, _, rr⟩ := hrr i r j d hr hj
          intro κ hk; rw [rr.refC] at hk; cases hk
  · cases hx with
    | one hx =>
      cases hx with
      | pure r => cases r
      | ptr κ off =>
        have hH := hle _ _ hk
        obtain ⟨vals, elem, hw, hl, hr⟩ := h.hp κ _ hH
        refine ⟨_, _, rfl, fun i c hi => ?_, fun c hc => ?_⟩
        · rw [List.getElem?_drop] at hi
          have hlt : off + i < vals.size := by rw [← hl]; exact (List.getElem?_eq_some_iff.1 hi).1
          refine ⟨vals[off + i], ?_, .pure (hr _ _ _ hi (Array.getElem?_eq_getElem hlt)).2⟩
          rw [cell_of_row w _ _ vals elem (0, 0) hw]; exact Array.getElem?_eq_getElem hlt
        · obtain ⟨i, hi⟩ := List.mem_iff_getElem?.1 (List.mem_of_mem_drop hc)
          have hlt : i < vals.size := by rw [← hl]; exact (List.getElem?_eq_some_iff.1 hi).1
          have rr := (hr _ _ _ hi (Array.getElem?_eq_getElem hlt)).2
          intro κ hk; rw [rr.refC] at hk; cases hk
  · cases hx with
    | one hx =>
      cases hx with
      | pure r => cases r with
        | rptr cs b o val hg hr =>
          refine ⟨b, o, rfl, fun i c hi => ⟨val i, h.hold _ _ (hg i c hi), .pure (hr i c hi)⟩, fun c hc => ?_⟩
          obtain ⟨i, hi⟩ := List.mem_iff_getElem?.1 hc
          have rr := hr i c hi
          intro κ hk; rw [rr.refC] at hk; cases hk

theorem op_load (h : Rel nt base pb G0 σ E G a w) {hh : Hp} (hle : ∀ κ B, hh κ = some B → σ.H κ = some B) {call : CallF} {ρ : Src → PV} {t n : Nat} {ag : Bool} (ht : tyB P t n ag = true)
    {y : Src} {x : Value} (hx : Rep E G (ρ y) x) {v : PV} {us : List (Nat × Blk)} (he : evOp call ρ hh (.load n ag y) = some (v, us)) : OpOut nt base pb G0 P σ a (Instr.loadAt t x) w v us := by
  have fin : ∀ cs, ((∃ κ off bs, ρ y = .ptr κ off ∧ hh κ = some (.box bs) ∧ cs = bs.drop off) ∨ ρ y = .eptr cs ∨
      (∃ κ tot i c sz rows ro r, ρ y = .aptr κ tot i c ∧ hh κ = some (.arr sz rows ro) ∧ rows.length = tot ∧ rows[i]? = some r ∧ cs = r.cells.drop c) ∨
      (∃ κ off bs, ρ y = .ptr κ off ∧ hh κ = some (.rbox bs) ∧ cs = bs.drop off) ∨ ρ y = .rptr cs) →
      (ld n ag cs).map (·, ([] : List (Nat × Blk))) = some (v, us) → OpOut nt base pb G0 P σ a (Instr.loadAt t x) w v us := fun cs hp hl => by
    obtain ⟨b, o, rfl, hc, hcl⟩ := addr_cells h hle hx hp
    cases hq : ld n ag cs with
    | none => rw [hq] at hl; cases hl
    | some q =>
      rw [hq] at hl; simp only [Option.map_some, Option.some.injEq, Prod.mk.injEq] at hl
      obtain ⟨rfl, rfl⟩ := hl
      obtain ⟨z, hz, hr, hcz⟩ := run_ld ht hc hcl hq
      exact .same h (by simp [Instr.loadAt, Instr.sureAddr, hz]) hr hcz
  simp only [evOp] at he
  split at he
  · rename_i κ off hy
    split at he
    · rename_i bs hk; exact fin _ (.inl ⟨κ, off, bs, hy, hk, rfl⟩) he
    · rename_i bs hk; exact fin _ (.inr (.inr (.inr (.inl ⟨κ, off, bs, hy, hk, rfl⟩)))) he
    · cases he
  · rename_i cs hy; exact fin _ (.inr (.inl hy)) he
  · rename_i cs hy; exact fin _ (.inr (.inr (.inr (.inr hy)))) he
  · rename_i κ tot i c hy
    split at he
    · rename_i sz rows ro hk
      split at he
      · rename_i hl
        split at he
        · rename_i r hr; exact fin _ (.inr (.inr (.inl ⟨κ, tot, i, c, sz, rows, ro, r, hy, hk, hl, hr, rfl⟩))) he
        · cases he
      · cases he
    · cases he
  · cases he

/-! ### New blocks -/

theorem holds_gfree {G : Ghost} {w : World} (h : Holds G w) {b : Nat} (hb : w.heap.size ≤ b) : GFree G b := fun x hx => by
  cases hg : G x with
  | none => rfl
  | some v => have := cell_lt (h x v hg); omega

/-- A new box. -/
theorem Rel.newBox (h : Rel nt base pb G0 σ E G a w) {κ : Nat} (hκ : σ.H κ = none) {cs : List PV} {vals : Array Value} {elem : Nat} (hl : cs.length = vals.size)
    (hr : ∀ (i : Nat) c v, cs[i]? = some c → vals[i]? = some v → RepX E G c v) (hcl : ∀ c ∈ cs, ClC σ.H c) (hpb : ∀ b, (κ, b) ∉ pb) :
    ∃ E', Rel nt base pb G0 ⟨σ.T, upd σ.H κ (some (.box cs))⟩ E' G a (w.alloc (.cells vals elem)) ∧ E'.bx κ = w.heap.size := by
  have h' := h.ext (Ext.alloc w (.cells vals elem))
  let E' : Env := ⟨upd E.bx κ w.heap.size, E.ar⟩
  have hE : ∀ κ', κ' ≠ κ → E'.bx κ' = E.bx κ' ∧ E'.ar κ' = E.ar κ' := fun κ' e => ⟨upd_ne _ _ e, rfl⟩
  refine ⟨E', h'.newKey hκ hE ?_ ?_ ?_ hpb, upd_same _ _ _⟩
  · refine ⟨vals, elem, ?_, hl, fun i c v h1 h2 => (hr i c v h1 h2).env fun k hk => hE k (fun e => ?_), ?_⟩
    · show (w.alloc _).heap[upd E.bx κ w.heap.size κ]? = _; rw [upd_same]; exact heap_alloc_new w _
    · subst e; have := hcl c (List.mem_of_getElem? h1) _ hk; rw [hκ] at this; cases this
    · show GFree G (upd E.bx κ w.heap.size κ); rw [upd_same]; exact holds_gfree h.hold (Nat.le_refl _)
  · intro b hb
    have hb' : b = w.heap.size := by simp [blkOf, E', upd_same] at hb; exact hb.symm
    subst hb'
    refine ⟨h.sz, fun κ' B' hH hbb => ?_⟩
    have := h.lt hH hbb
    omega
  · intro cs' e; injection e with e; subst e; exact hcl

/-- Is a plain abstract value this value of the model's? -/
def eqv : PV → Value → Bool
  | .bool a, .bool b => a == b
  | .int k a, .int k' b => k == k' && a == b
  | .str a, .string b => a.data == b.data
  | .nil, .slice none 0 0 => true
  | .nilp, .pointer none => true
  | .fn f, .func (.func g) x y => f == g && x.size == 0 && y.size == 0
  | .nilfn, .nilFunc => true
  | _, _ => false

theorem eqv_rep {G : Ghost} {p : PV} {v : Value} (h : eqv p v = true) : RepC G p v := by
  unfold eqv at h
  split at h
  · simp at h; subst h; exact .bool _
  · simp at h; obtain ⟨rfl, rfl⟩ := h; exact .int _ _
  · rename_i a b
    have : a = b := by
      cases a; cases b; simp at h; subst h; rfl
    subst this; exact .str _
  · exact .nil
  · exact .nilp
  · rename_i f g x y
    simp only [Bool.and_eq_true, beq_iff_eq] at h
    obtain ⟨⟨rfl, hx⟩, hy⟩ := h
    have ex : x = #[] := Array.eq_empty_of_size_eq_zero hx
    have ey : y = #[] := Array.eq_empty_of_size_eq_zero hy
    subst ex; subst ey
    exact .fn _
  · exact .nilfn
  · cases h

def eqvs : List PV → List Value → Bool
  | [], [] => true
  | p :: ps, v :: vs => eqv p v && eqvs ps vs
  | _, _ => false

theorem eqvs_get : ∀ {ps : List PV} {vs : List Value}, eqvs ps vs = true → ps.length = vs.length ∧ ∀ (i : Nat) p v, ps[i]? = some p → vs[i]? = some v → eqv p v = true
  | [], [], _ => ⟨rfl, fun i p v h _ => by simp at h⟩
  | [], _ :: _, h => by simp [eqvs] at h
  | _ :: _, [], h => by simp [eqvs] at h
  | p :: ps, v :: vs, h => by
    simp only [eqvs, Bool.and_eq_true] at h
    obtain ⟨hl, hr⟩ := eqvs_get h.2
    refine ⟨by simp [hl], fun i q u h1 h2 => ?_⟩
    cases i with
    | zero => simp at h1 h2; subst h1; subst h2; exact h.1
    | succ i => exact hr i q u (by simpa using h1) (by simpa using h2)

/-- A type's zero value, cell by cell. -/
def zerosB (P : Program) (t : Nat) (zs : List PV) : Bool :=
  match P.info? t with
  | some i => (match i.zero with | some z => eqvs zs z.cells.toList && zs.length == i.size | none => false)
  | none => false

theorem zerosB_spec {t : Nat} {zs : List PV} (h : zerosB P t zs = true) : ∃ i z, P.info? t = some i ∧ i.zero = some z ∧ eqvs zs z.cells.toList = true ∧ zs.length = i.size := by
  unfold zerosB at h
  split at h
  · rename_i i hi
    split at h
    · rename_i z hz
      simp only [Bool.and_eq_true, beq_iff_eq] at h
      exact ⟨i, z, hi, hz, h.1, h.2⟩
    · cases h
  · cases h

theorem op_alloc (h : Rel nt base pb G0 σ E G a w) {hh : Hp} {call : CallF} {ρ : Src → PV} {t κ : Nat} {zs : List PV} (hz : zerosB P t zs = true) (hk : hh κ = σ.H κ) (hpb : ∀ b, (κ, b) ∉ pb)
    {v : PV} {us : List (Nat × Blk)} (he : evOp call ρ hh (.alloc κ zs) = some (v, us)) : OpOut nt base pb G0 P σ a (Instr.alloc t true (.tuple #[])) w v us := by
  simp only [evOp] at he
  split at he
  · rename_i hn
    simp only [Option.some.injEq, Prod.mk.injEq] at he
    obtain ⟨rfl, rfl⟩ := he
    rw [hk, Option.isNone_iff_eq_none] at hn
    obtain ⟨i, z, hi, hz0, hzs, _⟩ := zerosB_spec hz
    obtain ⟨hl, hg⟩ := eqvs_get hzs
    have href : ∀ c ∈ zs, ClC σ.H c := fun c hc κ hk => by
      obtain ⟨j, hj⟩ := List.mem_iff_getElem?.1 hc
      have hlt : j < z.cells.toList.length := by rw [← hl]; exact (List.getElem?_eq_some_iff.1 hj).1
      rw [(eqv_rep (G := G) (hg j c _ hj (List.getElem?_eq_getElem hlt))).refC] at hk; cases hk
    obtain ⟨E', hr, hE⟩ := h.newBox hn (cs := zs) (vals := z.cells) (elem := t) (by simpa using hl) (fun j c u h1 h2 => .pure (eqv_rep (hg j c u h1 (by simpa using h2)))) href hpb
    refine ⟨.pointer (some ⟨w.heap.size, 0, none⟩), _, E', G, ?_, hr, by rw [← hE]; exact .one (.ptr κ 0), ?_⟩
    · simp [Instr.alloc, zeroValue, typeInfo, hi, hz0, newVar, newRow]
    · intro κ' hk'; simp [refs, refC] at hk'; subst hk'; simp [ups, upd_same]
  · cases he

theorem Cl.cells {H : Hp} {p : PV} (h : Cl H p) (hok : cellsOk p = true) : ∀ c ∈ p.cells, ClC H c := by
  intro c hc κ hk
  cases p with
  | agg cs => exact h κ (List.mem_flatMap.2 ⟨c, hc, hk⟩)
  | tuple cs => simp [cellsOk, cellOk] at hok
  | _ => (simp [PV.cells] at hc; subst hc; exact h κ (by simpa [refs] using hk))

theorem op_box (h : Rel nt base pb G0 σ E G a w) {hh : Hp} {call : CallF} {ρ : Src → PV} {t κ n : Nat} {y : Src} {x : Value} (hx : Rep E G (ρ y) x) (hc : Cl σ.H (ρ y)) (hk : hh κ = σ.H κ) (hpb : ∀ b, (κ, b) ∉ pb)
    {v : PV} {us : List (Nat × Blk)} (he : evOp call ρ hh (.box κ n y) = some (v, us)) : OpOut nt base pb G0 P σ a (Instr.box t x) w v us := by
  simp only [evOp] at he
  split at he
  · rename_i hn
    simp only [Option.some.injEq, Prod.mk.injEq] at he
    obtain ⟨rfl, rfl⟩ := he
    obtain ⟨hn, hok, hlen⟩ := hn
    rw [hk, Option.isNone_iff_eq_none] at hn
    obtain ⟨hl, hg⟩ := hx.cells hok
    obtain ⟨E', hr, hE⟩ := h.newBox hn (cs := (ρ y).cells) (vals := x.cells) (elem := t) hl hg (hc.cells hok) hpb
    refine ⟨.pointer (some ⟨w.heap.size, 0, none⟩), _, E', G, ?_, hr, by rw [← hE]; exact .one (.ptr κ 0), ?_⟩
    · simp [Instr.box, newVar, newRow]
    · intro κ' hk'; simp [refs, refC] at hk'; subst hk'; simp [ups, upd_same]
  · cases he

end
end Go.Ab

/- Part Arr. -/
namespace Go.Ab
open Go

/-! ### Cells in a row, spliced -/

theorem splice_get {α : Type} (cs ns : List α) (off i : Nat) (h : off + ns.length ≤ cs.length) :
    (cs.take off ++ ns ++ cs.drop (off + ns.length))[i]? = if i < off then cs[i]? else if i < off + ns.length then ns[i - off]? else cs[i]? := by
  by_cases h1 : i < off
  · rw [if_pos h1, List.append_assoc, List.getElem?_append_left (by simp; omega), List.getElem?_take, if_pos h1]
  · rw [if_neg h1, List.append_assoc, List.getElem?_append_right (by simp; omega)]
    have e : (cs.take off).length = off := by simp; omega
    rw [e]
    by_cases h2 : i < off + ns.length
    · rw [if_pos h2, List.getElem?_append_left (by omega)]
    · rw [if_neg h2, List.getElem?_append_right (by omega), List.getElem?_drop]
      congr 1; omega

theorem splice_len {α : Type} (cs ns : List α) (off : Nat) (h : off + ns.length ≤ cs.length) : (cs.take off ++ ns ++ cs.drop (off + ns.length)).length = cs.length := by
  simp; omega

theorem splice_rel {α β : Type} {R : α → β → Prop} {cs ns : List α} {vs us : List β} {off : Nat} (hl : cs.length = vs.length) (hn : ns.length = us.length) (ho : off + ns.length ≤ cs.length)
    (hr : ∀ (i : Nat) c v, cs[i]? = some c → vs[i]? = some v → R c v) (hs : ∀ (i : Nat) c v, ns[i]? = some c → us[i]? = some v → R c v) :
    ∀ (i : Nat) c v, (cs.take off ++ ns ++ cs.drop (off + ns.length))[i]? = some c → (vs.take off ++ us ++ vs.drop (off + us.length))[i]? = some v → R c v := by
  intro i c v h1 h2
  rw [splice_get _ _ _ _ ho] at h1
  rw [splice_get _ _ _ _ (by omega)] at h2
  rw [← hn] at h2
  split at h1
  · rename_i hi; rw [if_pos hi] at h2; exact hr i c v h1 h2
  · rename_i hi
    rw [if_neg hi] at h2
    split at h1
    · rename_i hj; rw [if_pos hj] at h2; exact hs _ c v h1 h2
    · rename_i hj; rw [if_neg hj] at h2; exact hr i c v h1 h2

def szB (P : Program) (t n : Nat) : Bool :=
  match P.info? t with
  | some i => i.size == n
  | none => false

theorem szB_spec {P : Program} {t n : Nat} (h : szB P t n = true) : ∃ i, P.info? t = some i ∧ i.size = n := by
  unfold szB at h
  split at h
  · rename_i i hi; exact ⟨i, hi, by simpa using h⟩
  · cases h

theorem holds_other {G : Ghost} {w w' : World} {b : Nat} (h : Holds G w) (hf : GFree G b) (hw : ∀ b', b' ≠ b → w'.heap[b']? = w.heap[b']?) : Holds G w' := fun x v hx => by
  have hb : x.block ≠ b := fun e => by rw [hf x e] at hx; cases hx
  rw [cell_of_heap (hw x.block hb)]; exact h x v hx

section
variable {nt : Nat} {base : World} {pb : List (Nat × Nat)} {G0 : Ghost} {P : Program} {σ : St} {E : Env} {G : Ghost} {a : Act} {w : World}

theorem run_storeVar {t n : Nat} (ht : szB P t n = true) {b o : Nat} {vals : Array Value} {elem : Nat} (hw : w.heap[b]? = some (.cells vals elem (0, 0))) {x : Value} (hn : x.cells.size = n)
    (ho : o + n ≤ vals.size) (h1 : ∀ v ∈ x.cells.toList, v.oneCell' = true) :
    (storeVar t ⟨b, o, none⟩ x).run P w = .ok () (w.setRow b (vals.toList.take o ++ x.cells.toList ++ vals.toList.drop (o + x.cells.toList.length)).toArray) := by
  obtain ⟨i, hi, hs⟩ := szB_spec ht
  have hst := run_storeCells_at P b o elem x.cells.toList 0 vals w hw (by simp; omega) h1
  simp only [Nat.add_zero] at hst
  simp only [storeVar, Sem.run_bind, run_sizeOf hi, Result.andThen_ok, hs, hn, ne_eq, not_true, if_false, hst]

theorem op_store (h : Rel nt base pb G0 σ E G a w) {hh : Hp} (hle : ∀ κ B, hh κ = some B → σ.H κ = some B) {call : CallF} {ρ : Src → PV} {t n : Nat} (ht : szB P t n = true)
    {y z : Src} {x u : Value} (hx : Rep E G (ρ y) x) (hu : Rep E G (ρ z) u) (hcu : Cl σ.H (ρ z)) {v : PV} {us : List (Nat × Blk)} (he : evOp call ρ hh (.store n y z) = some (v, us)) :
    v = .never ∧ ∃ w' E' G', (Instr.storeAt t x u).run P w = .ok () w' ∧ Rel nt base pb G0 ⟨σ.T, ups σ.H us⟩ E' G' a w' := by
  simp only [evOp] at he
  split at he
  · rename_i κ off hy
    rw [hy] at hx
    split at he
    · rename_i cs hk
      split at he
      · rename_i hc
        obtain ⟨hok, hn, ho⟩ := hc
        simp only [Option.some.injEq, Prod.mk.injEq] at he
        obtain ⟨rfl, rfl⟩ := he
        have hH := hle _ _ hk
        obtain ⟨vals, elem, hw, hl, hr, hf⟩ := h.hp κ _ hH
        obtain ⟨hcl, hcr⟩ := hu.cells hok
        cases hx with
        | one hx =>
          cases hx with
          | pure r => cases r
          | ptr κ off =>
            have h1 : ∀ v ∈ u.cells.toList, v.oneCell' = true := fun v hv => by
              obtain ⟨i, hi⟩ := List.mem_iff_getElem?.1 hv
              have hlt : i < (ρ z).cells.length := by rw [hcl]; have := (List.getElem?_eq_some_iff.1 hi).1; simpa using this
              exact (hcr i _ v (List.getElem?_eq_getElem hlt) (by simpa using hi)).one
            have hrun := run_storeVar (P := P) ht hw (x := u) (o := off) (by omega) (by omega) h1
            refine ⟨rfl, _, E, G, by simp only [Instr.storeAt, Instr.sureAddr, Sem.run_bind, Sem.run_pure, Result.andThen_ok]; exact hrun, ?_⟩
            have hul : u.cells.toList.length = n := by simp; omega
            refine h.setKey hH rfl (fun _ _ => rfl) (.inl rfl) (fun b hb hne => setRow_other w _ b _ (fun e => hne (by simp [blkOf, e]))) (by simp) rfl rfl rfl
              (holds_other h.hold hf fun b' hb' => setRow_other w _ b' _ hb') ?_ (fun b hb => .inl hb) (fun cs' e => ⟨_, rfl⟩) ?_
            · refine ⟨_, elem, setRow_heap w _ vals _ elem (0, 0) hw, ?_, fun i c v hi hv => ?_, hf⟩
              · simp; omega
              · rw [← hn] at hi
                refine splice_rel (R := RepX E G) (cs := cs) (ns := (ρ z).cells) (vs := vals.toList) (us := u.cells.toList) (off := off) (by simp [hl]) (by simp [hcl]) (by omega) (fun i c v a b => hr i c v a (by simpa using b)) (fun i c v a b => hcr i c v a (by simpa using b)) i c v hi ?_
                simpa using hv
            · intro cs' e c hc
              injection e with e; subst e
              rcases List.mem_append.1 hc with hc | hc
              · rcases List.mem_append.1 hc with hc | hc
                · exact h.cH κ cs hH c (List.mem_of_mem_take hc)
                · exact hcu.cells hok c hc
              · exact h.cH κ cs hH c (List.mem_of_mem_drop hc)
      · cases he
    · cases he
  · rename_i κ tot i c hy
    rw [hy] at hx
    split at he
    · rename_i sz rows hk
      split at he
      · rename_i htot
        split at he
        · rename_i r p hri hp
          split at he
          · rename_i hc
            obtain ⟨href, hn, hcn⟩ := hc
            simp only [Option.some.injEq, Prod.mk.injEq] at he
            obtain ⟨rfl, rfl⟩ := he
            have hH := hle _ _ hk
            obtain ⟨h1, h2, h3, h4, h5⟩ := h.hp κ _ hH
            have hup : RepP G p u := pur_rep hp hu (.refl G) (fun κ' hk' => by rw [href] at hk'; cases hk')
            obtain ⟨hpl, hpr⟩ := hup.cells
            cases hx with
            | one hx =>
              cases hx with
              | pure r => cases r
              | aptrStale κ tot i c v hs hv => omega
              | aptr κ tot i c b hb ht' hi =>
                rw [hb] at h5
                obtain ⟨vals, elem, hw, hvs, hrr, hfree, hoff⟩ := h5
                have hgf := hfree rfl
                have hrl : r.cells.length = sz := h4 r (List.mem_of_getElem? hri)
                have hil : i < rows.length := (List.getElem?_eq_some_iff.1 hri).1
                have hbound : i * sz + c + n ≤ vals.size := by
                  rw [hvs]
                  have e1 : i * sz + sz ≤ (E.ar κ).cap * sz := by
                    have : (i + 1) * sz ≤ (E.ar κ).cap * sz := Nat.mul_le_mul_right _ (by omega)
                    rwa [Nat.add_mul, Nat.one_mul] at this
                  omega
                have hone : ∀ v ∈ u.cells.toList, v.oneCell' = true := fun v hv => by
                  obtain ⟨j, hj⟩ := List.mem_iff_getElem?.1 hv
                  have hlt : j < p.cells.length := by rw [hpl]; have := (List.getElem?_eq_some_iff.1 hj).1; simpa using this
                  exact (hpr j _ v (List.getElem?_eq_getElem hlt) (by simpa using hj)).one
                have hrun := run_storeVar (P := P) ht hw (x := u) (o := i * sz + c) (by omega) hbound hone
                have hul : u.cells.toList.length = n := by simp; omega
                refine ⟨rfl, _, E, G, by rw [h1]; simp only [Instr.storeAt, Instr.sureAddr, Sem.run_bind, Sem.run_pure, Result.andThen_ok]; exact hrun, ?_⟩
                have hrs : (rowSet r (r.cells.take c ++ p.cells ++ r.cells.drop (c + n))).cells = r.cells.take c ++ p.cells ++ r.cells.drop (c + n) := by
                  have hlen : (r.cells.take c ++ p.cells ++ r.cells.drop (c + n)).length = r.cells.length := by rw [← hn]; exact splice_len _ _ _ (by omega)
                  have hpc : ∀ q ∈ p.cells, q.cells = [q] := fun q hq => by
                    obtain ⟨j, hj⟩ := List.mem_iff_getElem?.1 hq
                    have hlt : j < u.cells.size := by rw [← hpl]; exact (List.getElem?_eq_some_iff.1 hj).1
                    exact (hpr j q _ hj (Array.getElem?_eq_getElem hlt)).pcells
                  cases r with
                  | agg cs => rfl
                  | _ =>
                    simp only [PV.cells, List.length_singleton] at hlen hcn ⊢
                    obtain ⟨q, hq⟩ := List.length_eq_one_iff.1 hlen
                    rw [hq]
                    simp only [rowSet, List.headD_cons]
                    have hmem : q ∈ [q] := by simp
                    rw [← hq] at hmem
                    rcases List.mem_append.1 hmem with hm | hm
                    · rcases List.mem_append.1 hm with hm | hm
                      · have := List.mem_of_mem_take hm; simp at this; subst this; rfl
                      · exact hpc q hm
                    · have := List.mem_of_mem_drop hm; simp at this; subst this; rfl
                refine h.setKey hH rfl (fun _ _ => rfl) (.inl rfl) (fun b' hb' hne => setRow_other w _ b' _ (fun e => hne (by simp [blkOf, hb, e]))) (by simp) rfl rfl rfl
                  (holds_other h.hold hgf fun b' hb' => setRow_other w _ b' _ hb') ?_ (fun b' hb' => .inl hb') (fun cs' e => by cases e) (fun cs' e => by cases e)
                refine ⟨h1, by simpa using h2, by simpa using h3, fun q hq => ?_, ?_⟩
                · rcases List.mem_or_eq_of_mem_set hq with hq | hq
                  · exact h4 q hq
                  · subst hq; rw [hrs, ← hn, splice_len _ _ _ (by omega)]; exact hrl
                · rw [hb]
                  refine ⟨_, elem, setRow_heap w _ vals _ elem (0, 0) hw, ?_, fun j q k d hj hd => ?_, fun _ => hgf, fun y hy hne => absurd (hgf y hy) hne⟩
                  · simp; omega
                  · simp only [List.getElem?_toArray]
                    have hkl : k < sz := by
                      have := (List.getElem?_eq_some_iff.1 hd).1
                      by_cases e : i = j
                      · subst e; rw [List.getElem?_set_self hil] at hj; injection hj with hj; subst hj
                        rw [hrs, ← hn, splice_len _ _ _ (by omega), hrl] at this; exact this
                      · rw [List.getElem?_set_ne e] at hj; rw [h4 q (List.mem_of_getElem? hj)] at this; exact this
                    rw [splice_get _ _ _ _ (by simp; omega), hul]
                    by_cases e : i = j
                    · subst e
                      rw [List.getElem?_set_self hil] at hj; injection hj with hj; subst hj
                      rw [hrs, ← hn, splice_get _ _ _ _ (by omega), hn] at hd
                      by_cases hk1 : k < c
                      · rw [if_pos hk1] at hd; rw [if_pos (by omega)]
                        obtain ⟨v, hv, rr⟩ := hrr i r k d hri hd
                        exact ⟨v, by simpa using hv, rr⟩
                      · rw [if_neg hk1] at hd; rw [if_neg (by omega)]
                        by_cases hk2 : k < c + n
                        · rw [if_pos hk2] at hd; rw [if_pos (by omega)]
                          have hlt : k - c < u.cells.size := by omega
                          refine ⟨u.cells[k - c], ?_, hpr _ _ _ hd (Array.getElem?_eq_getElem hlt)⟩
                          have e2 : i * sz + k - (i * sz + c) = k - c := by omega
                          rw [e2]; simp [hlt]
                        · rw [if_neg hk2] at hd; rw [if_neg (by omega)]
                          obtain ⟨v, hv, rr⟩ := hrr i r k d hri hd
                          exact ⟨v, by simpa using hv, rr⟩
                    · rw [List.getElem?_set_ne e] at hj
                      obtain ⟨v, hv, rr⟩ := hrr j q k d hj hd
                      refine ⟨v, ?_, rr⟩
                      have hdis : j * sz + k < i * sz + c ∨ i * sz + c + n ≤ j * sz + k := by
                        rcases Nat.lt_or_gt_of_ne e with hlt | hgt
                        · right
                          have : (i + 1) * sz ≤ j * sz := Nat.mul_le_mul_right _ hlt
                          rw [Nat.add_mul, Nat.one_mul] at this
                          omega
                        · left
                          have : (j + 1) * sz ≤ i * sz := Nat.mul_le_mul_right _ hgt
                          rw [Nat.add_mul, Nat.one_mul] at this
                          omega
                      rcases hdis with hd1 | hd1
                      · rw [if_pos hd1]; simpa using hv
                      · rw [if_neg (by omega), if_neg (by omega)]; simpa using hv
          · cases he
        · cases he
      · cases he
    · cases he
  · cases he

end
end Go.Ab

/- Part Src. -/
namespace Go.Ab
open Go

theorem div_mod_row {j n sz : Nat} (h : j < n * sz) : j / sz < n ∧ j % sz < sz ∧ j / sz * sz + j % sz = j := by
  have hp : 0 < sz := by
    rcases Nat.eq_zero_or_pos sz with e | e
    · subst e; simp at h
    · exact e
  exact ⟨Nat.div_lt_of_lt_mul (by rwa [Nat.mul_comm] at h), Nat.mod_lt _ hp, by rw [Nat.mul_comm]; exact Nat.div_add_mod j sz⟩

structure SrcRows (P : Program) (G : Ghost) (w : World) (sz : Nat) (ys : List PV) (x : Value) (news : List Value) : Prop where
  len : news.length = ys.length * sz
  rep : ∀ (j : Nat) (e : PV) (i : Nat) (c : PV), ys[j]? = some e → e.cells[i]? = some c → ∃ u, news[j * sz + i]? = some u ∧ RepC G c u
  one : ∀ u ∈ news, u.oneCell' = true
  lenOf : ∀ w' : World, (Builtin.lenOf x).run P w' = .ok ys.length w'
  takes : ∀ k, k ≤ ys.length → ∀ w' : World, (∀ b, b < w.heap.size → w'.heap[b]? = w.heap[b]?) → (Builtin.firstCells sz k x).run P w' = .ok (news.take (k * sz)).toArray w'

theorem SrcRows.empty {P : Program} {G : Ghost} {w : World} {sz : Nat} {A : Option Addr} {cap : Nat} : SrcRows P G w sz [] (.slice A 0 cap) [] :=
  { len := by simp, rep := (fun j e i c h _ => by simp at h), one := (fun u h => nomatch h), lenOf := fun _ => rfl,
    takes := fun k hk w' _ => by
      have : k = 0 := by simpa using hk
      subst this
      cases A with
      | none => simp [Builtin.firstCells]
      | some a => simp [Builtin.firstCells, loadCells, loadCellsFrom] }

theorem SrcRows.ofCells {P : Program} {G : Ghost} {w : World} {sz : Nat} {ys : List PV} {b o cap : Nat} {news : List Value} (hl : news.length = ys.length * sz)
    (hrep : ∀ (j : Nat) (e : PV) (i : Nat) (c : PV), ys[j]? = some e → e.cells[i]? = some c → ∃ u, news[j * sz + i]? = some u ∧ RepC G c u)
    (hone : ∀ u ∈ news, u.oneCell' = true) (hc : ∀ j u, news[j]? = some u → w.cell? ⟨b, o + j, none⟩ = some u) : SrcRows P G w sz ys (.slice (some ⟨b, o, none⟩) ys.length cap) news :=
  { len := hl, rep := hrep, one := hone, lenOf := fun _ => rfl,
    takes := fun k hk w' hw => by
      have hlen : (news.take (k * sz)).length = k * sz := by
        have : k * sz ≤ ys.length * sz := Nat.mul_le_mul_right _ hk
        simp; omega
      refine run_firstCells_some w' sz k ⟨b, o, none⟩ _ _ (news.take (k * sz)) hlen (fun j v hj => ?_)
      rw [List.getElem?_take] at hj
      split at hj
      · have := hc j v hj
        rw [Addr.add_lit, cell_of_heap (hw b (cell_lt this))]; exact this
      · cases hj }

theorem firstCells_str {P : Program} {w : World} (s : ByteArray) (k : Nat) : (Builtin.firstCells 1 k (.string s)).run P w = .ok ((byteCells s).take k).toArray w := by
  simp only [Builtin.firstCells, Sem.run_pure]
  congr 1
  apply Array.ext'
  simp [byteCells]

section
variable {nt : Nat} {base : World} {pb : List (Nat × Nat)} {G0 : Ghost} {P : Program} {σ : St} {E : Env} {G : Ghost} {a : Act} {w : World}

theorem rows_one {G : Ghost} {ys : List PV} {news : List Value} {sz : Nat} (hl : news.length = ys.length * sz) (hcs : ∀ e ∈ ys, e.cells.length = sz)
    (hrep : ∀ (j : Nat) (e : PV) (i : Nat) (c : PV), ys[j]? = some e → e.cells[i]? = some c → ∃ u, news[j * sz + i]? = some u ∧ RepC G c u) : ∀ u ∈ news, u.oneCell' = true := fun u hu => by
  obtain ⟨k, hk⟩ := List.mem_iff_getElem?.1 hu
  have hlt : k < ys.length * sz := by rw [← hl]; exact (List.getElem?_eq_some_iff.1 hk).1
  obtain ⟨h1, h2, h3⟩ := div_mod_row hlt
  have he := List.getElem?_eq_getElem h1
  have hce := List.getElem?_eq_getElem (show k % sz < ys[k / sz].cells.length by rw [hcs _ (List.getElem_mem h1)]; exact h2)
  obtain ⟨v, hv, r⟩ := hrep _ _ _ _ he hce
  rw [h3, hk] at hv; injection hv with hv; subst hv
  exact r.one

theorem src_rows (h : Rel nt base pb G0 σ E G a w) {hh : Hp} (hle : ∀ κ B, hh κ = some B → σ.H κ = some B) {p : PV} {x : Value} {ys : List PV} {sz : Nat} (hp : rowsOf hh p = some ys) (hx : Rep E G p x)
    (hcs : ∀ e ∈ ys, e.cells.length = sz) : ∃ news, SrcRows P G w sz ys x news := by
  unfold rowsOf at hp
  split at hp
  · injection hp with hp; subst hp
    cases hx with | one hx => cases hx with | pure r => cases r; exact ⟨[], .empty⟩
  · rename_i es
    injection hp with hp; subst hp
    cases hx with
    | one hx =>
      cases hx with
      | pure r =>
        cases r with
        | list es A n cap b o sz' val hn hc hA hs hg hr =>
          subst hn
          rcases hA with rfl | rfl
          · exact ⟨[], .empty⟩
          · have hszz : ∀ (j : Nat) (e : PV), es[j]? = some e → sz' = sz := fun j e hj => by rw [← hs j e hj, hcs e (List.mem_of_getElem? hj)]
            have hlen : ((List.range (es.length * sz)).map fun k => val (k / sz) (k % sz)).length = es.length * sz := by simp
            have hrep : ∀ (j : Nat) (e : PV) (i : Nat) (c : PV), es[j]? = some e → e.cells[i]? = some c → ∃ u, ((List.range (es.length * sz)).map fun k => val (k / sz) (k % sz))[j * sz + i]? = some u ∧ RepC G c u := fun j e i c hj hi => by
              have hjl := (List.getElem?_eq_some_iff.1 hj).1
              have hil : i < sz := by rw [← hcs e (List.mem_of_getElem? hj)]; exact (List.getElem?_eq_some_iff.1 hi).1
              have hlt := row_off hjl hil
              refine ⟨val j i, ?_, hr j e i c hj hi⟩
              simp only [List.getElem?_map, List.getElem?_range hlt, Option.map_some]
              have e1 : (j * sz + i) / sz = j := by rw [Nat.mul_comm, Nat.mul_add_div (by omega)]; simp [Nat.div_eq_of_lt hil]
              have e2 : (j * sz + i) % sz = i := by rw [Nat.mul_comm, Nat.mul_add_mod]; exact Nat.mod_eq_of_lt hil
              rw [e1, e2]
            refine ⟨_, .ofCells hlen hrep (rows_one hlen hcs hrep) (fun k u hk => ?_)⟩
            have hlt : k < es.length * sz := by rw [← hlen]; exact (List.getElem?_eq_some_iff.1 hk).1
            obtain ⟨h1, h2, h3⟩ := div_mod_row hlt
            have he := List.getElem?_eq_getElem h1
            have hce := List.getElem?_eq_getElem (show k % sz < es[k / sz].cells.length by rw [hcs _ (List.getElem_mem h1)]; exact h2)
            have hgg := h.hold _ _ (hg _ _ _ _ he hce)
            rw [hszz _ _ he, Nat.add_assoc, h3] at hgg
            rw [hgg]
            simp only [List.getElem?_map, List.getElem?_range hlt, Option.map_some] at hk
            exact hk
  · rename_i s
    injection hp with hp; subst hp
    cases hx with
    | one hx =>
      cases hx with
      | pure r =>
        cases r
        have hlen : (bytesPV s).length = s.size := by simp [bytesPV]
        by_cases h0 : s.size = 0
        · have hb : bytesPV s = [] := List.eq_nil_of_length_eq_zero (by rw [hlen]; exact h0)
          rw [hb]
          exact ⟨[],
            { len := by simp, rep := (fun j e i c h _ => by simp at h), one := (fun u h => nomatch h), lenOf := fun _ => by simp [Builtin.lenOf, h0],
              takes := fun k hk w' _ => by
                have : k = 0 := by simpa using hk
                subst this
                simp [Builtin.firstCells] }⟩
        have h1 : sz = 1 := by
          have h1 : 0 < (bytesPV s).length := by omega
          have := hcs _ (List.getElem_mem h1)
          simp only [bytesPV, List.getElem_map, PV.cells, List.length_singleton] at this
          exact this.symm
        subst h1
        refine ⟨byteCells s, ?_⟩
        exact
        { len := by rw [byteCells_length, hlen, Nat.mul_one]
          rep := fun j e i c hj hi => by
            simp only [bytesPV, List.getElem?_map, Option.map_eq_some_iff] at hj
            obtain ⟨b, hb, rfl⟩ := hj
            cases i with
            | zero =>
              simp [PV.cells] at hi; subst hi
              exact ⟨_, by simp only [byteCells, Nat.mul_one, Nat.add_zero, List.getElem?_map, hb, Option.map_some], .int _ _⟩
            | succ i => simp [PV.cells] at hi
          one := fun u hu => by obtain ⟨_, _, rfl⟩ := List.mem_map.1 hu; rfl
          lenOf := fun w' => by rw [hlen]; rfl
          takes := fun k _ w' _ => by rw [Nat.mul_one]; exact firstCells_str s k }
  · rename_i κ tot off len
    split at hp
    · rename_i sz' rows ro hk
      split at hp
      · rename_i hc
        injection hp with hp; subst hp
        have hH := hle _ _ hk
        obtain ⟨h1, h2, h3, h4, h5⟩ := h.hp κ _ hH
        have hlen0 : ((rows.drop off).take len).length = len := drop_take_len (by omega)
        cases hx with
        | one hx =>
          cases hx with
          | pure r => cases r
          | arrStale κ tot off len v hs hv => omega
          | arrNil κ tot hb ht =>
            have e : (rows.drop 0).take 0 = [] := by simp
            rw [e]; exact ⟨[], .empty⟩
          | arr κ tot off len A b hb ht hl hcap hA =>
            rw [hb] at h5
            obtain ⟨vals, elem, hw, hvs, hrr, _⟩ := h5
            rcases Nat.eq_zero_or_pos len with rfl | hpos
            · have e : (rows.drop off).take 0 = [] := by simp
              rw [e]; exact ⟨[], .empty⟩
            · have hA' : A = some ⟨b, off * (E.ar κ).sz, none⟩ := hA.resolve_left (by omega)
              subst hA'
              have hszz : sz' = sz := by
                have hlt : 0 < ((rows.drop off).take len).length := by omega
                have e0 := List.getElem?_eq_getElem hlt
                rw [← hcs _ (List.getElem_mem hlt), h4 _ (List.mem_of_getElem? (drop_take_get e0).2)]
              subst hszz
              rw [h1]
              have hle2 : off * sz' + len * sz' ≤ vals.size := by rw [hvs, ← Nat.add_mul]; exact Nat.mul_le_mul_right _ (by omega)
              have hnl : ((vals.toList.drop (off * sz')).take (len * sz')).length = len * sz' := by simp; omega
              have hrep : ∀ (j : Nat) (e : PV) (i : Nat) (c : PV), ((rows.drop off).take len)[j]? = some e → e.cells[i]? = some c → ∃ u, ((vals.toList.drop (off * sz')).take (len * sz'))[j * sz' + i]? = some u ∧ RepC G c u := fun j e i c hj hi => by
                obtain ⟨hjl, hjr⟩ := drop_take_get hj
                obtain ⟨v, hv, rr⟩ := hrr _ e i c hjr hi
                have hil : i < sz' := by rw [← h4 e (List.mem_of_getElem? hjr)]; exact (List.getElem?_eq_some_iff.1 hi).1
                refine ⟨v, ?_, rr⟩
                rw [List.getElem?_take, if_pos (row_off hjl hil), List.getElem?_drop]
                rw [Nat.add_mul, Nat.add_assoc] at hv
                simpa using hv
              have key := SrcRows.ofCells (P := P) (G := G) (w := w) (sz := sz') (ys := (rows.drop off).take len) (b := b) (o := off * sz') (cap := (E.ar κ).cap - off) (news := (vals.toList.drop (off * sz')).take (len * sz'))
                (by rw [hlen0]; exact hnl) hrep (rows_one (by rw [hlen0]; exact hnl) hcs hrep) (fun k u hk => by
                  rw [List.getElem?_take] at hk
                  split at hk
                  · rw [cell_of_row w b _ vals elem (0, 0) hw]
                    rw [List.getElem?_drop] at hk
                    simpa using hk
                  · cases hk)
              rw [hlen0] at key
              exact ⟨_, key⟩
      · cases hp
    · cases hp
  · cases hp

/-- As the kit's law of append asks for it. -/
theorem SrcRows.src {sz : Nat} {ys : List PV} {x : Value} {news : List Value} (s : SrcRows P G w sz ys x news) {tx : Nat}
    (hk : (∃ e', P.underlying tx = some (.slice e')) ∨ P.underlying tx = some .string) : Go.Src P sz tx x ys.length news w :=
  { kind := hk, len := s.lenOf
    cells := by have := s.takes _ (Nat.le_refl _) w (fun _ _ => rfl); rwa [← s.len, List.take_length] at this
    cellsD := by have := s.takes _ (Nat.le_refl _) w.drew (fun _ _ => rfl); rwa [← s.len, List.take_length] at this
    newsLen := s.len, one := s.one }

end
end Go.Ab

/- Part Arr2. -/
namespace Go.Ab
open Go

/-- Rows lie in a block's cells. -/
def RowsIn (G : Ghost) (sz : Nat) (rows : List PV) (vals : Array Value) : Prop :=
  ∀ (j : Nat) (r : PV) (i : Nat) (c : PV), rows[j]? = some r → r.cells[i]? = some c → ∃ v, vals[j * sz + i]? = some v ∧ RepC G c v

section
variable {nt : Nat} {base : World} {pb : List (Nat × Nat)} {G0 : Ghost} {P : Program} {σ : St} {E : Env} {G : Ghost} {a : Act} {w : World}

theorem Rel.newArrNil (h : Rel nt base pb G0 σ E G a w) {κ sz : Nat} (hκ : σ.H κ = none) (hpb : ∀ b, (κ, b) ∉ pb) :
    ∃ E', Rel nt base pb G0 ⟨σ.T, upd σ.H κ (some (.arr sz [] false))⟩ E' G a w ∧ E'.ar κ = ⟨none, 0, 0, sz⟩ := by
  let E' : Env := ⟨E.bx, upd E.ar κ ⟨none, 0, 0, sz⟩⟩
  have hE : E'.ar κ = ⟨none, 0, 0, sz⟩ := upd_same _ _ _
  refine ⟨E', h.newKey hκ (fun κ' e => ⟨rfl, upd_ne _ _ e⟩) ?_ (fun b hb => ?_) (fun cs e => by cases e) hpb, hE⟩
  · refine ⟨by rw [hE], by rw [hE]; rfl, by rw [hE]; exact Nat.le_refl _, (fun r hr => nomatch hr), ?_⟩
    rw [hE]; exact ⟨rfl, rfl⟩
  · simp only [blkOf] at hb; rw [hE] at hb; cases hb

theorem Rel.newArr (h : Rel nt base pb G0 σ E G a w) {κ sz cap : Nat} {rows : List PV} {vals : Array Value} {elem : Nat} (ro : Bool) (hκ : σ.H κ = none) (hs : vals.size = cap * sz) (hc : rows.length ≤ cap)
    (hcs : ∀ r ∈ rows, r.cells.length = sz) (hr : RowsIn G sz rows vals) (hpb : ∀ b, (κ, b) ∉ pb) :
    ∃ E', Rel nt base pb G0 ⟨σ.T, upd σ.H κ (some (.arr sz rows ro))⟩ E' G a (w.alloc (.cells vals elem)) ∧ E'.ar κ = ⟨some w.heap.size, cap, rows.length, sz⟩ := by
  have h' := h.ext (Ext.alloc w (.cells vals elem))
  let E' : Env := ⟨E.bx, upd E.ar κ ⟨some w.heap.size, cap, rows.length, sz⟩⟩
  have hE : E'.ar κ = ⟨some w.heap.size, cap, rows.length, sz⟩ := upd_same _ _ _
  have hgf : GFree G w.heap.size := holds_gfree h.hold (Nat.le_refl _)
  refine ⟨E', h'.newKey hκ (fun κ' e => ⟨rfl, upd_ne _ _ e⟩) ?_ (fun b hb => ?_) (fun cs e => by cases e) hpb, hE⟩
  · refine ⟨by rw [hE], by rw [hE], by rw [hE]; exact hc, hcs, ?_⟩
    rw [hE]
    exact ⟨vals, elem, heap_alloc_new w _, hs, hr, fun _ => hgf, fun x hx hne => absurd (hgf x hx) hne⟩
  · simp only [blkOf] at hb; rw [hE] at hb; injection hb with hb; subst hb
    exact ⟨h.sz, fun κ' B' hH hbb => by have := h.lt hH hbb; omega⟩

/-- A new row of cells that nobody will write. -/
theorem Rel.newRow (h : Rel nt base pb G0 σ E G a w) (vals : Array Value) (elem : Nat) :
    ∃ G', G.le G' ∧ Rel nt base pb G0 σ E G' a (w.alloc (.cells vals elem)) ∧ ∀ (i : Nat) v, vals[i]? = some v → G' ⟨w.heap.size, i, none⟩ = some v := by
  have h' := h.ext (Ext.alloc w (.cells vals elem))
  have hgf : GFree G w.heap.size := holds_gfree h.hold (Nat.le_refl _)
  let G' : Ghost := fun x => if x.block = w.heap.size ∧ x.spot = none then vals[x.off]? else G x
  have hle : G.le G' := fun x v hx => by
    have : x.block ≠ w.heap.size := fun e => by rw [hgf x e] at hx; cases hx
    simp only [G', this, false_and, if_false]; exact hx
  have hcases : ∀ x, G' x ≠ none → G x ≠ none ∨ x.block = w.heap.size := fun x hx => by
    by_cases e : x.block = w.heap.size
    · exact .inr e
    · simp only [G', e, false_and, if_false] at hx; exact .inl hx
  refine ⟨G', hle, h'.ghost hle (fun x v hx => ?_) (fun x hx => ?_) (fun κ B b hH hb x hx hne => ?_), fun i v hv => by simp [G', hv]⟩
  · simp only [G'] at hx
    split at hx
    · rename_i hc
      obtain ⟨b, o, s⟩ := x
      obtain ⟨rfl, rfl⟩ := hc
      rw [cell_of_row _ _ _ vals elem (0, 0) (heap_alloc_new w _)]; exact hx
    · exact h'.hold x v hx
  · rcases hcases x hx with h1 | h1
    · exact .inl h1
    · have := h.sz; exact .inr (by omega)
  · rcases hcases x hne with h1 | h1
    · exact h1
    · have := h.lt hH hb; omega

theorem op_nilarr (h : Rel nt base pb G0 σ E G a w) {hh : Hp} {call : CallF} {ρ : Src → PV} {κ sz : Nat} (hk : hh κ = σ.H κ) (hpb : ∀ b, (κ, b) ∉ pb)
    {v : PV} {us : List (Nat × Blk)} (he : evOp call ρ hh (.nilarr κ sz) = some (v, us)) : OpOut nt base pb G0 P σ a (pure (.slice none 0 0)) w v us := by
  simp only [evOp] at he
  split at he
  · rename_i hn
    simp only [Option.some.injEq, Prod.mk.injEq] at he
    obtain ⟨rfl, rfl⟩ := he
    rw [hk, Option.isNone_iff_eq_none] at hn
    obtain ⟨E', hr, hE⟩ := h.newArrNil (sz := sz) hn hpb
    refine ⟨_, w, E', G, rfl, hr, .one (.arrNil κ 0 (by rw [hE]) (by rw [hE])), fun κ' hk' => ?_⟩
    simp [refs, refC] at hk'; subst hk'; simp [ups, upd_same]
  · cases he

/-- What an append asks of its element type. -/
def elB (P : Program) (t e sz by_ : Nat) : Bool :=
  (match P.underlying t with | some (.slice e') => e' == e | _ => false) &&
  match P.info? e with
  | some i => i.size == sz && i.bytes == by_ && (match i.zero with | some z => z.cells.size == sz | none => false)
  | none => false

theorem elB_spec {t e sz by_ : Nat} (h : elB P t e sz by_ = true) : P.underlying t = some (.slice e) ∧ ∃ i z, P.info? e = some i ∧ i.size = sz ∧ i.bytes = by_ ∧ i.zero = some z ∧ z.cells.size = sz := by
  unfold elB at h
  simp only [Bool.and_eq_true] at h
  obtain ⟨h1, h2⟩ := h
  split at h1
  · rename_i e' hu
    simp only [beq_iff_eq] at h1; subst h1
    refine ⟨hu, ?_⟩
    split at h2
    · rename_i i hi
      simp only [Bool.and_eq_true, beq_iff_eq] at h2
      obtain ⟨⟨h3, h4⟩, h5⟩ := h2
      split at h5
      · rename_i z hz
        exact ⟨i, z, hi, h3, h4, hz, by simpa using h5⟩
      · cases h5
    · cases h2
  · cases h1

theorem run_append_room_row {t tx ty e b n cap m : Nat} {i : TypeInfo} (ht : P.underlying t = some (.slice e)) (hi : P.info? e = some i) {vals : Array Value} {elem : Nat} (hw : w.heap[b]? = some (.cells vals elem (0, 0)))
    {x : Value} {news : List Value} (hs : Go.Src P i.size tx x m news w) (hroom : n + m ≤ cap) (hfit : n * i.size + news.length ≤ vals.size) :
    (Builtin.append_ #[t, tx] ty #[.slice (some ⟨b, 0, none⟩) n cap, x]).run P w =
      .ok (.slice (some ⟨b, 0, none⟩) (n + m) cap) (w.setRow b (vals.toList.take (n * i.size) ++ news ++ vals.toList.drop (n * i.size + news.length)).toArray) := by
  have hst := run_storeCells_at P b (n * i.size) elem news 0 vals w hw (by simpa using hfit) hs.one
  simp only [Nat.add_zero] at hst
  rcases hs.kind with ⟨e', hk⟩ | hk <;> simp [Builtin.append_, run_underlying ht, run_underlying hk, sizeOf, typeInfo, hi, hs.len, hroom, hs.cells, Addr.add_lit, hst]

/-- The cells of a row that has grown. -/
theorem rowsIn_append {sz : Nat} {rows ys : List PV} {vals : Array Value} {news : List Value} {rest : List Value} {old : List Value} (hol : old.length = rows.length * sz)
    (hold : ∀ (j : Nat) (r : PV) (i : Nat) (c : PV), rows[j]? = some r → r.cells[i]? = some c → ∃ v, old[j * sz + i]? = some v ∧ RepC G c v) (hcs : ∀ r ∈ rows, r.cells.length = sz)
    (hnl : news.length = ys.length * sz) (hcy : ∀ r ∈ ys, r.cells.length = sz)
    (hny : ∀ (j : Nat) (r : PV) (i : Nat) (c : PV), ys[j]? = some r → r.cells[i]? = some c → ∃ v, news[j * sz + i]? = some v ∧ RepC G c v) (hv : vals.toList = old ++ news ++ rest) : RowsIn G sz (rows ++ ys) vals := by
  intro j r i c hj hi
  have hv' : ∀ k, vals[k]? = (old ++ news ++ rest)[k]? := fun k => by rw [← hv]; exact Array.getElem?_toList.symm
  rw [hv', List.append_assoc]
  by_cases hlt : j < rows.length
  · rw [List.getElem?_append_left hlt] at hj
    obtain ⟨v, hvv, rr⟩ := hold j r i c hj hi
    have hil : i < sz := by rw [← hcs r (List.mem_of_getElem? hj)]; exact (List.getElem?_eq_some_iff.1 hi).1
    exact ⟨v, by rw [List.getElem?_append_left (by rw [hol]; exact row_off hlt hil)]; exact hvv, rr⟩
  · rw [List.getElem?_append_right (by omega)] at hj
    obtain ⟨v, hvv, rr⟩ := hny _ r i c hj hi
    have hil : i < sz := by rw [← hcy r (List.mem_of_getElem? hj)]; exact (List.getElem?_eq_some_iff.1 hi).1
    have hjl := (List.getElem?_eq_some_iff.1 hj).1
    refine ⟨v, ?_, rr⟩
    have e : j * sz + i = rows.length * sz + ((j - rows.length) * sz + i) := by
      rw [← Nat.add_assoc, ← Nat.add_mul]; congr 2; omega
    rw [e, ← hol, List.getElem?_append_right (by omega), Nat.add_sub_cancel_left, List.getElem?_append_left (by rw [hnl]; exact row_off hjl hil)]
    exact hvv

theorem op_app (h : Rel nt base pb G0 σ E G a w) {hh : Hp} (hle : ∀ κ B, hh κ = some B → σ.H κ = some B) {call : CallF} {ρ : Src → PV} {t tx ty e sz by_ : Nat} {ko : Option Nat} {y z : Src} (hel : elB P t e sz by_ = true)
    (htx : (∃ e', P.underlying tx = some (.slice e')) ∨ P.underlying tx = some .string)
    (hk : ∀ κ, ko = some κ → ρ y = .nil → hh κ = σ.H κ) (hpb : ∀ κ, ko = some κ → ∀ b, (κ, b) ∉ pb) {x u : Value} (hx : Rep E G (ρ y) x) (hu : Rep E G (ρ z) u) {v : PV} {us : List (Nat × Blk)}
    (he : evOp call ρ hh (.app ko sz by_ y z) = some (v, us)) : OpOut nt base pb G0 P σ a (Builtin.append_ #[t, tx] ty #[x, u]) w v us := by
  obtain ⟨hut, i, zv, hi, hsz, hby, hz, hzs⟩ := elB_spec hel
  subst hsz; subst hby
  simp only [evOp] at he
  split at he
  · rename_i ys hys
    split at he
    · rename_i hall
      have hcy : ∀ r ∈ ys, r.cells.length = i.size := fun r hr => by
        have := List.all_eq_true.1 hall r hr; simpa using this
      obtain ⟨news, hsrc⟩ := src_rows (P := P) h hle hys hu hcy
      have hS : Go.Src P i.size tx u ys.length news w := hsrc.src htx
      split at he
      · rename_i κ tot off len hy
        rw [hy] at hx
        split at he
        · rename_i sz' rows ro hkk
          split at he
          · rename_i hc
            obtain ⟨hrt, rfl, rfl, rfl, hroom1, hroom2⟩ := hc
            subst hrt
            simp only [Option.some.injEq, Prod.mk.injEq] at he
            obtain ⟨rfl, rfl⟩ := he
            have hH := hle _ _ hkk
            have hBr := h.hp κ _ hH
            obtain ⟨h1, h2, h3, h4, h5⟩ := hBr
            have hkey : Cl (upd σ.H κ (some (.arr i.size (rows ++ ys) ro))) (.arr κ (rows.length + ys.length) 0 (rows.length + ys.length)) := fun κ' hk' => by
              simp [refs, refC] at hk'; subst hk'; simp [upd_same]
            by_cases hm : ys = []
            · subst hm
              have hn : news = [] := List.eq_nil_of_length_eq_zero (by have := hsrc.len; simpa using this)
              subst hn
              have hxo : RepX E G (.arr κ rows.length 0 rows.length) x := by cases hx with | one hx => exact hx
              have hrel : Rel nt base pb G0 ⟨σ.T, upd σ.H κ (some (.arr i.size (rows ++ []) ro))⟩ E G a w := by
                refine h.setKey hH rfl (fun _ _ => rfl) (.inl rfl) (fun _ _ _ => rfl) (Nat.le_refl _) rfl rfl rfl h.hold ?_ (fun b hb => .inl hb) (fun cs e => by cases e) (fun cs e => by cases e)
                rw [List.append_nil]; exact ⟨h1, h2, h3, h4, h5⟩
              refine ⟨x, w, E, G, ?_, hrel, by simpa using Rep.one hxo, hkey⟩
              have hxe : ∃ A cap, x = .slice A rows.length cap ∧ rows.length ≤ cap := by
                generalize hlen : rows.length = L at hxo
                generalize h00 : (0 : Nat) = z0 at hxo
                cases hxo with
                | pure r => cases r
                | arrStale κ tot off len v hs hv => omega
                | arrNil κ tot hb ht => exact ⟨none, 0, by first | rfl | rw [hlen], by omega⟩
                | arr κ tot off len A b hb ht hl hcap hA => exact ⟨A, _, by first | rfl | rw [hlen], by omega⟩
              obtain ⟨A, cap, rfl, hle'⟩ := hxe
              exact run_append_nothing w t tx ty e i hut hi A _ _ hle' u hS
            · have hmp : 0 < ys.length := List.length_pos_iff.2 hm
              -- a new row
              have grow : ∀ (A : Option Addr) (cap : Nat) (old : List Value), x = .slice A rows.length cap → cap < rows.length + ys.length → old.length = rows.length * i.size →
                  (Builtin.firstCells i.size rows.length (.slice A rows.length cap)).run P w.drew = .ok old.toArray w.drew →
                  (∀ (j : Nat) (r : PV) (i' : Nat) (c : PV), rows[j]? = some r → r.cells[i']? = some c → ∃ v, old[j * i.size + i']? = some v ∧ RepC G c v) →
                  OpOut nt base pb G0 P σ a (Builtin.append_ #[t, tx] ty #[x, u]) w (.arr κ (rows.length + ys.length) 0 (rows.length + ys.length)) [(κ, .arr i.size (rows ++ ys) ro)] := by
                intro A cap old hxe hcap hol hfc hold
                subst hxe
                have hrun := run_append_grow_src w t tx ty e i zv hut hi hz A rows.length cap old hfc u ys.length news hS hcap (by unfold room at hroom2; omega)
                  (growslice_fits hcap (by unfold room at hroom1; omega))
                have hgc := grownCap_ge w (rows.length + ys.length) cap e
                let b' := w.heap.size
                let E' : Env := ⟨E.bx, upd E.ar κ ⟨some b', grownCap w (rows.length + ys.length) cap e, rows.length + ys.length, i.size⟩⟩
                have hE : E'.ar κ = ⟨some b', grownCap w (rows.length + ys.length) cap e, rows.length + ys.length, i.size⟩ := upd_same _ _ _
                have hgf : GFree G w.heap.size := holds_gfree h.hold (Nat.le_refl _)
                have hext : Ext w (w.drew.alloc (.cells ((old ++ news).toArray ++ Builtin.zeroCells zv.cells (grownCap w (rows.length + ys.length) cap e - (rows.length + ys.length))) e)) := (Ext.drew w).trans (Ext.alloc w.drew _)
                refine ⟨_, _, E', G, hrun, ?_, .one ?_, hkey⟩
                · refine h.setKey hH rfl (fun κ' e' => upd_ne _ _ e') (.inr (by rw [hE, h2]; show rows.length < rows.length + ys.length; omega)) (fun b hb _ => hext.blk b hb) hext.size hext.os hext.tape hext.output (h.hold.ext hext) ?_ (fun b hb => ?_) (fun cs e => by cases e) (fun cs e => by cases e)
                  · refine ⟨by rw [hE], by rw [hE]; simp, by rw [hE]; simpa using hgc, fun r hr => ?_, ?_⟩
                    · rcases List.mem_append.1 hr with hr | hr
                      · exact h4 r hr
                      · exact hcy r hr
                    · rw [hE]
                      refine ⟨_, e, heap_alloc_new w.drew _, ?_, rowsIn_append (rest := (Builtin.zeroCells zv.cells (grownCap w (rows.length + ys.length) cap e - (rows.length + ys.length))).toList) hol hold h4 hsrc.len hcy hsrc.rep (by simp), fun _ => hgf, fun y hy hne => absurd (hgf y hy) hne⟩
                      simp only [Array.size_append, List.size_toArray, List.length_append, size_zeroCells, hzs, hol, hsrc.len, ← Nat.add_mul]
                      congr 1; omega
                  · simp only [blkOf] at hb; rw [hE] at hb; injection hb with hb; subst hb; exact .inr (Nat.le_refl _)
                · have := RepX.arr (E := E') (G := G) κ (rows.length + ys.length) 0 (rows.length + ys.length) (some ⟨w.heap.size, 0, none⟩) b' (by rw [hE]) (by rw [hE]) (by omega) (by rw [hE]; exact hgc) (.inr (by simp [b']))
                  rw [hE] at this
                  exact this
              cases hx with
              | one hx =>
                have hxn : (E.ar κ).blk = none → x = .slice none 0 0 := fun hb => by
                  rw [hb] at h5
                  obtain ⟨rfl, _⟩ := h5
                  cases hx with
                  | pure r => cases r
                  | arrStale κ tot off len v hs hv => simp at h2; omega
                  | arrNil κ tot hb ht => rfl
                  | arr κ tot off len A b hb' ht hl hcap hA => rw [hb] at hb'; cases hb'
                have hxs : ∀ b, (E.ar κ).blk = some b → ∃ A, x = .slice A rows.length (E.ar κ).cap ∧ ((E.ar κ).cap = 0 ∨ A = some ⟨b, 0, none⟩) := fun b0 hb0 => by
                  generalize hlen : rows.length = L at hx
                  generalize h00 : (0 : Nat) = z0 at hx
                  cases hx with
                  | pure r => cases r
                  | arrStale κ tot off len v hs hv => omega
                  | arrNil κ tot hb ht => rw [hb] at hb0; cases hb0
                  | arr κ tot off len A b hb ht hl hcap hA =>
                    subst h00
                    rw [hb] at hb0; injection hb0 with hb0; subst hb0
                    exact ⟨A, by simp, by simpa using hA⟩
                cases hb : (E.ar κ).blk with
                | none =>
                  have hxe := hxn hb
                  rw [hb] at h5
                  obtain ⟨rfl, _⟩ := h5
                  exact grow none 0 [] (by rw [hxe]; rfl) (by simpa using hmp) (by simp) (by simp [Builtin.firstCells]) (fun j r i' c hj => by simp at hj)
                | some b =>
                  obtain ⟨A, rfl, hA⟩ := hxs b hb
                  rw [hb] at h5
                  obtain ⟨vals, elem, hw, hvs, hrr, hfree, hoff⟩ := h5
                  have hold : ∀ (j : Nat) (r : PV) (i' : Nat) (c : PV), rows[j]? = some r → r.cells[i']? = some c → ∃ v, (vals.toList.take (rows.length * i.size))[j * i.size + i']? = some v ∧ RepC G c v := fun j r i' c hj hi' => by
                    obtain ⟨v, hv, rr⟩ := hrr j r i' c hj hi'
                    have hil : i' < i.size := by rw [← h4 r (List.mem_of_getElem? hj)]; exact (List.getElem?_eq_some_iff.1 hi').1
                    exact ⟨v, by rw [List.getElem?_take, if_pos (row_off (List.getElem?_eq_some_iff.1 hj).1 hil)]; simpa using hv, rr⟩
                  have hcs : rows.length * i.size ≤ vals.size := by rw [hvs]; exact Nat.mul_le_mul_right _ h3
                  have hol : (vals.toList.take (rows.length * i.size)).length = rows.length * i.size := by simp; omega
                  by_cases hfit : rows.length + ys.length ≤ (E.ar κ).cap
                  · -- there is room
                    have hA' : A = some ⟨b, 0, none⟩ := hA.resolve_left (by omega)
                    subst hA'
                    have hcap' : rows.length * i.size + news.length ≤ vals.size := by rw [hsrc.len, hvs, ← Nat.add_mul]; exact Nat.mul_le_mul_right _ hfit
                    have hrun := run_append_room_row (ty := ty) hut hi hw hS hfit hcap'
                    let E' : Env := ⟨E.bx, upd E.ar κ ⟨some b, (E.ar κ).cap, rows.length + ys.length, i.size⟩⟩
                    have hE : E'.ar κ = ⟨some b, (E.ar κ).cap, rows.length + ys.length, i.size⟩ := upd_same _ _ _
                    have hh' : (w.setRow b (vals.toList.take (rows.length * i.size) ++ news ++ vals.toList.drop (rows.length * i.size + news.length)).toArray).heap[b]? = _ := setRow_heap w b vals _ elem (0, 0) hw
                    have hhold : Holds G (w.setRow b (vals.toList.take (rows.length * i.size) ++ news ++ vals.toList.drop (rows.length * i.size + news.length)).toArray) := fun y v hy => by
                      by_cases hyb : y.block = b
                      · have hc0 := h.hold y v hy
                        have ho := hoff y hyb (by simp [hy])
                        obtain ⟨yb, yo, ys'⟩ := y
                        simp only at hyb ho; subst hyb
                        have hsp : ys' = none := by
                          cases ys' with
                          | none => rfl
                          | some s => simp [World.cell?, hw] at hc0
                        subst hsp
                        rw [cell_of_row w _ _ vals elem (0, 0) hw] at hc0
                        rw [cell_of_row _ _ _ _ elem (0, 0) hh']
                        rw [List.getElem?_toArray, splice_get _ _ _ _ (by simpa using hcap'), if_pos ho]
                        simpa using hc0
                      · rw [cell_of_heap (setRow_other w b _ _ hyb)]; exact h.hold y v hy
                    refine ⟨_, _, E', G, hrun, ?_, .one ?_, hkey⟩
                    · refine h.setKey hH rfl (fun κ' e' => upd_ne _ _ e') (.inr (by rw [hE, h2]; show rows.length < rows.length + ys.length; omega)) (fun b' hb' hne => setRow_other w b b' _ (fun e => hne (by simp [blkOf, hb, e]))) (by simp) rfl rfl rfl hhold ?_ (fun b' hb' => ?_) (fun cs e => by cases e) (fun cs e => by cases e)
                      · refine ⟨by rw [hE], by rw [hE]; simp, by rw [hE]; simpa using hfit, fun r hr => ?_, ?_⟩
                        · rcases List.mem_append.1 hr with hr | hr
                          · exact h4 r hr
                          · exact hcy r hr
                        · rw [hE]
                          refine ⟨_, elem, by simpa using hh', ?_, ?_, fun e0 => hfree e0, fun y hy hne => ?_⟩
                          · simp; omega
                          · exact rowsIn_append (rest := vals.toList.drop (rows.length * i.size + news.length)) hol hold h4 hsrc.len hcy hsrc.rep (by simp)
                          · have := hoff y hy hne
                            have : rows.length * i.size ≤ (rows ++ ys).length * i.size := Nat.mul_le_mul_right _ (by simp)
                            omega
                      · simp only [blkOf] at hb'; rw [hE] at hb'; injection hb' with hb'; subst hb'; exact .inl (by simp [blkOf, hb])
                    · have := RepX.arr (E := E') (G := G) κ (rows.length + ys.length) 0 (rows.length + ys.length) (some ⟨b, 0, none⟩) b (by rw [hE]) (by rw [hE]) (by omega) (by rw [hE]; exact hfit) (.inr (by simp))
                      rw [hE] at this
                      simpa using this
                  · refine grow A _ (vals.toList.take (rows.length * i.size)) rfl (by omega) hol ?_ hold
                    rcases hA with hA | hA
                    · have hr0 : rows.length = 0 := by omega
                      rw [hr0]
                      cases A <;> simp [Builtin.firstCells, loadCells, loadCellsFrom]
                    · subst hA
                      refine run_firstCells_some w.drew i.size rows.length _ _ _ _ hol (fun j v hj => ?_)
                      rw [List.getElem?_take] at hj
                      split at hj
                      · rw [Addr.add_lit, World.cell?_drew, cell_of_row w _ _ vals elem (0, 0) hw]; simpa using hj
                      · cases hj
          · cases he
        · cases he
      · rename_i κ hy
        rw [hy] at hx
        split at he
        · rename_i hc
          obtain ⟨hn, hroom1, hroom2⟩ := hc
          rw [hk κ rfl hy, Option.isNone_iff_eq_none] at hn
          simp only [Option.some.injEq, Prod.mk.injEq] at he
          obtain ⟨rfl, rfl⟩ := he
          have hkey : Cl (upd σ.H κ (some (.arr i.size ys false))) (.arr κ ys.length 0 ys.length) := fun κ' hk' => by
            simp [refs, refC] at hk'; subst hk'; simp [upd_same]
          have hxe : x = .slice none 0 0 := by cases hx with | one hx => cases hx with | pure r => cases r; rfl
          subst hxe
          by_cases hm : ys = []
          · subst hm
            have hn0 : news = [] := List.eq_nil_of_length_eq_zero (by have := hsrc.len; simpa using this)
            subst hn0
            obtain ⟨E', hr, hE⟩ := h.newArrNil (sz := i.size) hn (hpb κ rfl)
            exact ⟨_, w, E', G, run_append_nothing w t tx ty e i hut hi none 0 0 (Nat.le_refl _) u hS, hr, .one (.arrNil κ 0 (by rw [hE]) (by rw [hE])), hkey⟩
          · have hmp : 0 < ys.length := List.length_pos_iff.2 hm
            have hrun := run_append_grow_src w t tx ty e i zv hut hi hz none 0 0 [] (by simp [Builtin.firstCells]) u ys.length news hS (by omega) (by unfold room at hroom2; omega)
                  (growslice_fits (by omega) (by rw [Nat.zero_add]; unfold room at hroom1; omega))
            simp only [Nat.zero_add, List.nil_append] at hrun
            have hgc := grownCap_ge w ys.length 0 e
            have hrel := h.ext (Ext.drew w)
            obtain ⟨E', hr, hE⟩ := hrel.newArr (elem := e) (cap := grownCap w ys.length 0 e) (vals := news.toArray ++ Builtin.zeroCells zv.cells (grownCap w ys.length 0 e - ys.length)) false hn (sz := i.size) (rows := ys)
              (by simp only [Array.size_append, List.size_toArray, size_zeroCells, hzs, hsrc.len, ← Nat.add_mul]; congr 1; omega) hgc hcy
              (by
                have := rowsIn_append (G := G) (rows := []) (old := []) (vals := news.toArray ++ Builtin.zeroCells zv.cells (grownCap w ys.length 0 e - ys.length)) (rest := (Builtin.zeroCells zv.cells (grownCap w ys.length 0 e - ys.length)).toList) (sz := i.size) (by simp) (fun j r i' c hj => by simp at hj) (fun r hr => by cases hr) hsrc.len hcy hsrc.rep (by simp)
                simpa using this) (hpb κ rfl)
            refine ⟨_, _, E', G, hrun, hr, .one ?_, hkey⟩
            have := RepX.arr (E := E') (G := G) κ ys.length 0 ys.length (some ⟨w.heap.size, 0, none⟩) w.heap.size (by rw [hE]; rfl) (by rw [hE]) (by omega) (by rw [hE]; exact hgc) (.inr (by simp))
            rw [hE] at this
            exact this
        · cases he
      · cases he
    · cases he
  · cases he

end
end Go.Ab

/- Part Arr3. -/
namespace Go.Ab
open Go

section
variable {nt : Nat} {base : World} {pb : List (Nat × Nat)} {G0 : Ghost} {P : Program} {σ : St} {E : Env} {G : Ghost} {a : Act} {w : World}

theorem op_copy (h : Rel nt base pb G0 σ E G a w) {hh : Hp} (hle : ∀ κ B, hh κ = some B → σ.H κ = some B) {call : CallF} {ρ : Src → PV} {t tx ty e sz : Nat} {y z : Src} (hut : P.underlying t = some (.slice e)) (hsz : szB P e sz = true)
    {x u : Value} (hx : Rep E G (ρ y) x) (hu : Rep E G (ρ z) u) {v : PV} {us : List (Nat × Blk)}
    (he : evOp call ρ hh (.copy sz y z) = some (v, us)) : OpOut nt base pb G0 P σ a (Builtin.copy_ #[t, tx] ty #[x, u]) w v us := by
  obtain ⟨i, hi, rfl⟩ := szB_spec hsz
  simp only [evOp] at he
  split at he
  · rename_i ys κ tot off len hys hy
    rw [hy] at hx
    split at he
    · rename_i sz' rows hkk
      split at he
      · rename_i hc
        obtain ⟨hrt, hol, rfl, hall⟩ := hc
        subst hrt
        simp only [Option.some.injEq, Prod.mk.injEq] at he
        obtain ⟨rfl, rfl⟩ := he
        have hcy : ∀ r ∈ ys, r.cells.length = i.size := fun r hr => by
          have := List.all_eq_true.1 hall r hr; simpa using this
        obtain ⟨news, hsrc⟩ := src_rows (P := P) h hle hys hu hcy
        have hH := hle _ _ hkk
        obtain ⟨h1, h2, h3, h4, h5⟩ := h.hp κ _ hH
        generalize hn : min ys.length len = n
        have hxe : ∃ A cap, x = .slice A len cap ∧ (len = 0 ∨ ∃ b, (E.ar κ).blk = some b ∧ A = some ⟨b, off * i.size, none⟩) := by
          cases hx with
          | one hx =>
            generalize hlen : rows.length = L at hx
            cases hx with
            | pure r => cases r
            | arrStale κ tot off len v hs hv => omega
            | arrNil κ tot hb ht => exact ⟨none, 0, rfl, .inl rfl⟩
            | arr κ tot off len A b hb ht hl hcap hA =>
              refine ⟨A, _, rfl, ?_⟩
              rcases hA with hA | hA
              · left; omega
              · right; exact ⟨b, hb, by rw [hA, h1]⟩
        obtain ⟨A, cap, rfl, hA⟩ := hxe
        have hnle : n ≤ ys.length := by omega
        have hf := hsrc.takes n hnle w (fun _ _ => rfl)
        have hrun0 : ∀ w', (match A with | some a => (storeCells a (news.take (n * i.size))).run P w | none => .ok () w) = .ok () w' →
            (Builtin.copy_ #[t, tx] ty #[.slice A len cap, u]).run P w = .ok (.int .i64 (n : Nat)) w' := fun w' hw' => by
          have hmin : Nat.min ys.length len = n := hn
          cases A with
          | none =>
            simp only [Result.ok.injEq, true_and] at hw'; subst hw'
            simp [Builtin.copy_, run_underlying hut, hsrc.lenOf, run_sizeOf hi, hmin, hf, goInt]
          | some ad =>
            simp only at hw'
            simp [Builtin.copy_, run_underlying hut, hsrc.lenOf, run_sizeOf hi, hmin, hf, goInt, hw']
        have hclos : ∀ B, Cl (ups σ.H [(κ, B)]) (.int .i64 ((n : Nat) : Int)) := fun B => Cl.nil rfl
        by_cases hn0 : n = 0
        · subst hn0
          have hrel : Rel nt base pb G0 ⟨σ.T, upd σ.H κ (some (.arr i.size (rows.take off ++ ys.take 0 ++ rows.drop (off + 0)) false))⟩ E G a w := by
            refine h.setKey hH rfl (fun _ _ => rfl) (.inl rfl) (fun _ _ _ => rfl) (Nat.le_refl _) rfl rfl rfl h.hold ?_ (fun b hb => .inl hb) (fun cs e => by cases e) (fun cs e => by cases e)
            simp only [List.take_zero, List.append_nil, Nat.add_zero, List.take_append_drop]
            exact ⟨h1, h2, h3, h4, h5⟩
          refine ⟨_, w, E, G, hrun0 w ?_, hrel, .one (.pure (.int _ _)), hclos _⟩
          cases A with
          | none => rfl
          | some ad => simp [storeCells]
        · obtain ⟨b, hb, hA⟩ := hA.resolve_left (by omega)
          subst hA
          rw [hb] at h5
          obtain ⟨vals, elem, hw, hvs, hrr, hfree, hoff⟩ := h5
          have hgf := hfree rfl
          have hcm : off * i.size + n * i.size ≤ vals.size := by rw [hvs, ← Nat.add_mul]; exact Nat.mul_le_mul_right _ (by omega)
          have htl : (news.take (n * i.size)).length = n * i.size := by
            have := hsrc.len
            have h2 : n * i.size ≤ ys.length * i.size := Nat.mul_le_mul_right _ hnle
            simp; omega
          have hst := run_storeCells_at P b (off * i.size) elem (news.take (n * i.size)) 0 vals w hw (by omega) (fun v hv => hsrc.one v (List.mem_of_mem_take hv))
          simp only [Nat.add_zero] at hst
          refine ⟨_, _, E, G, hrun0 _ hst, ?_, .one (.pure (.int _ _)), hclos _⟩
          refine h.setKey hH rfl (fun _ _ => rfl) (.inl rfl) (fun b' hb' hne => setRow_other w b b' _ (fun e => hne (by simp [blkOf, hb, e]))) (by simp) rfl rfl rfl
            (holds_other h.hold hgf fun b' hb' => setRow_other w b b' _ hb') ?_ (fun b' hb' => .inl hb') (fun cs' e => by cases e) (fun cs' e => by cases e)
          have hyl : (ys.take n).length = n := by simp; omega
          have hrl : (rows.take off ++ ys.take n ++ rows.drop (off + n)).length = rows.length := by
            have := splice_len rows (ys.take n) off (by omega)
            rwa [hyl] at this
          refine ⟨h1, by rw [hrl]; exact h2, by rw [hrl]; exact h3, fun r hr => ?_, ?_⟩
          · rcases List.mem_append.1 hr with hr | hr
            · rcases List.mem_append.1 hr with hr | hr
              · exact h4 r (List.mem_of_mem_take hr)
              · exact hcy r (List.mem_of_mem_take hr)
            · exact h4 r (List.mem_of_mem_drop hr)
          · rw [hb]
            refine ⟨_, elem, setRow_heap w b vals _ elem (0, 0) hw, ?_, fun j r k c hj hk => ?_, fun _ => hgf, fun y hy hne => absurd (hgf y hy) hne⟩
            · rw [List.size_toArray, splice_len _ _ _ (by rw [htl]; simpa using hcm)]; simpa using hvs
            · rw [List.getElem?_toArray, splice_get _ _ _ _ (by rw [htl]; simpa using hcm), htl]
              have hspl := splice_get rows (ys.take n) off j (by omega)
              rw [hyl] at hspl
              rw [hspl] at hj
              have hks : ∀ q : PV, q.cells.length = i.size → q.cells[k]? = some c → k < i.size := fun q hq hc => by rw [← hq]; exact (List.getElem?_eq_some_iff.1 hc).1
              by_cases hj1 : j < off
              · rw [if_pos hj1] at hj
                have hkl := hks r (h4 r (List.mem_of_getElem? hj)) hk
                rw [if_pos (row_off hj1 hkl)]
                obtain ⟨v, hv, rr⟩ := hrr j r k c hj hk
                exact ⟨v, by simpa using hv, rr⟩
              · rw [if_neg hj1] at hj
                have hge : off * i.size ≤ j * i.size := Nat.mul_le_mul_right _ (by omega)
                rw [if_neg (by omega)]
                by_cases hj2 : j < off + n
                · rw [if_pos hj2, List.getElem?_take, if_pos (by omega)] at hj
                  have hkl := hks r (hcy r (List.mem_of_getElem? hj)) hk
                  have hlt := row_off hj2 hkl
                  rw [Nat.add_mul] at hlt
                  rw [if_pos hlt]
                  obtain ⟨v, hv, rr⟩ := hsrc.rep _ r k c hj hk
                  refine ⟨v, ?_, rr⟩
                  have e : j * i.size + k - off * i.size = (j - off) * i.size + k := by rw [Nat.sub_mul]; omega
                  rw [e, List.getElem?_take, if_pos (by rw [← e]; omega)]
                  exact hv
                · rw [if_neg hj2] at hj
                  have hge2 : (off + n) * i.size ≤ j * i.size := Nat.mul_le_mul_right _ (by omega)
                  rw [Nat.add_mul] at hge2
                  rw [if_neg (by omega)]
                  obtain ⟨v, hv, rr⟩ := hrr j r k c hj hk
                  exact ⟨v, by simpa using hv, rr⟩
      · cases he
    · cases he
  · cases he

/-- An element type's zero value, as one row. -/
def zrowB (P : Program) (t e sz by_ : Nat) (zero : PV) : Bool :=
  (match P.underlying t with | some (.slice e') => e' == e | _ => false) &&
  match P.info? e with
  | some i => i.size == sz && i.bytes == by_ && (match i.zero with | some z => eqvs zero.cells z.cells.toList && z.cells.size == sz | none => false)
  | none => false

theorem zrowB_spec {t e sz by_ : Nat} {zero : PV} (h : zrowB P t e sz by_ zero = true) : P.underlying t = some (.slice e) ∧ ∃ i z, P.info? e = some i ∧ i.size = sz ∧ i.bytes = by_ ∧ i.zero = some z ∧ eqvs zero.cells z.cells.toList = true ∧ z.cells.size = sz := by
  unfold zrowB at h
  simp only [Bool.and_eq_true] at h
  obtain ⟨h1, h2⟩ := h
  split at h1
  · rename_i e' hu
    simp only [beq_iff_eq] at h1; subst h1
    refine ⟨hu, ?_⟩
    split at h2
    · rename_i i hi
      simp only [Bool.and_eq_true, beq_iff_eq] at h2
      obtain ⟨⟨h3, h4⟩, h5⟩ := h2
      split at h5
      · rename_i z hz
        simp only [Bool.and_eq_true, beq_iff_eq] at h5
        exact ⟨i, z, hi, h3, h4, hz, h5.1, h5.2⟩
      · cases h5
    · cases h2
  · cases h1

theorem made_rows {G : Ghost} {zero : PV} {z : Array Value} {n c sz : Nat} (hz : eqvs zero.cells z.toList = true) (hs : z.size = sz) (hnc : n ≤ c) :
    RowsIn G sz (List.replicate n zero) (madeCells z (c * sz)) ∧ ∀ r ∈ List.replicate n zero, r.cells.length = sz := by
  obtain ⟨hl, hg⟩ := eqvs_get hz
  have hzl : zero.cells.length = sz := by rw [hl]; simpa using hs
  refine ⟨fun j r i cc hj hi => ?_, fun r hr => by rw [(List.mem_replicate.1 hr).2]; exact hzl⟩
  have hj' := List.getElem?_replicate (a := zero) (n := n) (i := j)
  rw [hj'] at hj
  split at hj
  · rename_i hjn
    injection hj with hj; subst hj
    have hil : i < sz := by rw [← hzl]; exact (List.getElem?_eq_some_iff.1 hi).1
    have hlt := row_off (show j < c by omega) hil
    have hmod : (j * sz + i) % z.size = i := by rw [hs, Nat.mul_comm, Nat.mul_add_mod]; exact Nat.mod_eq_of_lt hil
    refine ⟨z[i]'(by omega), ?_, eqv_rep (hg i cc _ hi (by simp))⟩
    simp only [madeCells, Array.getElem?_map]
    rw [Array.getElem?_range, if_pos hlt]
    simp [hmod, show i < z.size by omega]
  · cases hj

theorem op_makeSl (h : Rel nt base pb G0 σ E G a w) {hh : Hp} {call : CallF} {ρ : Src → PV} {t e κ sz by_ : Nat} {zero : PV} {y z : Src} (hz : zrowB P t e sz by_ zero = true) (hk : hh κ = σ.H κ) (hpb : ∀ b, (κ, b) ∉ pb)
    {x u : Value} (hx : Rep E G (ρ y) x) (hu : Rep E G (ρ z) u) {v : PV} {us : List (Nat × Blk)}
    (he : evOp call ρ hh (.makeSl κ sz by_ zero y z) = some (v, us)) : OpOut nt base pb G0 P σ a (Instr.makeSlice t x u) w v us := by
  obtain ⟨hut, i, zv, hi, hsz, hby, hz0, hzz, hzs⟩ := zrowB_spec hz
  simp only [evOp] at he
  split at he
  · rename_i n m hy hz'
    split at he
    · rename_i hc
      obtain ⟨hn, h0, hnm, hroom, hroom2⟩ := hc
      rw [hk, Option.isNone_iff_eq_none] at hn
      simp only [Option.some.injEq, Prod.mk.injEq] at he
      obtain ⟨rfl, rfl⟩ := he
      have hxe : x = .int .i64 n := by rw [hy] at hx; cases hx with | one hx => cases hx with | pure r => cases r; rfl
      have hue : u = .int .i64 m := by rw [hz'] at hu; cases hu with | one hu => cases hu with | pure r => cases r; rfl
      subst hxe; subst hue
      have hb2 : (i.bytes : Int) * m ≤ 281474976710656 := by
        obtain ⟨m', rfl⟩ := Int.eq_ofNat_of_zero_le (show 0 ≤ m by omega)
        rw [hby]
        simp only [Int.toNat_natCast] at hroom
        have : ((by_ * m' : Nat) : Int) ≤ 281474976710656 := by rw [Nat.mul_comm]; unfold room at hroom; omega
        simpa using this
      have hrun := run_make (P := P) w t e i zv hut hi hz0 .i64 .i64 n m h0 hnm hb2 (by unfold room at hroom2; omega)
      rw [hsz] at hrun
      obtain ⟨hri, hrc⟩ := made_rows (G := G) (n := n.toNat) (c := m.toNat) hzz hzs (by omega)
      obtain ⟨E', hr, hE⟩ := h.newArr (elem := e) (cap := m.toNat) (sz := sz) (rows := List.replicate n.toNat zero) (vals := madeCells zv.cells (m.toNat * sz)) false hn (size_madeCells _ _) (by simp; omega) hrc hri hpb
      refine ⟨_, _, E', G, hrun, hr, .one ?_, fun κ' hk' => ?_⟩
      · have := RepX.arr (E := E') (G := G) κ n.toNat 0 n.toNat (some ⟨w.heap.size, 0, none⟩) w.heap.size (by rw [hE]) (by rw [hE]; simp) (by omega) (by rw [hE]; simp; omega) (.inr (by simp))
        rw [hE] at this
        exact this
      · simp [refs, refC] at hk'; subst hk'; simp [ups, upd_same]
    · cases he
  · cases he

/-! ### Literals -/

theorem fill_foldl {cells : Array Value} {off : Nat} : ∀ (l : List Value) (k : Nat), off + k + l.length ≤ cells.size →
    ∀ (cur : Array Value), cur.size = cells.size → ((l.zipIdx k).foldl (fun cs (p : Value × Nat) => cs.setIfInBounds (off + p.2) p.1) cur).toList = cur.toList.take (off + k) ++ l ++ cur.toList.drop (off + k + l.length)
  | [], k, _, cur, _ => by simp
  | v :: l, k, hl, cur, hc => by
    simp only [List.zipIdx_cons, List.foldl_cons]
    simp only [List.length_cons] at hl
    rw [fill_foldl (cells := cells) l (k + 1) (by omega) _ (by simpa using hc)]
    have e := list_seg_step cur.toList (off + k) v l (by simp; omega)
    simp only [Array.toList_setIfInBounds]
    rw [← Nat.add_assoc]
    simpa [Nat.add_assoc, Nat.add_comm 1] using e

theorem fill_step {place : Nat → Option (Nat × Nat)} {cells : Array Value} {i off size : Nat} {v : Value} {rest : List (Nat × Value)} (hp : place i = some (off, size)) (hs : v.cells.size = size) (hb : off + size ≤ cells.size) :
    Instr.fill place cells ((i, v) :: rest) = Instr.fill place (cells.toList.take off ++ v.cells.toList ++ cells.toList.drop (off + v.cells.toList.length)).toArray rest := by
  simp only [Instr.fill, hp]
  rw [if_neg (by rw [hs]; simp; omega)]
  congr 1
  apply Array.ext'
  have := fill_foldl (cells := cells) (off := off) v.cells.toList 0 (by simp; omega) cells rfl
  simp only [Nat.add_zero] at this
  rw [← Array.foldl_toList, Array.toList_zipIdx]
  simpa using this

end
end Go.Ab

/- Part Lit. -/
namespace Go.Ab
open Go

section
variable {nt : Nat} {base : World} {pb : List (Nat × Nat)} {G0 : Ghost} {P : Program} {σ : St} {E : Env} {G : Ghost} {a : Act} {w : World}

inductive PRel (place : Nat → Option (Nat × Nat)) (E : Env) (G : Ghost) : List (Nat × Value) → List (Nat × Nat × PV) → Prop
  | nil : PRel place E G [] []
  | cons (i off size : Nat) (v : Value) (p : PV) (l : List (Nat × Value)) (m : List (Nat × Nat × PV)) (hp : place i = some (off, size)) (hr : Rep E G p v) (h : PRel place E G l m) :
      PRel place E G ((i, v) :: l) ((off, size, p) :: m)

theorem fill_rel {place : Nat → Option (Nat × Nat)} : ∀ {l : List (Nat × Value)} {m : List (Nat × Nat × PV)}, PRel place E G l m → ∀ {cs cs' : List PV} {cells : Array Value}, cs.length = cells.size →
    (∀ (i : Nat) c v, cs[i]? = some c → cells[i]? = some v → RepX E G c v) → fillC cs m = some cs' →
    ∃ cells', Instr.fill place cells l = some cells' ∧ cs'.length = cells'.size ∧ ∀ (i : Nat) c v, cs'[i]? = some c → cells'[i]? = some v → RepX E G c v
  | _, _, .nil, cs, cs', cells, hl, hr, hf => by
    simp only [fillC, Option.some.injEq] at hf; subst hf
    exact ⟨cells, rfl, hl, hr⟩
  | _, _, .cons i off size v p l m hp hrp h, cs, cs', cells, hl, hr, hf => by
    simp only [fillC] at hf
    split at hf
    · rename_i hc
      obtain ⟨hok, hn, hb⟩ := hc
      obtain ⟨hcl, hcr⟩ := hrp.cells hok
      rw [fill_step hp (by omega) (by omega)]
      refine fill_rel h ?_ (fun i c u h1 h2 => ?_) hf
      · have := splice_len cs p.cells off (by omega)
        rw [hn] at this
        simp; omega
      · rw [← hn] at h1
        exact splice_rel (R := RepX E G) (cs := cs) (ns := p.cells) (vs := cells.toList) (us := v.cells.toList) (off := off) (by simp [hl]) (by simp [hcl]) (by omega) (fun i c v a b => hr i c v a (by simpa using b)) (fun i c v a b => hcr i c v a (by simpa using b)) i c u h1 (by rw [List.getElem?_toArray] at h2; exact h2)
    · cases hf

theorem fillC_cl {H : Hp} : ∀ {m : List (Nat × Nat × PV)} {cs cs' : List PV}, (∀ c ∈ cs, ClC H c) → (∀ q ∈ m, Cl H q.2.2) → fillC cs m = some cs' → ∀ c ∈ cs', ClC H c
  | [], cs, cs', hc, _, hf => by simp only [fillC, Option.some.injEq] at hf; subst hf; exact hc
  | (off, size, p) :: m, cs, cs', hc, hm, hf => by
    simp only [fillC] at hf
    split at hf
    · rename_i hk
      refine fillC_cl (fun c hcm => ?_) (fun q hq => hm q (List.mem_cons_of_mem _ hq)) hf
      rcases List.mem_append.1 hcm with hcm | hcm
      · rcases List.mem_append.1 hcm with hcm | hcm
        · exact hc c (List.mem_of_mem_take hcm)
        · exact (hm (off, size, p) (by simp)).cells hk.1 c hcm
      · exact hc c (List.mem_of_mem_drop hcm)
    · cases hf

theorem op_build (h : Rel nt base pb G0 σ E G a w) {hh : Hp} {call : CallF} {ρ : Src → PV} {t : Nat} {zs : List PV} {parts : List (Nat × Nat × Src)} {vparts : Array (Nat × Value)} {it : TypeInfo} {z : Value} {fields : Array Field} {places : List (Nat × Nat)}
    (hit : P.info? t = some it) (hz : it.zero = some z) (hzs : eqvs zs z.cells.toList = true) (hut : P.underlying t = some (.struct fields)) (hpl : fields.toList.mapM (fun f => (P.info? f.type).map fun i => (f.offset, i.size)) = some places)
    (hp : PRel (places.toArray[·]?) E G vparts.toList (parts.map fun p => (p.1, p.2.1, ρ p.2.2))) (hc : ∀ q ∈ parts, Cl σ.H (ρ q.2.2)) {v : PV} {us : List (Nat × Blk)}
    (he : evOp call ρ hh (.build zs parts) = some (v, us)) : OpOut nt base pb G0 P σ a (Instr.build t vparts) w v us := by
  simp only [evOp] at he
  split at he
  · rename_i cs hf
    simp only [Option.some.injEq, Prod.mk.injEq] at he
    obtain ⟨rfl, rfl⟩ := he
    obtain ⟨hl, hg⟩ := eqvs_get hzs
    obtain ⟨cells, hfill, hcl, hcr⟩ := fill_rel hp (cs := zs) (cells := z.cells) (by simpa using hl) (fun i c v h1 h2 => .pure (eqv_rep (hg i c v h1 (by simpa using h2)))) hf
    have hb : P.built t vparts.toList = some cells := by
      simp only [Program.built, hit, hut, hz, hpl]; exact hfill
    refine .same h (run_build w t vparts cells hb) (.agg cs cells hcl hcr) (fun κ hk => ?_)
    obtain ⟨c, hcm, hk⟩ := List.mem_flatMap.1 hk
    refine fillC_cl (H := σ.H) (fun c hc => ?_) (fun q hq => ?_) hf c hcm κ hk
    · obtain ⟨i, hi⟩ := List.mem_iff_getElem?.1 hc
      have hlt : i < z.cells.toList.length := by rw [← hl]; exact (List.getElem?_eq_some_iff.1 hi).1
      intro κ' hk'
      rw [(eqv_rep (G := G) (hg i c _ hi (List.getElem?_eq_getElem hlt))).refC] at hk'; cases hk'
    · obtain ⟨q', hq', rfl⟩ := List.mem_map.1 hq
      exact hc q' hq'
  · cases he

inductive RRel (E : Env) (G : Ghost) : List (Nat × Value) → List (Nat × PV) → Prop
  | nil : RRel E G [] []
  | cons (i : Nat) (v : Value) (p : PV) (l : List (Nat × Value)) (m : List (Nat × PV)) (hr : Rep E G p v) (h : RRel E G l m) : RRel E G ((i, v) :: l) ((i, p) :: m)

theorem fillR_rel {hh : Hp} {G' : Ghost} (hg : G.le G') {sz : Nat} : ∀ {l : List (Nat × Value)} {m : List (Nat × PV)}, RRel E G l m → (∀ q ∈ m, OpenAll E G' hh (refs q.2)) → ∀ {rows rows' : List PV} {cells : Array Value}, cells.size = rows.length * sz →
    (∀ r ∈ rows, r.cells.length = sz) → RowsIn G' sz rows cells → fillR hh sz rows m = some rows' →
    ∃ cells', Instr.fill (fun i => some (i * sz, sz)) cells l = some cells' ∧ rows'.length = rows.length ∧ cells'.size = rows'.length * sz ∧ (∀ r ∈ rows', r.cells.length = sz) ∧ RowsIn G' sz rows' cells'
  | _, _, .nil, _, rows, rows', cells, hs, hcs, hr, hf => by
    simp only [fillR, Option.some.injEq] at hf; subst hf
    exact ⟨cells, rfl, rfl, hs, hcs, hr⟩
  | _, _, .cons i v p l m hrp h, ho, rows, rows', cells, hs, hcs, hr, hf => by
    simp only [fillR] at hf
    split at hf
    · rename_i q hq
      split at hf
      · rename_i hc
        obtain ⟨hqs, hil⟩ := hc
        have hqr := pur_rep hq hrp hg (ho (i, p) (by simp))
        obtain ⟨hql, hqc⟩ := hqr.cells
        have hb : i * sz + sz ≤ cells.size := by
          have : (i + 1) * sz ≤ rows.length * sz := Nat.mul_le_mul_right _ hil
          rw [Nat.add_mul, Nat.one_mul] at this; omega
        have hul : v.cells.toList.length = sz := by simp; omega
        have hsl : (cells.toList.take (i * sz) ++ v.cells.toList ++ cells.toList.drop (i * sz + v.cells.toList.length)).length = cells.size := by
          rw [splice_len _ _ _ (by simp; omega)]; simp
        rw [fill_step rfl (by omega) hb]
        obtain ⟨cells', h1, h2, h3, h4, h5⟩ := fillR_rel hg h (fun q hq => ho q (List.mem_cons_of_mem _ hq)) (rows := rows.set i q) (cells := (cells.toList.take (i * sz) ++ v.cells.toList ++ cells.toList.drop (i * sz + v.cells.toList.length)).toArray)
          (by rw [List.size_toArray, hsl, List.length_set]; exact hs) (fun r hr => by
            rcases List.mem_or_eq_of_mem_set hr with hr | hr
            · exact hcs r hr
            · subst hr; exact hqs) (fun j r k c hj hk => by
            rw [List.getElem?_toArray, splice_get _ _ _ _ (by simp; omega), hul]
            by_cases e : i = j
            · subst e
              rw [List.getElem?_set_self hil] at hj; injection hj with hj; subst hj
              have hkl : k < sz := by rw [← hqs]; exact (List.getElem?_eq_some_iff.1 hk).1
              rw [if_neg (by omega), if_pos (by omega)]
              have hlt : k < v.cells.size := by omega
              refine ⟨v.cells[k], ?_, hqc k c _ hk (Array.getElem?_eq_getElem hlt)⟩
              have e2 : i * sz + k - i * sz = k := by omega
              rw [e2]; simp [hlt]
            · rw [List.getElem?_set_ne e] at hj
              obtain ⟨u, hu, rr⟩ := hr j r k c hj hk
              have hkl : k < sz := by rw [← hcs r (List.mem_of_getElem? hj)]; exact (List.getElem?_eq_some_iff.1 hk).1
              refine ⟨u, ?_, rr⟩
              rcases Nat.lt_or_gt_of_ne e with hlt | hgt
              · have : (i + 1) * sz ≤ j * sz := Nat.mul_le_mul_right _ hlt
                rw [Nat.add_mul, Nat.one_mul] at this
                rw [if_neg (by omega), if_neg (by omega)]; simpa using hu
              · have : (j + 1) * sz ≤ i * sz := Nat.mul_le_mul_right _ hgt
                rw [Nat.add_mul, Nat.one_mul] at this
                rw [if_pos (by omega)]; simpa using hu) hf
        exact ⟨cells', h1, by simpa using h2, h3, h4, h5⟩
      · cases hf
    · cases hf

theorem frz_none {h : Hp} {κ : Nat} (hk : h κ = none) : ∀ (ks : List Nat) (p : Nat × Blk), p ∈ frz h ks → p.1 ≠ κ
  | [], p, hp => by cases hp
  | k :: ks, p, hp => by
    simp only [frz] at hp
    split at hp
    · rename_i sz rows ro hkk
      rcases List.mem_cons.1 hp with rfl | hp
      · intro e; subst e; rw [hk] at hkk; cases hkk
      · exact frz_none hk ks p hp
    · exact frz_none hk ks p hp

theorem op_buildSl (h : Rel nt base pb G0 σ E G a w) {hh : Hp} (hle : ∀ κ B, hh κ = some B → σ.H κ = some B) {call : CallF} {ρ : Src → PV} {t e n sz by_ : Nat} {ko : Option Nat} {zero : PV} {parts : List (Nat × Src)} {vparts : Array (Nat × Value)}
    (hz : zrowB P t e sz by_ zero = true) (hsmall : n * sz ≤ 16777216) (hp : RRel E G vparts.toList (parts.map fun p => (p.1, ρ p.2))) (hcl : ∀ q ∈ parts, Cl σ.H (ρ q.2)) (hk : ∀ κ, ko = some κ → hh κ = σ.H κ) (hpb : ∀ κ, ko = some κ → ∀ b, (κ, b) ∉ pb) {v : PV} {us : List (Nat × Blk)}
    (he : evOp call ρ hh (.buildSl ko sz zero n parts) = some (v, us)) : OpOut nt base pb G0 P σ a (Instr.buildSlice t n vparts) w v us := by
  obtain ⟨hut, i, zv, hi, hsz, hby, hz0, hzz, hzs⟩ := zrowB_spec hz
  simp only [evOp] at he
  split at he
  · rename_i rows hf
    obtain ⟨G1, hg1, hr1, ho1, hs1, hn1⟩ := Rel.freezes (h := hh) (parts.flatMap fun p => refs (ρ p.2)) (H := σ.H) h (.of_le hle)
    have hmr := made_rows (G := G1) (n := n) (c := n) hzz hzs (Nat.le_refl _)
    obtain ⟨cells, hfill, hrl, hcsz, hrc, hrin⟩ := fillR_rel hg1 hp (fun q hq => by
      obtain ⟨q', hq', rfl⟩ := List.mem_map.1 hq
      exact fun κ hκ => ho1 κ (List.mem_flatMap.2 ⟨q', hq', hκ⟩)) (rows := List.replicate n zero) (cells := madeCells zv.cells (n * sz)) (by simp [size_madeCells]) hmr.2 hmr.1 hf
    rw [List.length_replicate] at hrl
    have hrun : (Instr.buildSlice t n vparts).run P w = .ok (.slice (some ⟨w.heap.size, 0, none⟩) n n) (w.alloc (.cells cells e)) := by
      by_cases hpos : n * sz = 0
      · have hm : madeCells zv.cells 0 = #[] := by simp [madeCells]
        rw [hpos, hm] at hfill
        have he : (Array.range 0).map (fun x => (#[] : Array Value)[x % (#[] : Array Value).size]!) = #[] := by simp
        simp only [Instr.buildSlice, Sem.run_bind, run_underlying hut, Result.andThen_ok, run_sizeOf hi, hsz, hpos, Sem.run_ite, Sem.run_pure, if_true, he, hfill]
        simp [newRow]
      · exact run_buildSlice w t e n vparts cells i zv hut hi hz0 (by rw [hsz]; omega) (by rw [hsz]; exact hpos) (by rw [hsz]; exact hfill)
    cases ko with
    | none =>
      simp only [Option.some.injEq, Prod.mk.injEq] at he
      obtain ⟨rfl, rfl⟩ := he
      obtain ⟨G2, hg2, hr2, hnew⟩ := hr1.newRow cells e
      refine ⟨_, _, E, G2, hrun, hr2, .one (.pure ?_), Cl.nil rfl⟩
      refine .list rows _ n n w.heap.size 0 sz (fun j i => (cells[j * sz + i]?).getD Go.undef) hrl.symm (by omega) (.inr rfl) (fun j e hj => hrc e (List.mem_of_getElem? hj)) (fun j e i c hj hi => ?_) (fun j e i c hj hi => ?_)
      · obtain ⟨u, hu, rr⟩ := hrin j e i c hj hi
        simp only [Nat.zero_add, hu, Option.getD_some]
        exact hnew _ _ hu
      · obtain ⟨u, hu, rr⟩ := hrin j e i c hj hi
        simp only [hu, Option.getD_some]
        exact rr.mono hg2
    | some κ =>
      simp only at he
      split at he
      · rename_i hn
        rw [hk κ rfl, Option.isNone_iff_eq_none] at hn
        simp only [Option.some.injEq, Prod.mk.injEq] at he
        obtain ⟨rfl, rfl⟩ := he
        have hκ : κ ∉ parts.flatMap fun p => refs (ρ p.2) := fun hm => by
          obtain ⟨q, hq, hκ⟩ := List.mem_flatMap.1 hm
          have := hcl q hq κ hκ; rw [hn] at this; cases this
        have hn' : ups σ.H (frz hh (parts.flatMap fun p => refs (ρ p.2))) κ = none := by rw [hn1 κ hκ]; exact hn
        obtain ⟨E', hr, hE⟩ := hr1.newArr (elem := e) (cap := n) (sz := sz) (rows := rows) (vals := cells) false hn' (by rw [hcsz, hrl]) (by omega) hrc hrin (hpb κ rfl)
        refine ⟨_, _, E', G1, hrun, by rw [ups_append]; exact hr, .one ?_, fun κ' hk' => ?_⟩
        · have := RepX.arr (E := E') (G := G1) κ n 0 n (some ⟨w.heap.size, 0, none⟩) w.heap.size (by rw [hE]) (by rw [hE, hrl]) (by omega) (by rw [hE]; exact Nat.le_refl _) (.inr (by simp))
          rw [hE] at this
          exact this
        · simp [refs, refC] at hk'; subst hk'; rw [ups_append]; simp [ups, upd_same]
      · cases he
  · cases he

end
end Go.Ab

/- Part Plain. -/
namespace Go.Ab
open Go
set_option linter.unusedSimpArgs false

section
variable {nt : Nat} {base : World} {pb : List (Nat × Nat)} {G0 : Ghost} {P : Program} {σ : St} {E : Env} {G : Ghost} {a : Act} {w : World}

theorem rep_int {k : IntKind} {n : Int} {x : Value} (h : Rep E G (.int k n) x) : x = .int k n := by cases h with | one h => cases h with | pure h => cases h; rfl
theorem rep_bool {b : Bool} {x : Value} (h : Rep E G (.bool b) x) : x = .bool b := by cases h with | one h => cases h with | pure h => cases h; rfl
theorem rep_str {s : ByteArray} {x : Value} (h : Rep E G (.str s) x) : x = .string s := by cases h with | one h => cases h with | pure h => cases h; rfl

theorem R_int {k : IntKind} {n : Int} : Rep E G (.int k n) (.int k n) := .one (.pure (.int k n))
theorem R_bool {b : Bool} : Rep E G (.bool b) (.bool b) := .one (.pure (.bool b))
theorem R_str {s : ByteArray} : Rep E G (.str s) (.string s) := .one (.pure (.str s))

theorem run_eqGuard_int {op : BinOp} {t : Nat} {x y : Operand} {k : IntKind} {n : Int} {v : Value} : (eqGuard op t x y (.int k n) v).run P w = .ok () w := by
  cases op <;> simp [eqGuard]
theorem run_eqGuard_str {op : BinOp} {t : Nat} {x y : Operand} {s : ByteArray} {v : Value} : (eqGuard op t x y (.string s) v).run P w = .ok () w := by
  cases op <;> simp [eqGuard]
theorem run_eqGuard_bool {op : BinOp} {t : Nat} {x y : Operand} {b : Bool} {v : Value} : (eqGuard op t x y (.bool b) v).run P w = .ok () w := by
  cases op <;> simp [eqGuard]

theorem run_intBin {t : Nat} {op : BinOp} {k : IntKind} {x y : Int} {p : PV} (h : intBin op k x y = some p) : ∃ v, (binOp op t (.int k x) (.int k y)).run P w = .ok v w ∧ Rep E G p v ∧ refs p = [] := by
  cases op <;> simp only [intBin] at h
  all_goals first
    | (cases h; done)
    | (injection h with h; subst h; exact ⟨_, by simp [binOp, Op.intArith, Op.intBits, Op.intCmp]; rfl, R_int, rfl⟩)
    | (injection h with h; subst h; exact ⟨_, by simp [binOp, Op.intArith, Op.intBits, Op.intCmp]; rfl, R_bool, rfl⟩)
    | (injection h with h; subst h; exact ⟨_, by simp [binOp, Op.intArith, Op.intBits, Op.intCmp], R_int, rfl⟩)
    | (injection h with h; subst h; exact ⟨_, by simp [binOp, Op.intArith, Op.intBits, Op.intCmp], R_bool, rfl⟩)
    | (split at h
       · cases h
       · rename_i hy; injection h with h; subst h; exact ⟨_, by simp [binOp, Op.intDiv, hy], R_int, rfl⟩)

theorem run_shiftBin {t : Nat} {op : BinOp} {k k' : IntKind} {x y : Int} {p : PV} (ho : op = .shl ∨ op = .shr) (h : shiftBin op k x y = some p) : ∃ v, (binOp op t (.int k x) (.int k' y)).run P w = .ok v w ∧ Rep E G p v ∧ refs p = [] := by
  unfold shiftBin at h
  split at h
  · cases h
  · rename_i hy
    rcases ho with rfl | rfl <;> simp only at h <;> injection h with h <;> subst h <;> exact ⟨_, by simp only [binOp, Op.shift, if_neg hy]; rfl, R_int, rfl⟩

theorem run_strBin {t : Nat} {op : BinOp} {x y : ByteArray} {p : PV} (h : strBin op x y = some p) : ∃ v, (binOp op t (.string x) (.string y)).run P w = .ok v w ∧ Rep E G p v ∧ refs p = [] := by
  cases op <;> simp only [strBin] at h
  all_goals first
    | (cases h; done)
    | (injection h with h; subst h; exact ⟨_, by simp only [binOp, Op.stringOp]; rfl, R_bool, rfl⟩)
    | (split at h
       · cases h
       · rename_i hy; injection h with h; subst h; exact ⟨_, by simp only [binOp, Op.stringOp, if_neg hy]; rfl, R_str, rfl⟩)

theorem op_bin (h : Rel nt base pb G0 σ E G a w) {hh : Hp} {call : CallF} {ρ : Src → PV} {op : BinOp} {t : Nat} {y z : Src} {oy oz : Operand} {x u : Value} (hx : Rep E G (ρ y) x) (hu : Rep E G (ρ z) u) {v : PV} {us : List (Nat × Blk)}
    (he : evOp call ρ hh (.bin op y z) = some (v, us)) : OpOut nt base pb G0 P σ a (do eqGuard op t oy oz x u; binOp op t x u) w v us := by
  simp only [evOp] at he
  cases hb : binV op (ρ y) (ρ z) with
  | none => rw [hb] at he; cases he
  | some p =>
    rw [hb] at he; simp only [Option.map_some, Option.some.injEq, Prod.mk.injEq] at he
    obtain ⟨rfl, rfl⟩ := he
    unfold binV at hb
    split at hb
    · rename_i k m k' n hy hz
      rw [hy] at hx; rw [hz] at hu
      have e1 := rep_int hx; have e2 := rep_int hu
      subst e1; subst e2
      have fin : (∃ v, (binOp op t (.int k m) (.int k' n)).run P w = .ok v w ∧ Rep E G p v ∧ refs p = []) → OpOut nt base pb G0 P σ a (do eqGuard op t oy oz (.int k m) (.int k' n); binOp op t (.int k m) (.int k' n)) w p [] := fun ⟨v, hv, hr, hrf⟩ =>
        .same h (by simp [run_eqGuard_int, hv]) hr (Cl.nil hrf)
      split at hb
      · exact fin (run_shiftBin (.inl rfl) hb)
      · exact fin (run_shiftBin (.inr rfl) hb)
      · split at hb
        · rename_i hkk; subst hkk; exact fin (run_intBin hb)
        · cases hb
    · rename_i m n hy hz
      rw [hy] at hx; rw [hz] at hu
      have e1 := rep_str hx; have e2 := rep_str hu
      subst e1; subst e2
      obtain ⟨v, hv, hr, hrf⟩ := run_strBin (P := P) (w := w) (E := E) (G := G) (t := t) hb
      exact .same h (by simp [run_eqGuard_str, hv]) hr (Cl.nil hrf)
    · cases hb

theorem op_eqB (h : Rel nt base pb G0 σ E G a w) {hh : Hp} {call : CallF} {ρ : Src → PV} {ne : Bool} {t : Nat} {y z : Src} {oy oz : Operand} {x u : Value} (ht : P.underlying t = some .bool) (hx : Rep E G (ρ y) x) (hu : Rep E G (ρ z) u) {v : PV} {us : List (Nat × Blk)}
    (he : evOp call ρ hh (.eqB ne y z) = some (v, us)) : OpOut nt base pb G0 P σ a (do eqGuard (if ne then .neq else .eql) t oy oz x u; binOp (if ne then .neq else .eql) t x u) w v us := by
  simp only [evOp] at he
  split at he
  · rename_i m n hy hz
    simp only [Option.some.injEq, Prod.mk.injEq] at he
    obtain ⟨rfl, rfl⟩ := he
    rw [hy] at hx; rw [hz] at hu
    have e1 := rep_bool hx; have e2 := rep_bool hu
    subst e1; subst e2
    refine .same h (x := .bool (if ne then !(m == n) else m == n)) ?_ R_bool (Cl.nil rfl)
    cases ne <;> simp [run_eqGuard_bool, binOp, Op.equal, Op.maxDepth, run_equalIn_bool w 9999 t m n ht]
  · cases he

theorem op_isNil (h : Rel nt base pb G0 σ E G a w) {hh : Hp} {call : CallF} {ρ : Src → PV} {t e : Nat} {y : Src} {oy oz : Operand} {x : Value} (ht : P.underlying t = some (.slice e)) (hx : Rep E G (ρ y) x) {v : PV} {us : List (Nat × Blk)}
    (he : evOp call ρ hh (.isNil y) = some (v, us)) : OpOut nt base pb G0 P σ a (do eqGuard .eql t oy oz x (.slice none 0 0); binOp .eql t x (.slice none 0 0)) w v us := by
  have key : ∀ A n c, (eqGuard .eql t oy oz (.slice A n c) (.slice none 0 0)).run P w = .ok () w ∧ (binOp .eql t (.slice A n c) (.slice none 0 0)).run P w = .ok (.bool A.isNone) w := fun A n c => by
    refine ⟨by simp [eqGuard], ?_⟩
    have h1 : ∀ d : Nat, (Op.equalIn (d + 1) t (.slice A n c) (.slice none 0 0)).run P w = .ok A.isNone w := fun d => by
      cases A <;> simp [Op.equalIn, run_underlying ht]
    simp [binOp, Op.equal, Op.maxDepth, h1 9999]
  simp only [evOp] at he
  split at he
  · rename_i hy
    simp only [Option.some.injEq, Prod.mk.injEq] at he
    obtain ⟨rfl, rfl⟩ := he
    rw [hy] at hx
    have e1 : x = .slice none 0 0 := by cases hx with | one hx => cases hx with | pure hx => cases hx; rfl
    subst e1
    exact .same h (x := .bool true) (by simp [(key none 0 0).1, (key none 0 0).2]) R_bool (Cl.nil rfl)
  · rename_i e0 es hy
    simp only [Option.some.injEq, Prod.mk.injEq] at he
    obtain ⟨rfl, rfl⟩ := he
    rw [hy] at hx
    cases hx with | one hx => cases hx with | pure hx => cases hx with
      | list _ A n cap b o sz val hn hc hA hs hg hr =>
        rcases hA with hA | hA
        · cases hA
        · subst hA
          exact .same h (x := .bool false) (by simp [(key (some ⟨b, o, none⟩) n cap).1, (key (some ⟨b, o, none⟩) n cap).2]) R_bool (Cl.nil rfl)
  · cases he

end
end Go.Ab

/- Part Plain2. -/
namespace Go.Ab
open Go
set_option linter.unusedSimpArgs false

section
variable {nt : Nat} {base : World} {pb : List (Nat × Nat)} {G0 : Ghost} {P : Program} {σ : St} {E : Env} {G : Ghost} {a : Act} {w : World}

theorem op_un (h : Rel nt base pb G0 σ E G a w) {hh : Hp} {call : CallF} {ρ : Src → PV} {op : UnOp} {y : Src} {x : Value} (hx : Rep E G (ρ y) x) {v : PV} {us : List (Nat × Blk)}
    (he : evOp call ρ hh (.un op y) = some (v, us)) : OpOut nt base pb G0 P σ a (Op.unary op x) w v us := by
  simp only [evOp] at he
  cases hb : unV op (ρ y) with
  | none => rw [hb] at he; cases he
  | some p =>
    rw [hb] at he; simp only [Option.map_some, Option.some.injEq, Prod.mk.injEq] at he
    obtain ⟨rfl, rfl⟩ := he
    unfold unV at hb
    split at hb
    · rename_i b hy
      rw [hy] at hx
      have e1 := rep_bool hx; subst e1
      split at hb
      · injection hb with hb; subst hb; exact .same h rfl R_bool (Cl.nil rfl)
      · cases hb
    · rename_i k n hy
      rw [hy] at hx
      have e1 := rep_int hx; subst e1
      split at hb
      · injection hb with hb; subst hb; exact .same h (x := .int k (k.wrap (0 - n))) rfl R_int (Cl.nil rfl)
      · injection hb with hb; subst hb; exact .same h (by simp only [Op.unary, Op.intBits]; rfl) R_int (Cl.nil rfl)
      · cases hb
    · cases hb

/-- What points to the rows that an array has now. -/
theorem aptr_cur (h : Rel nt base pb G0 σ E G a w) {hh : Hp} (hle : ∀ κ B, hh κ = some B → σ.H κ = some B) {κ t i c sz : Nat} {rows : List PV} {ro : Bool} (hk : hh κ = some (.arr sz rows ro)) (ht : rows.length = t) {x : Value}
    (hx : Rep E G (.aptr κ t i c) x) : ∃ b, x = .pointer (some ⟨b, i * (E.ar κ).sz + c, none⟩) ∧ (E.ar κ).blk = some b ∧ t = (E.ar κ).cnt ∧ i < t := by
  obtain ⟨h1, h2, h3, h4, h5⟩ := h.hp κ _ (hle _ _ hk)
  cases hx with
  | one hx => cases hx with
    | pure hx => cases hx
    | aptrStale κ tot i c v hs hv => omega
    | aptr κ tot i c b hb ht hi => exact ⟨b, rfl, hb, ht, hi⟩

theorem op_nilChk (h : Rel nt base pb G0 σ E G a w) {hh : Hp} (hle : ∀ κ B, hh κ = some B → σ.H κ = some B) {call : CallF} {ρ : Src → PV} {y : Src} {x : Value} (hx : Rep E G (ρ y) x) (hc : Cl σ.H (ρ y)) {v : PV} {us : List (Nat × Blk)}
    (he : evOp call ρ hh (.nilChk y) = some (v, us)) : (∃ ad, x = .pointer (some ad)) ∧ us = [] ∧ Rep E G v x ∧ Cl σ.H v := by
  simp only [evOp] at he
  split at he
  · rename_i κ o hy
    simp only [Option.some.injEq, Prod.mk.injEq] at he
    obtain ⟨rfl, rfl⟩ := he
    rw [hy] at hx hc
    refine ⟨?_, rfl, hx, hc⟩
    cases hx with
    | one hx => cases hx with
      | pure hx => cases hx
      | ptr κ off => exact ⟨_, rfl⟩
  · rename_i cs hy
    simp only [Option.some.injEq, Prod.mk.injEq] at he
    obtain ⟨rfl, rfl⟩ := he
    rw [hy] at hx hc
    refine ⟨?_, rfl, hx, hc⟩
    cases hx with
    | one hx => cases hx with | pure hx => cases hx
    | eptr cs b o hr => exact ⟨_, rfl⟩
  · rename_i cs hy
    simp only [Option.some.injEq, Prod.mk.injEq] at he
    obtain ⟨rfl, rfl⟩ := he
    rw [hy] at hx hc
    refine ⟨?_, rfl, hx, hc⟩
    cases hx with
    | one hx => cases hx with
      | pure hx => cases hx; exact ⟨_, rfl⟩
  · rename_i κ t i c hy
    split at he
    · rename_i sz rows ro hk
      split at he
      · rename_i ht
        simp only [Option.some.injEq, Prod.mk.injEq] at he
        obtain ⟨rfl, rfl⟩ := he
        rw [hy] at hx hc
        obtain ⟨b, hxe, _⟩ := aptr_cur h hle hk ht hx
        exact ⟨⟨_, hxe⟩, rfl, hx, hc⟩
      · cases he
    · cases he
  · cases he

/-- A struct's field: where it lies. -/
def fldB (P : Program) (t i off : Nat) : Bool :=
  match P.underlying t with
  | some (.struct fs) => (match fs[i]? with | some f => f.offset == off && (match P.info? f.type with | some ti => ti.size != 0 | none => false) | none => false)
  | _ => false

theorem fldB_spec {t i off : Nat} (h : fldB P t i off = true) : ∃ fs f ti, P.underlying t = some (.struct fs) ∧ fs[i]? = some f ∧ f.offset = off ∧ P.info? f.type = some ti ∧ ti.size ≠ 0 := by
  unfold fldB at h
  split at h
  · rename_i fs hu
    split at h
    · rename_i f hf
      simp only [Bool.and_eq_true, beq_iff_eq] at h
      obtain ⟨h1, h2⟩ := h
      split at h2
      · rename_i ti hti
        exact ⟨fs, f, ti, hu, hf, h1, hti, by simpa using h2⟩
      · cases h2
    · cases h
  · cases h

theorem op_faddr (h : Rel nt base pb G0 σ E G a w) {hh : Hp} (hle : ∀ κ B, hh κ = some B → σ.H κ = some B) {call : CallF} {ρ : Src → PV} {t i off : Nat} (hf : fldB P t i off = true) {y : Src} {x : Value} (hx : Rep E G (ρ y) x) (hc : Cl σ.H (ρ y)) {v : PV} {us : List (Nat × Blk)}
    (he : evOp call ρ hh (.faddr off y) = some (v, us)) : OpOut nt base pb G0 P σ a (Instr.fieldAt t x i) w v us := by
  obtain ⟨fs, f, ti, hu, hfi, hoff, hti, hne⟩ := fldB_spec hf
  have run : ∀ b o, (Instr.fieldAt t (.pointer (some ⟨b, o, none⟩)) i).run P w = .ok (.pointer (some ⟨b, o + off, none⟩)) w := fun b o => by
    simp [Instr.fieldAt, run_underlying hu, hfi, Instr.sureAddr, fieldPlace, run_sizeOf hti, hne, hoff, Addr.add_lit]
  simp only [evOp] at he
  split at he
  · rename_i κ o hy
    simp only [Option.some.injEq, Prod.mk.injEq] at he
    obtain ⟨rfl, rfl⟩ := he
    rw [hy] at hx hc
    cases hx with
    | one hx => cases hx with
      | pure hx => cases hx
      | ptr κ o => exact .same h (run _ _) (.one (.ptr κ (o + off))) hc
  · rename_i cs hy
    simp only [Option.some.injEq, Prod.mk.injEq] at he
    obtain ⟨rfl, rfl⟩ := he
    rw [hy] at hx hc
    cases hx with
    | one hx => cases hx with | pure hx => cases hx
    | eptr cs b o hr =>
      refine .same h (run _ _) (.eptr _ b (o + off) (fun j c hj => ?_)) (Cl.nil rfl)
      rw [List.getElem?_drop] at hj
      obtain ⟨v, hv, r⟩ := hr _ c hj
      exact ⟨v, by rw [Nat.add_assoc]; exact hv, r⟩
  · rename_i cs hy
    simp only [Option.some.injEq, Prod.mk.injEq] at he
    obtain ⟨rfl, rfl⟩ := he
    rw [hy] at hx hc
    cases hx with
    | one hx => cases hx with
      | pure hx => cases hx with
        | rptr cs b o val hg hr =>
          refine .same h (run _ _) (.one (.pure (.rptr _ b (o + off) (fun j => val (off + j)) (fun j c hj => ?_) (fun j c hj => ?_)))) (Cl.nil rfl)
          · rw [List.getElem?_drop] at hj; rw [Nat.add_assoc]; exact hg _ c hj
          · rw [List.getElem?_drop] at hj; exact hr _ c hj
  · rename_i κ tt j c hy
    split at he
    · rename_i sz rows ro hk
      split at he
      · rename_i ht
        simp only [Option.some.injEq, Prod.mk.injEq] at he
        obtain ⟨rfl, rfl⟩ := he
        rw [hy] at hx hc
        obtain ⟨b, rfl, hb, hcnt, hi⟩ := aptr_cur h hle hk ht hx
        exact .same h (run _ _) (.one (by rw [Nat.add_assoc]; exact .aptr κ tt j (c + off) b hb hcnt hi)) hc
      · cases he
    · cases he
  · cases he

def fldTyB (P : Program) (t i off n : Nat) (ag : Bool) : Bool :=
  match P.underlying t with
  | some (.struct fs) => (match fs[i]? with | some f => f.offset == off && tyB P f.type n ag | none => false)
  | _ => false

theorem op_field (h : Rel nt base pb G0 σ E G a w) {hh : Hp} {call : CallF} {ρ : Src → PV} {t i off n : Nat} {ag : Bool} (hf : fldTyB P t i off n ag = true) {y : Src} {x : Value} (hx : Rep E G (ρ y) x) (hc : Cl σ.H (ρ y)) {v : PV} {us : List (Nat × Blk)}
    (he : evOp call ρ hh (.field off n ag y) = some (v, us)) : OpOut nt base pb G0 P σ a (Instr.field t x i) w v us := by
  unfold fldTyB at hf
  split at hf
  · rename_i fs hu
    split at hf
    · rename_i f hfi
      simp only [Bool.and_eq_true, beq_iff_eq] at hf
      obtain ⟨hoff, hty⟩ := hf
      subst hoff
      unfold tyB at hty
      split at hty
      · rename_i ti d hti hd
        simp only [Bool.and_eq_true, beq_iff_eq] at hty
        obtain ⟨hn, hag⟩ := hty
        simp only [evOp] at he
        split at he
        · rename_i cs hy
          rw [hy] at hx hc
          cases hq : ld n ag (cs.drop f.offset) with
          | none => rw [hq] at he; cases he
          | some q =>
            rw [hq] at he; simp only [Option.map_some, Option.some.injEq, Prod.mk.injEq] at he
            obtain ⟨rfl, rfl⟩ := he
            cases hx with
            | one hx => cases hx with | pure hx => cases hx
            | agg cs vs hl hr =>
              have hrun : (Instr.field t (.agg vs) i).run P w = (if ag = true then (.ok (.agg (vs.extract f.offset (f.offset + n))) w : Result Value) else match vs[f.offset]? with | some v => .ok v w | none => .halt (.stuck "part: no such cell") w) := by
                simp only [Instr.field, Sem.run_bind, run_underlying hu, Result.andThen_ok, hfi, asAgg, Sem.run_pure, part, run_isAgg hd, ← hag]
                cases ag
                · simp only [Bool.false_eq_true, if_false]; split <;> simp [*]
                · simp [run_sizeOf hti, hn]
              unfold ld at hq
              cases ag with
              | true =>
                simp only [if_true] at hq hrun
                split at hq
                · rename_i hle
                  injection hq with hq; subst hq
                  rw [List.length_drop] at hle
                  refine .same h hrun (.agg _ _ (by simp; omega) (fun j c u h1 h2 => ?_)) (fun κ hk => ?_)
                  · rw [List.getElem?_take] at h1
                    split at h1
                    · rename_i hj
                      rw [List.getElem?_drop] at h1
                      refine hr _ c u h1 ?_
                      rw [Array.getElem?_extract] at h2
                      split at h2
                      · exact h2
                      · cases h2
                    · cases h1
                  · obtain ⟨c, hcm, hk⟩ := List.mem_flatMap.1 hk
                    exact hc κ (List.mem_flatMap.2 ⟨c, List.mem_of_mem_drop (List.mem_of_mem_take hcm), hk⟩)
                · cases hq
              | false =>
                simp only [Bool.false_eq_true, if_false] at hq hrun
                split at hq
                · rw [List.getElem?_drop, Nat.add_zero] at hq
                  have hlt : f.offset < vs.size := by rw [← hl]; exact (List.getElem?_eq_some_iff.1 hq).1
                  rw [Array.getElem?_eq_getElem hlt] at hrun
                  have hrx := hr _ q _ hq (Array.getElem?_eq_getElem hlt)
                  refine .same h hrun (.one hrx) (fun κ hk => hc κ (List.mem_flatMap.2 ⟨q, List.mem_of_getElem? hq, ?_⟩))
                  cases q <;> first | exact hk | (cases hrx with | pure r => cases r)
                · cases hq
        · cases he
      · cases hty
    · cases hf
  · cases hf

theorem op_iaddr (h : Rel nt base pb G0 σ E G a w) {hh : Hp} (hle : ∀ κ B, hh κ = some B → σ.H κ = some B) {call : CallF} {ρ : Src → PV} {t e sz : Nat} (hut : P.underlying t = some (.slice e)) (hsz : szB P e sz = true)
    {y z : Src} {x u : Value} (hx : Rep E G (ρ y) x) (hu : Rep E G (ρ z) u) (hc : Cl σ.H (ρ y)) {v : PV} {us : List (Nat × Blk)}
    (he : evOp call ρ hh (.iaddr sz y z) = some (v, us)) : OpOut nt base pb G0 P σ a (Instr.indexAt t x u) w v us := by
  obtain ⟨i, hi, hs⟩ := szB_spec hsz
  simp only [evOp] at he
  split at he
  · rename_i k n hz
    rw [hz] at hu
    have eu := rep_int hu; subst eu
    split at he
    · rename_i h0
      have run : ∀ (ad : Addr) (len cap : Nat), n < len → (Instr.indexAt t (.slice (some ad) len cap) (.int k n)).run P w = .ok (.pointer (some (ad.add (n.toNat * sz)))) w := fun ad len cap hl => by
        simp [Instr.indexAt, asIntOf, run_underlying hut, h0, hl, run_sizeOf hi, hs]
      split at he
      · rename_i es hy
        rw [hy] at hx hc
        split at he
        · rename_i e' hee
          split at he
          · rename_i hcl
            simp only [Option.some.injEq, Prod.mk.injEq] at he
            obtain ⟨rfl, rfl⟩ := he
            cases hx with
            | one hx => cases hx with
              | pure hx => cases hx with
                | list es A ln cap b o sz' val hn hcap hA hss hg hr =>
                  have hlt : n.toNat < es.length := (List.getElem?_eq_some_iff.1 hee).1
                  rcases hA with rfl | rfl
                  · simp at hlt
                  · have hsz' : sz' = sz := by rw [← hss _ _ hee, hcl]
                    subst hsz'
                    refine .same h (run ⟨b, o, none⟩ ln cap (by omega)) ?_ (Cl.nil rfl)
                    rw [Addr.add_lit]
                    exact .eptr _ _ _ (fun j c hj => ⟨_, hg _ _ _ _ hee hj, hr _ _ _ _ hee hj⟩)
          · cases he
        · cases he
      · rename_i κ tot off len hy
        rw [hy] at hx hc
        split at he
        · rename_i sz' rows ro hk
          split at he
          · rename_i hcc
            obtain ⟨hrt, hol, rfl, hnl⟩ := hcc
            simp only [Option.some.injEq, Prod.mk.injEq] at he
            obtain ⟨rfl, rfl⟩ := he
            have hH := hle _ _ hk
            obtain ⟨h1, h2, h3, h4, h5⟩ := h.hp κ _ hH
            cases hx with
            | one hx => cases hx with
              | pure hx => cases hx
              | arrStale κ tot off len v hs hv => omega
              | arrNil κ tot hb ht => omega
              | arr κ tot off len A b hb ht hl hcap hA =>
                have hA' := hA.resolve_left (by omega)
                subst hA'
                refine .same h (run _ len _ (by omega)) (.one ?_) hc
                rw [Addr.add_lit, h1, ← Nat.add_mul]
                have := RepX.aptr (G := G) κ tot (off + n.toNat) 0 b hb ht (by omega)
                rw [h1] at this
                exact this
          · cases he
        · cases he
      · cases he
    · cases he
  · cases he

theorem op_index (h : Rel nt base pb G0 σ E G a w) {hh : Hp} {call : CallF} {ρ : Src → PV} {t : Nat} (hut : P.underlying t = some .string) {y z : Src} {x u : Value} (hx : Rep E G (ρ y) x) (hu : Rep E G (ρ z) u) {v : PV} {us : List (Nat × Blk)}
    (he : evOp call ρ hh (.index y z) = some (v, us)) : OpOut nt base pb G0 P σ a (Instr.index t x u) w v us := by
  simp only [evOp] at he
  split at he
  · rename_i s k n hy hz
    rw [hy] at hx; rw [hz] at hu
    have e1 := rep_str hx; have e2 := rep_int hu
    subst e1; subst e2
    split at he
    · rename_i h0
      split at he
      · rename_i b hb
        simp only [Option.some.injEq, Prod.mk.injEq] at he
        obtain ⟨rfl, rfl⟩ := he
        exact .same h (by simp only [Instr.index, asIntOf, Sem.run_bind, Sem.run_pure, Result.andThen_ok, run_underlying hut, h0, if_true, hb]) R_int (Cl.nil rfl)
      · cases he
    · cases he
  · cases he

inductive BndR (E : Env) (G : Ghost) (ρ : Src → PV) : Option Src → Option Value → Prop
  | none : BndR E G ρ none none
  | some (y : Src) (x : Value) (h : Rep E G (ρ y) x) : BndR E G ρ (some y) (some x)

theorem bnd_spec {ρ : Src → PV} {o : Option Src} {x : Option Value} (h : BndR E G ρ o x) {l : Option Nat} (hb : bnd ρ o = some l) : (l = none ∧ x = none) ∨ ∃ k n, x = some (.int k n) ∧ 0 ≤ n ∧ l = some n.toNat := by
  cases h with
  | none => simp only [bnd, Option.some.injEq] at hb; exact .inl ⟨hb.symm, rfl⟩
  | some y x hr =>
    simp only [bnd] at hb
    split at hb
    · rename_i k n hy
      split at hb
      · rename_i h0
        injection hb with hb; subst hb
        rw [hy] at hr
        exact .inr ⟨k, n, by rw [rep_int hr], h0, rfl⟩
      · cases hb
    · cases hb

theorem run_bounds {ρ : Src → PV} {lo hi : Option Src} {xl xh : Option Value} {l r : Option Nat} (hl : BndR E G ρ lo xl) (hh : BndR E G ρ hi xh) (el : bnd ρ lo = some l) (er : bnd ρ hi = some r) {isS : Bool} {len cap : Nat}
    (h1 : l.getD 0 ≤ r.getD len) (h2 : r.getD len ≤ len) (h3 : len ≤ cap) : (Instr.sliceBounds isS len cap xl xh none).run P w = .ok (l.getD 0, r.getD len, cap) w := by
  rcases bnd_spec hl el with ⟨rfl, rfl⟩ | ⟨k, n, rfl, h0, rfl⟩ <;> rcases bnd_spec hh er with ⟨rfl, rfl⟩ | ⟨k', m, rfl, h0', rfl⟩ <;>
    simp only [Option.getD_some, Option.getD_none] at h1 h2 ⊢
  · simp [Instr.sliceBounds]
  · simp [Instr.sliceBounds, run_sliceBound w k' m cap _ h0' (by omega)]
  · simp [Instr.sliceBounds, run_sliceBound w k n len _ h0 (by omega)]
  · simp [Instr.sliceBounds, run_sliceBound w k' m cap _ h0' (by omega), run_sliceBound w k n m.toNat _ h0 (by omega)]

/-- A slice's type: a string, or a slice of elements of a size. -/
def slTyB (P : Program) (t : Nat) (isStr : Bool) (sz : Nat) : Bool :=
  match P.underlying t with
  | some .string => isStr
  | some (.slice e) => !isStr && szB P e sz
  | _ => false

theorem op_slice (h : Rel nt base pb G0 σ E G a w) {hh : Hp} (hle : ∀ κ B, hh κ = some B → σ.H κ = some B) {call : CallF} {ρ : Src → PV} {t sz : Nat} {isStr : Bool} (ht : slTyB P t isStr sz = true) {y : Src} {lo hi : Option Src} {x : Value} {xl xh : Option Value}
    (hx : Rep E G (ρ y) x) (hc : Cl σ.H (ρ y)) (hl : BndR E G ρ lo xl) (hr : BndR E G ρ hi xh) {v : PV} {us : List (Nat × Blk)}
    (he : evOp call ρ hh (.slice isStr sz y lo hi) = some (v, us)) : OpOut nt base pb G0 P σ a (Instr.sliceAt t x xl xh none) w v us := by
  simp only [evOp] at he
  split at he
  · rename_i l r el er
    cases hq : sliceV hh isStr sz (ρ y) l r with
    | none => rw [hq] at he; cases he
    | some q =>
      rw [hq] at he; simp only [Option.map_some, Option.some.injEq, Prod.mk.injEq] at he
      obtain ⟨rfl, rfl⟩ := he
      have runS : ∀ e i, P.underlying t = some (.slice e) → P.info? e = some i → i.size = sz → ∀ (A : Option Addr) (len cap : Nat), l.getD 0 ≤ r.getD len → r.getD len ≤ len → len ≤ cap →
          (Instr.sliceAt t (.slice A len cap) xl xh none).run P w = .ok (.slice (if cap = l.getD 0 then A else A.map (·.add (l.getD 0 * sz))) (r.getD len - l.getD 0) (cap - l.getD 0)) w := fun e i hu hi hs A len cap h1 h2 h3 => by
        simp [Instr.sliceAt, Instr.slice, run_underlying hu, run_bounds hl hr el er h1 h2 h3, run_sizeOf hi, hs]
      have fin : OpOut nt base pb G0 P σ a (Instr.sliceAt t x xl xh none) w q [] := by
        unfold slTyB at ht
        cases isStr with
        | true =>
          have hu : P.underlying t = some .string := by
            split at ht
            · rename_i hu; exact hu
            · simp at ht
            · cases ht
          generalize hy : ρ y = p at hq hx hc
          cases p <;> simp only [sliceV] at hq <;> first
            | cases hq
            | (rename_i s
               split at hq
               · rename_i hcc
                 injection hq with hq; subst hq
                 have e1 := rep_str hx; subst e1
                 refine .same h ?_ R_str (Cl.nil rfl)
                 simp [Instr.sliceAt, Instr.slice, run_underlying hu, run_bounds hl hr el er hcc.1 hcc.2 (Nat.le_refl _)]
               · cases hq)
        | false =>
          obtain ⟨e, i, hu, hi, hs⟩ : ∃ e i, P.underlying t = some (.slice e) ∧ P.info? e = some i ∧ i.size = sz := by
            split at ht
            · cases ht
            · rename_i e hu
              simp only [Bool.and_eq_true] at ht
              obtain ⟨i, hi, hs⟩ := szB_spec ht.2
              exact ⟨e, i, hu, hi, hs⟩
            · cases ht
          have run := runS e i hu hi hs
          generalize hy : ρ y = p at hq hx hc
          cases p with
          | list es =>
            simp only [sliceV] at hq
            split at hq
            · rename_i hcc
              obtain ⟨h1, h2, h3⟩ := hcc
              injection hq with hq; subst hq
              cases hx with
              | one hx => cases hx with
                | pure hx => cases hx with
                  | list es A ln cap b o sz' val hn hcap hA hss hg hrr =>
                    subst hn
                    refine .same h (run A es.length cap h1 h2 hcap) (.one (.pure ?_)) (Cl.nil rfl)
                    generalize l.getD 0 = L at *
                    generalize r.getD es.length = R at *
                    have hget : ∀ (j : Nat) (e : PV), ((es.take R).drop L)[j]? = some e → L + j < R ∧ es[L + j]? = some e := fun j e hj => by
                      rw [List.getElem?_drop, List.getElem?_take] at hj
                      split at hj
                      · rename_i hlt; exact ⟨hlt, hj⟩
                      · cases hj
                    have hlen : ((es.take R).drop L).length = R - L := by simp; omega
                    have hsz : ∀ (j : Nat) (e : PV), es[j]? = some e → sz' = sz := fun j e hj => by
                      have := List.all_eq_true.1 h3 e (List.mem_of_getElem? hj)
                      rw [← hss j e hj]; simpa using this
                    refine .list _ _ _ _ b (o + L * sz') sz' (fun j i => val (L + j) i) hlen.symm (by rw [hlen]; omega) ?_ (fun j e hj => hss _ e (hget j e hj).2) (fun j e i c hj hi => ?_) (fun j e i c hj hi => hrr _ e i c (hget j e hj).2 hi)
                    · by_cases hRL : R - L = 0
                      · left; exact List.eq_nil_of_length_eq_zero (by rw [hlen]; exact hRL)
                      · right
                        rcases hA with rfl | rfl
                        · simp at h2; omega
                        · rw [if_neg (by omega)]
                          have hlt : L < es.length := by omega
                          rw [← hsz L _ (List.getElem?_eq_getElem hlt)]
                          simp [Addr.add_lit]
                    · have := hg _ e i c (hget j e hj).2 hi
                      rw [Nat.add_mul, ← Nat.add_assoc] at this
                      exact this
            · cases hq
          | nil =>
            simp only [sliceV] at hq
            split at hq
            · rename_i hcc
              injection hq with hq; subst hq
              have hxe : x = .slice none 0 0 := by cases hx with | one hx => cases hx with | pure hx => cases hx; rfl
              subst hxe
              refine .same h ?_ (.one (.pure .nil)) (Cl.nil rfl)
              have := run none 0 0 (by omega) (by omega) (Nat.le_refl _)
              rw [hcc.1, hcc.2] at this
              simpa using this
            · cases hq
          | arr κ tot off len =>
            simp only [sliceV] at hq
            split at hq
            · rename_i sz' rows ro hk
              split at hq
              · rename_i hcc
                obtain ⟨hrt, hol, h1, h2, rfl⟩ := hcc
                injection hq with hq; subst hq
                obtain ⟨g1, g2, g3, g4, g5⟩ := h.hp κ _ (hle _ _ hk)
                cases hx with
                | one hx => cases hx with
                  | pure hx => cases hx
                  | arrStale κ tot off len v hs hv => omega
                  | arrNil κ tot hb htt =>
                    have hL : l.getD 0 = 0 := by omega
                    have hR : r.getD 0 = 0 := by omega
                    refine .same h (x := .slice none 0 0) ?_ (.one ?_) hc
                    · have := run none 0 0 (by omega) (by omega) (Nat.le_refl _)
                      rw [hL, hR] at this
                      simpa using this
                    · rw [hL, hR]; exact .arrNil κ tot hb htt
                  | arr κ tot off len A b hb htt hl' hcap hA =>
                    refine .same h (run A len _ h1 h2 (by omega)) (.one ?_) hc
                    rw [Nat.sub_sub]
                    refine .arr κ tot _ _ _ b hb htt (by omega) hcap ?_
                    by_cases e : (E.ar κ).cap = off + l.getD 0
                    · exact .inl e
                    · right
                      rw [if_neg (by omega)]
                      have hA' := hA.resolve_left (by omega)
                      subst hA'
                      simp [Addr.add_lit, g1, Nat.add_mul]
              · cases hq
            · cases hq
          | _ => simp only [sliceV] at hq; cases hq
      exact fin
  · cases he

end
end Go.Ab

/- Part Plain3. -/
namespace Go.Ab
open Go
set_option linter.unusedSimpArgs false

section
variable {nt : Nat} {base : World} {pb : List (Nat × Nat)} {G0 : Ghost} {P : Program} {σ : St} {E : Env} {G : Ghost} {a : Act} {w : World}

def lenTyB (P : Program) (t : Nat) (isStr : Bool) : Bool :=
  match P.underlying t with
  | some .string => isStr
  | some (.slice _) => !isStr
  | _ => false

theorem op_len (h : Rel nt base pb G0 σ E G a w) {hh : Hp} (hle : ∀ κ B, hh κ = some B → σ.H κ = some B) {call : CallF} {ρ : Src → PV} {t ty : Nat} {isStr : Bool} (ht : lenTyB P t isStr = true) {y : Src} {x : Value} (hx : Rep E G (ρ y) x) {v : PV} {us : List (Nat × Blk)}
    (he : evOp call ρ hh (.len isStr y) = some (v, us)) : OpOut nt base pb G0 P σ a (Builtin.len_ #[t] ty #[x]) w v us := by
  simp only [evOp] at he
  cases hq : lenV hh isStr (ρ y) with
  | none => rw [hq] at he; cases he
  | some n =>
    rw [hq] at he
    injection he with he
    injection he with he1 he2
    subst he1; subst he2
    unfold lenTyB at ht
    cases isStr with
    | true =>
      have hu : P.underlying t = some .string := by
        split at ht
        · rename_i hu; exact hu
        · simp at ht
        · cases ht
      generalize hy : ρ y = p at hq hx
      cases p <;> simp only [lenV] at hq <;> first
        | (cases hq; done)
        | (injection hq with hq; subst hq
           have e1 := rep_str hx; subst e1
           exact .same h (by simp [Builtin.len_, run_underlying hu, goInt]) R_int (Cl.nil rfl))
    | false =>
      obtain ⟨e, hu⟩ : ∃ e, P.underlying t = some (.slice e) := by
        split at ht
        · cases ht
        · rename_i e hu; exact ⟨e, hu⟩
        · cases ht
      have run : ∀ (A : Option Addr) (k cap : Nat), (Builtin.len_ #[t] ty #[.slice A k cap]).run P w = .ok (.int .i64 k) w := fun A k cap => by simp [Builtin.len_, run_underlying hu, goInt]
      generalize hy : ρ y = p at hq hx
      cases p with
      | nil =>
        simp only [lenV] at hq; injection hq with hq; subst hq
        cases hx with | one hx => cases hx with | pure hx => cases hx; exact .same h (run _ _ _) R_int (Cl.nil rfl)
      | list es =>
        simp only [lenV] at hq; injection hq with hq; subst hq
        cases hx with
        | one hx => cases hx with
          | pure hx => cases hx with
            | list es A ln cap b o sz' val hn hcap hA hss hg hrr => subst hn; exact .same h (run _ _ _) R_int (Cl.nil rfl)
      | arr κ tot off len =>
        simp only [lenV] at hq
        split at hq
        · rename_i sz' rows ro hk
          split at hq
          · rename_i hcc
            injection hq with hq; subst hq
            obtain ⟨g1, g2, g3, g4, g5⟩ := h.hp κ _ (hle _ _ hk)
            cases hx with
            | one hx => cases hx with
              | pure hx => cases hx
              | arrStale κ tot off len v hs hv => omega
              | arrNil κ tot hb htt => exact .same h (run _ _ _) R_int (Cl.nil rfl)
              | arr κ tot off len A b hb htt hl' hcap hA => exact .same h (run _ _ _) R_int (Cl.nil rfl)
          · cases hq
        · cases hq
      | _ => simp only [lenV] at hq; cases hq

theorem op_mm (h : Rel nt base pb G0 σ E G a w) {hh : Hp} {call : CallF} {ρ : Src → PV} {at_ : Array Nat} {ty : Nat} {isMax : Bool} {y z : Src} {x u : Value} (hx : Rep E G (ρ y) x) (hu : Rep E G (ρ z) u) {v : PV} {us : List (Nat × Blk)}
    (he : evOp call ρ hh (.mm isMax y z) = some (v, us)) : OpOut nt base pb G0 P σ a (if isMax then Builtin.max_ at_ ty #[x, u] else Builtin.min_ at_ ty #[x, u]) w v us := by
  simp only [evOp] at he
  split at he
  · rename_i k m k' n hy hz
    rw [hy] at hx; rw [hz] at hu
    have e1 := rep_int hx; have e2 := rep_int hu
    subst e1; subst e2
    split at he
    · rename_i hk; subst hk
      simp only [Option.some.injEq, Prod.mk.injEq] at he
      obtain ⟨rfl, rfl⟩ := he
      refine .same h ?_ R_int (Cl.nil rfl)
      cases isMax
      · simp only [Bool.false_eq_true, if_false]; simp [Builtin.min_, Builtin.min2]
      · simp only [if_true]; simp [Builtin.max_, Builtin.max2]
    · cases he
  · cases he

theorem op_extract (h : Rel nt base pb G0 σ E G a w) {hh : Hp} {call : CallF} {ρ : Src → PV} {i : Nat} {y : Src} {x : Value} (hx : Rep E G (ρ y) x) {v : PV} {us : List (Nat × Blk)}
    (he : evOp call ρ hh (.extract y i) = some (v, us)) : OpOut nt base pb G0 P σ a (Instr.extract x i) w v us := by
  simp only [evOp] at he
  split at he
  · rename_i vs hy
    split at he
    · rename_i p hp
      simp only [Option.some.injEq, Prod.mk.injEq] at he
      obtain ⟨rfl, rfl⟩ := he
      rw [hy] at hx
      cases hx with
      | one hx => cases hx with | pure hx => cases hx
      | tuple cs ws hl hr =>
        have hlt : i < ws.size := by rw [← hl]; exact (List.getElem?_eq_some_iff.1 hp).1
        have hrr := hr i p _ hp (Array.getElem?_eq_getElem hlt)
        exact .same h (by simp only [Instr.extract, Array.getElem?_eq_getElem hlt]; rfl) hrr.rep (Cl.nil hrr.refs)
    · cases he
  · cases he

/-- A new row, in whatever world there is now. -/
theorem Rel.newRowAt (h : Rel nt base pb G0 σ E G a w) {w' : World} (he : Ext w w') {vals : Array Value} {elem : Nat} {fz : Nat × Nat} (hw : w'.heap[w.heap.size]? = some (.cells vals elem fz)) :
    ∃ G', G.le G' ∧ Rel nt base pb G0 σ E G' a w' ∧ ∀ (i : Nat) v, vals[i]? = some v → G' ⟨w.heap.size, i, none⟩ = some v := by
  have h' := h.ext he
  have hgf : GFree G w.heap.size := holds_gfree h.hold (Nat.le_refl _)
  let G' : Ghost := fun x => if x.block = w.heap.size ∧ x.spot = none then vals[x.off]? else G x
  have hle : G.le G' := fun x v hx => by
    have : x.block ≠ w.heap.size := fun e => by rw [hgf x e] at hx; cases hx
    simp only [G', this, false_and, if_false]; exact hx
  have hcases : ∀ x, G' x ≠ none → G x ≠ none ∨ x.block = w.heap.size := fun x hx => by
    by_cases e : x.block = w.heap.size
    · exact .inr e
    · simp only [G', e, false_and, if_false] at hx; exact .inl hx
  refine ⟨G', hle, h'.ghost hle (fun x v hx => ?_) (fun x hx => ?_) (fun κ B b hH hb x hx hne => ?_), fun i v hv => by simp [G', hv]⟩
  · simp only [G'] at hx
    split at hx
    · rename_i hc
      obtain ⟨b, o, s⟩ := x
      obtain ⟨rfl, rfl⟩ := hc
      rw [cell_of_row _ _ _ vals elem fz hw]; exact hx
    · exact h'.hold x v hx
  · rcases hcases x hx with h1 | h1
    · exact .inl h1
    · have := h.sz; exact .inr (by omega)
  · rcases hcases x hne with h1 | h1
    · exact h1
    · have := h.lt hH hb; omega

theorem freeze_heap {w : World} {b o n : Nat} {vals : Array Value} {elem : Nat} {fz : Nat × Nat} (hw : w.heap[b]? = some (.cells vals elem fz)) : ∃ fz', (w.freeze ⟨b, o, none⟩ n).heap[b]? = some (.cells vals elem fz') := by
  unfold World.freeze
  split
  · exact ⟨fz, hw⟩
  · simp only [Array.getElem?_modify, if_true, hw, Option.map_some]
    obtain ⟨lo, hi⟩ := fz
    exact ⟨_, rfl⟩

theorem freeze_other {w : World} {a : Addr} {n k : Nat} (h : k ≠ a.block) : (w.freeze a n).heap[k]? = w.heap[k]? := by
  unfold World.freeze
  split
  · rfl
  · simp [Array.getElem?_modify, Ne.symm h]

theorem freeze_size {w : World} {a : Addr} {n : Nat} : (w.freeze a n).heap.size = w.heap.size := by
  unfold World.freeze
  split <;> simp

theorem freeze_rest {w : World} {a : Addr} {n : Nat} : (w.freeze a n).os = w.os ∧ (w.freeze a n).tape = w.tape ∧ (w.freeze a n).output = w.output := by
  unfold World.freeze
  split <;> exact ⟨rfl, rfl, rfl⟩

def convB (P : Program) (src dst : Nat) : CK → Bool
  | .int k => (match P.underlying src, P.underlying dst with | some _, some (.int k') => k == k' | _, _ => false)
  | .same => (match P.underlying src, P.underlying dst with | some _, some .string => true | _, _ => false)
  | .strBytes => (match P.underlying src, P.underlying dst with | some _, some (.slice e) => (match P.underlying e with | some (.int .u8) => true | _ => false) | _, _ => false)
  | .runeStr => (match P.underlying src, P.underlying dst with | some _, some .string => true | _, _ => false)
  | .bytesStr => (match P.underlying src, P.underlying dst with | some (.slice e), some .string => (match P.underlying e with | some (.int .u8) => true | _ => false) | _, _ => false)
  | .strRunes => (match P.underlying src, P.underlying dst with | some _, some (.slice e) => (match P.underlying e with | some (.int .i32) => true | _ => false) | _, _ => false)

theorem rows_slice {hh : Hp} {p : PV} {x : Value} {ys : List PV} (hp : rowsOf hh p = some ys) (hn : ∀ s, p ≠ .str s) (hx : Rep E G p x) (hle : ∀ κ B, hh κ = some B → σ.H κ = some B) (h : Rel nt base pb G0 σ E G a w) : ∃ A n c, x = .slice A n c ∧ (A = none → ys = []) := by
  unfold rowsOf at hp
  split at hp
  · injection hp with hp; subst hp
    cases hx with | one hx => cases hx with | pure r => cases r; exact ⟨_, _, _, rfl, fun _ => rfl⟩
  · rename_i es
    injection hp with hp; subst hp
    cases hx with | one hx => cases hx with | pure r => cases r with
      | list _ A n cap b o sz val hn hc hA hs hg hr => exact ⟨_, _, _, rfl, fun e => by rcases hA with h | h; exact h; rw [e] at h; cases h⟩
  · exact absurd rfl (hn _)
  · rename_i κ tot off len
    split at hp
    · rename_i sz rows ro hk
      split at hp
      · rename_i hc
        injection hp with hp; subst hp
        have hB := h.hp κ _ (hle _ _ hk)
        cases hx with | one hx => cases hx with
          | pure r => cases r
          | arrNil _ _ h1 h2 => exact ⟨_, _, _, rfl, fun _ => by simp⟩
          | arr _ _ _ _ A b h1 ht hl hcc hA =>
            refine ⟨_, _, _, rfl, fun e => ?_⟩
            rcases hA with h3 | h3
            · have : len = 0 := by omega
              subst this; simp
            · rw [e] at h3; cases h3
          | arrStale _ _ _ _ v h1 hv =>
            obtain ⟨_, hcnt, _⟩ := hB
            omega
      · cases hp
    · cases hp
  · cases hp

theorem bytesOf_ints : ∀ {es : List PV} {bs : List UInt8}, bytesOf es = some bs → ∃ ns : List Int, es = ns.map (PV.int .u8) ∧ bs = ns.map (fun n => UInt8.ofNat n.toNat)
  | [], bs, h => by simp only [bytesOf, Option.some.injEq] at h; subst h; exact ⟨[], rfl, rfl⟩
  | e :: es, bs, h => by
    unfold bytesOf at h
    split at h
    · rename_i heq; cases heq
    · rename_i n l heq
      injection heq with h1 h2; subst h1; subst h2
      split at h
      · rename_i bs' hb
        injection h with h; subst h
        obtain ⟨ns, h1, h2⟩ := bytesOf_ints hb
        exact ⟨n :: ns, by simp [h1], by simp [h2]⟩
      · cases h
    · cases h

theorem runesFrom_units {s : ByteArray} : ∀ (f i : Nat) (acc : Array Value), Conv.runesFrom s f i acc = acc ++ ((unitsFrom s f i).map fun u => Value.int .i32 u.1).toArray
  | 0, i, acc => by simp [Conv.runesFrom, unitsFrom]
  | f + 1, i, acc => by
    simp only [Conv.runesFrom, unitsFrom]
    split
    · rw [runesFrom_units f]; simp
    · simp

theorem op_conv (h : Rel nt base pb G0 σ E G a w) {hh : Hp} (hle : ∀ κ B, hh κ = some B → σ.H κ = some B) {call : CallF} {ρ : Src → PV} {src dst : Nat} {k : CK} (hb : convB P src dst k = true) {y : Src} {x : Value} (hx : Rep E G (ρ y) x) {v : PV} {us : List (Nat × Blk)}
    (he : evOp call ρ hh (.conv k y) = some (v, us)) : OpOut nt base pb G0 P σ a (convert src dst x) w v us := by
  simp only [evOp] at he
  cases hq : convV hh k (ρ y) with
  | none => rw [hq] at he; cases he
  | some q =>
    rw [hq] at he; simp only [Option.map_some, Option.some.injEq, Prod.mk.injEq] at he
    obtain ⟨rfl, rfl⟩ := he
    cases k with
    | int k =>
      simp only [convB] at hb
      split at hb
      · rename_i d k' hs hd
        simp only [beq_iff_eq] at hb; subst hb
        generalize hy : ρ y = p at hq hx
        cases p <;> simp only [convV] at hq <;> first
          | (cases hq; done)
          | (injection hq with hq; subst hq
             have e1 := rep_int hx; subst e1
             exact .same h (by simp [convert, run_underlying hs, run_underlying hd, Conv.intToInt]) R_int (Cl.nil rfl))
      · cases hb
    | same =>
      simp only [convB] at hb
      split at hb
      · rename_i d hs hd
        generalize hy : ρ y = p at hq hx
        cases p <;> simp only [convV] at hq <;> first
          | (cases hq; done)
          | (injection hq with hq; subst hq
             have e1 := rep_str hx; subst e1
             exact .same h (by simp [convert, run_underlying hs, run_underlying hd]) R_str (Cl.nil rfl))
      · cases hb
    | runeStr =>
      simp only [convB] at hb
      split at hb
      · rename_i d hs hd
        generalize hy : ρ y = p at hq hx
        cases p <;> simp only [convV] at hq <;> first
          | (cases hq; done)
          | (injection hq with hq; subst hq
             have e1 := rep_int hx; subst e1
             exact .same h (by simp [convert, run_underlying hs, run_underlying hd, Conv.intToString]) R_str (Cl.nil rfl))
      · cases hb
    | bytesStr =>
      simp only [convB] at hb
      split at hb
      · rename_i e hs hd
        split at hb
        · rename_i hel
          have hns : ∀ s, ρ y ≠ .str s := fun s e => by rw [e] at hq; cases hq
          have hq' : (match rowsOf hh (ρ y) with | some es => (bytesOf es).map fun bs => PV.str ⟨bs.toArray⟩ | none => none) = some q := by
            unfold convV at hq
            split at hq <;> first | exact hq | (rename_i e1 _; cases e1; done) | (cases hq; done) | skip
            all_goals simp_all
          split at hq'
          · rename_i es hr
            cases hbs : bytesOf es with
            | none => rw [hbs] at hq'; cases hq'
            | some bs =>
              rw [hbs] at hq'
              simp only [Option.map_some, Option.some.injEq] at hq'
              subst hq'
              obtain ⟨ns, rfl, rfl⟩ := bytesOf_ints hbs
              obtain ⟨A, n, c, rfl, hA⟩ := rows_slice hr hns hx hle h
              have hrun : (convert src dst (.slice A n c)).run P w = .ok (.string ⟨(ns.map fun n => UInt8.ofNat n.toNat).toArray⟩) w := by
                rw [run_convert_bytes_string w src dst e A n c hs hel hd]
                cases A with
                | none =>
                  have : ns = [] := by simpa using hA rfl
                  subst this
                  simp [Conv.bytesToString, ByteArray.empty, ByteArray.emptyWithCapacity]
                  rfl
                | some ad =>
                  obtain ⟨news, hsr⟩ := src_rows (P := P) (sz := 1) h hle hr hx (fun e he => by
                    obtain ⟨n, _, rfl⟩ := List.mem_map.1 he; rfl)
                  have ht := hsr.takes _ (Nat.le_refl _) w (fun _ _ => rfl)
                  have hl := hsr.lenOf w
                  have hn : n = ns.length := by
                    simp [Builtin.lenOf] at hl
                    exact hl
                  have hnews : news = ns.map (Value.int .u8) := by
                    apply List.ext_getElem?
                    intro j
                    have hlen := hsr.len
                    rcases Nat.lt_or_ge j ns.length with hj | hj
                    · obtain ⟨u, hu, hru⟩ := hsr.rep j (.int .u8 (ns[j])) 0 (.int .u8 (ns[j])) (by simp [hj]) rfl
                      cases hru
                      simp at hu
                      rw [hu]; simp [hj]
                    · rw [List.getElem?_eq_none (by simp at hlen; omega), List.getElem?_eq_none (by simpa using hj)]
                  have hlc : (loadCells ad n).run P w = .ok (ns.map (Value.int .u8)).toArray w := by
                    simp only [Builtin.firstCells, List.length_map, Nat.mul_one] at ht
                    rw [hn, ht, hnews, List.take_of_length_le (by simp)]
                  rw [run_bytesToString w ad n c ns hlc, foldl_push_bytes]
                  simp [ByteArray.empty, ByteArray.emptyWithCapacity]
                  rfl
              exact .same h hrun R_str (Cl.nil rfl)
          · cases hq'
        · cases hb
      · cases hb
    | strRunes =>
      simp only [convB] at hb
      split at hb
      · rename_i d e hs hd
        split at hb
        · rename_i hel
          generalize hy : ρ y = p at hq hx
          cases p <;> simp only [convV] at hq <;> first
            | (cases hq; done)
            | (rename_i s
               injection hq with hq; subst hq
               have e1 := rep_str hx; subst e1
               obtain ⟨us, hus⟩ : ∃ us : List U, unitsOf s = us := ⟨_, rfl⟩
               have hel2 : Conv.runesFrom s s.size 0 #[] = (us.map fun u => Value.int .i32 u.1).toArray := by
                 rw [runesFrom_units, ← hus]; simp [unitsOf]
               generalize hcap : (Question.appendCap us.length 0 e).cut (w.tape w.drawn (.appendCap us.length 0 e)) = cap
               have hcge : us.length ≤ cap := by rw [← hcap]; simp [Question.cut]
               let vals : Array Value := (us.map fun u => Value.int .i32 u.1).toArray ++ Array.replicate (cap - us.length) (.int .i32 0)
               have hh1 : (w.drew.alloc (.cells vals e)).heap[w.heap.size]? = some (.cells vals e (0, 0)) := heap_alloc_new w.drew _
               have hrun : (convert src dst (.string s)).run P w = .ok (.slice (some ⟨w.heap.size, 0, none⟩) us.length cap) (w.drew.alloc (.cells vals e)) := by
                 simp only [convert, Sem.run_bind, run_underlying hs, run_underlying hd, Result.andThen_ok, run_underlying hel, Conv.stringToRunes, hel2, List.size_toArray, List.length_map, run_choose, Question.forced, Bool.false_eq_true, if_false, hcap, newRow, run_newObj, Sem.run_pure]
                 rfl
               have hext : Ext w (w.drew.alloc (.cells vals e)) := (Ext.drew w).trans (Ext.alloc w.drew _)
               obtain ⟨G', hg, hr, hnew⟩ := h.newRowAt hext hh1
               refine ⟨_, _, E, G', hrun, hr, .one (.pure ?_), Cl.nil rfl⟩
               have hv : ∀ (j : Nat) (e : PV) (i : Nat) (c : PV), (us.map fun u => PV.int .i32 u.1)[j]? = some e → e.cells[i]? = some c → i = 0 ∧ ∃ u : U, c = .int .i32 u.1 ∧ vals[j]? = some (.int .i32 u.1) := fun j e i c hj hi => by
                 simp only [List.getElem?_map, Option.map_eq_some_iff] at hj
                 obtain ⟨u, hu, rfl⟩ := hj
                 have hi0 : i = 0 := by cases i with | zero => rfl | succ i => simp [PV.cells] at hi
                 subst hi0
                 simp [PV.cells] at hi
                 have hjl : j < us.length := (List.getElem?_eq_some_iff.1 hu).1
                 refine ⟨rfl, u, hi.symm, ?_⟩
                 simp only [vals]
                 rw [Array.getElem?_append_left (by simpa using hjl)]
                 simp [hu]
               rw [hus]
               refine .list _ _ _ _ w.heap.size 0 1 (fun j _ => (vals[j]?).getD Go.undef) (by simp) (by simpa using hcge) (.inr rfl) (fun j e hj => ?_) (fun j e i c hj hi => ?_) (fun j e i c hj hi => ?_)
               · simp only [List.getElem?_map, Option.map_eq_some_iff] at hj
                 obtain ⟨b, _, rfl⟩ := hj; rfl
               · obtain ⟨hi0, u, rfl, hvj⟩ := hv j e i c hj hi
                 subst hi0
                 simp only [Nat.zero_add, Nat.mul_one, Nat.add_zero, hvj, Option.getD_some]
                 exact hnew _ _ hvj
               · obtain ⟨hi0, u, rfl, hvj⟩ := hv j e i c hj hi
                 subst hi0
                 simp only [hvj, Option.getD_some]
                 exact .int _ _)
        · cases hb
      · cases hb
    | strBytes =>
      simp only [convB] at hb
      split at hb
      · rename_i d e hs hd
        split at hb
        · rename_i hel
          generalize hy : ρ y = p at hq hx
          cases p <;> simp only [convV] at hq <;> first
            | (cases hq; done)
            | (rename_i s
               injection hq with hq; subst hq
               have e1 := rep_str hx; subst e1
               generalize hcap : (Question.appendCap s.size 0 e).cut (w.tape w.drawn (.appendCap s.size 0 e)) = cap
               have hcge : s.size ≤ cap := by rw [← hcap]; simp [Question.cut]
               let vals : Array Value := s.data.map (fun b => Value.int .u8 b.toNat) ++ Array.replicate (cap - s.size) (.int .u8 0)
               have hh1 : (w.drew.alloc (.cells vals e)).heap[w.heap.size]? = some (.cells vals e (0, 0)) := heap_alloc_new w.drew _
               have hsh : (w.drew.alloc (.cells vals e)).shape? w.heap.size = some (e, vals.size) := by unfold World.shape?; rw [hh1]
               obtain ⟨fz, hh2⟩ := freeze_heap (o := vals.size) (n := 1) hh1
               have hrun : (convert src dst (.string s)).run P w = .ok (.slice (some ⟨w.heap.size, 0, none⟩) s.size cap) ((w.drew.alloc (.cells vals e)).freeze ⟨w.heap.size, vals.size, none⟩ 1) := by
                 simp only [convert, Sem.run_bind, run_underlying hs, run_underlying hd, Result.andThen_ok, run_underlying hel, Conv.stringToBytes, run_choose, Question.forced, Bool.false_eq_true, if_false, hcap, newRow, run_newObj, Sem.run_pure, markStringish, run_shape]
                 have : ({ heap := w.heap.push (.cells vals e), tape := w.tape, drawn := w.drawn + 1, os := w.os, output := w.output } : World) = w.drew.alloc (.cells vals e) := rfl
                 simp only [vals] at this hsh ⊢
                 rw [this, hsh]
                 rfl
               have hfr := freeze_rest (w := w.drew.alloc (.cells vals e)) (a := ⟨w.heap.size, vals.size, none⟩) (n := 1)
               have hext : Ext w ((w.drew.alloc (.cells vals e)).freeze ⟨w.heap.size, vals.size, none⟩ 1) :=
                 ⟨fun b hb => by rw [freeze_other (by simp; omega)]; exact heap_alloc_old w.drew _ b hb, by rw [freeze_size]; simp, hfr.1, hfr.2.1, hfr.2.2⟩
               obtain ⟨G', hg, hr, hnew⟩ := h.newRowAt hext hh2
               refine ⟨_, _, E, G', hrun, hr, .one (.pure ?_), Cl.nil rfl⟩
               have hlen : (bytesPV s).length = s.size := by simp [bytesPV]
               refine .list _ _ _ _ w.heap.size 0 1 (fun j _ => (vals[j]?).getD Go.undef) hlen.symm (by rw [hlen]; exact hcge) (.inr rfl) (fun j e hj => ?_) (fun j e i c hj hi => ?_) (fun j e i c hj hi => ?_)
               · simp only [bytesPV, List.getElem?_map, Option.map_eq_some_iff] at hj
                 obtain ⟨b, _, rfl⟩ := hj; rfl
               · simp only [bytesPV, List.getElem?_map, Option.map_eq_some_iff] at hj
                 obtain ⟨b, hb', rfl⟩ := hj
                 have hi0 : i = 0 := by cases i with | zero => rfl | succ i => simp [PV.cells] at hi
                 subst hi0
                 have hjl : j < s.data.size := by have := (List.getElem?_eq_some_iff.1 hb').1; simpa using this
                 have hv : vals[j]? = some (.int .u8 b.toNat) := by
                   simp only [vals]
                   rw [Array.getElem?_append_left (by simpa using hjl)]
                   simp only [Array.getElem?_map]
                   rw [show s.data[j]? = some b by simpa using hb']; rfl
                 simp only [Nat.zero_add, Nat.mul_one, Nat.add_zero, hv, Option.getD_some]
                 exact hnew _ _ hv
               · simp only [bytesPV, List.getElem?_map, Option.map_eq_some_iff] at hj
                 obtain ⟨b, hb', rfl⟩ := hj
                 have hi0 : i = 0 := by cases i with | zero => rfl | succ i => simp [PV.cells] at hi
                 subst hi0
                 simp [PV.cells] at hi; subst hi
                 have hjl : j < s.data.size := by have := (List.getElem?_eq_some_iff.1 hb').1; simpa using this
                 have hv : vals[j]? = some (.int .u8 b.toNat) := by
                   simp only [vals]
                   rw [Array.getElem?_append_left (by simpa using hjl)]
                   simp only [Array.getElem?_map]
                   rw [show s.data[j]? = some b by simpa using hb']; rfl
                 simp only [hv, Option.getD_some]
                 exact .int _ _)
        · cases hb
      · cases hb

/-! ### Structs compared -/

def ekB (P : Program) (t : Nat) : EK → Bool
  | .int => (match P.underlying t with | some (.int _) => true | _ => false)
  | .str => (match P.underlying t with | some .string => true | _ => false)
  | .bool => (match P.underlying t with | some .bool => true | _ => false)

def eqFsB (P : Program) : Nat → List EK → List Field → Bool
  | _, [], [] => true
  | o, k :: ks, f :: fs => f.offset == o && f.name != "_" && ekB P f.type k && eqFsB P (o + 1) ks fs
  | _, _, _ => false

theorem run_eqCell {d t : Nat} {k : EK} {p q : PV} {x y : Value} {b : Bool} (h : eqCell k p q = some b) (hk : ekB P t k = true) (rp : RepX E G p x) (rq : RepX E G q y) :
    ∃ d', P.underlying t = some d' ∧ aggD d' = false ∧ (Op.equalIn (d + 1) t x y).run P w = .ok b w := by
  unfold eqCell at h
  split at h
  · split at h
    · rename_i hkk; subst hkk; injection h with h; subst h
      simp only [ekB] at hk
      split at hk
      · rename_i k' hu
        cases rp with | pure r => cases rq with | pure r' => cases r; cases r'; exact ⟨_, hu, rfl, run_equalIn_int w d t _ _ _ _ hu⟩
      · cases hk
    · cases h
  · injection h with h; subst h
    simp only [ekB] at hk
    split at hk
    · rename_i hu
      cases rp with | pure r => cases rq with | pure r' => cases r; cases r'; exact ⟨_, hu, rfl, run_equalIn_string w d t _ _ hu⟩
    · cases hk
  · injection h with h; subst h
    simp only [ekB] at hk
    split at hk
    · rename_i hu
      cases rp with | pure r => cases rq with | pure r' => cases r; cases r'; exact ⟨_, hu, rfl, run_equalIn_bool w d t _ _ hu⟩
    · cases hk
  · cases h

theorem run_eqFields {d : Nat} : ∀ (ks : List EK) (fs : List Field) (o : Nat) (ps qs : List PV) (xs ys : Array Value) (r : Bool), eqFsB P o ks fs = true → o + ps.length = xs.size → o + qs.length = ys.size →
    (∀ (i : Nat) c v, ps[i]? = some c → xs[o + i]? = some v → RepX E G c v) → (∀ (i : Nat) c v, qs[i]? = some c → ys[o + i]? = some v → RepX E G c v) → eqCells ks ps qs = some r →
    (Op.eqFields (d + 1) xs ys fs).run P w = .ok r w
  | [], [], o, ps, qs, xs, ys, r, _, _, _, _, _, he => by
    cases ps <;> cases qs <;> simp only [eqCells] at he <;> first | cases he | skip
    all_goals (simp [Op.eqFields])
  | [], _ :: _, o, ps, qs, xs, ys, r, hb, _, _, _, _, _ => by simp [eqFsB] at hb
  | _ :: _, [], o, ps, qs, xs, ys, r, hb, _, _, _, _, _ => by simp [eqFsB] at hb
  | k :: ks, f :: fs, o, ps, qs, xs, ys, r, hb, hx, hy, hpx, hqy, he => by
    simp only [eqFsB, Bool.and_eq_true, beq_iff_eq, bne_iff_ne] at hb
    obtain ⟨⟨⟨ho, hname⟩, hk⟩, hrest⟩ := hb
    cases ps with
    | nil => cases qs <;> simp [eqCells] at he
    | cons p ps =>
      cases qs with
      | nil => simp [eqCells] at he
      | cons q qs =>
        simp only [List.length_cons] at hx hy
        have hxo : o < xs.size := by omega
        have hyo : o < ys.size := by omega
        have rp := hpx 0 p _ rfl (Array.getElem?_eq_getElem hxo)
        have rq := hqy 0 q _ rfl (Array.getElem?_eq_getElem hyo)
        have hone : ∀ b, eqCell k p q = some b → ∃ d', P.underlying f.type = some d' ∧ aggD d' = false ∧ (Op.equalIn (d + 1) f.type xs[o] ys[o]).run P w = .ok b w := fun b hb => run_eqCell hb hk rp rq
        have tail : eqCells ks ps qs = some r → (Op.eqFields (d + 1) xs ys fs).run P w = .ok r w := fun he' =>
          run_eqFields ks fs (o + 1) ps qs xs ys r hrest (by omega) (by omega) (fun i c v h1 h2 => hpx (i + 1) c v (by simpa using h1) (by rw [← h2]; congr 1; omega)) (fun i c v h1 h2 => hqy (i + 1) c v (by simpa using h1) (by rw [← h2]; congr 1; omega)) he'
        simp only [eqCells] at he
        have step : ∀ b, eqCell k p q = some b → (Op.eqFields (d + 1) xs ys (f :: fs)).run P w = if (!b) = true then .ok false w else (Op.eqFields (d + 1) xs ys fs).run P w := fun b hb => by
          obtain ⟨d', hu, hag, hr⟩ := hone b hb
          simp only [Op.eqFields, ne_eq, hname, not_false_eq_true, if_true, Sem.run_bind, part, run_isAgg hu, hag, Result.andThen_ok, Bool.false_eq_true, if_false, ho, Array.getElem?_eq_getElem hxo, Array.getElem?_eq_getElem hyo, Sem.run_pure, hr]
          cases b <;> simp
        cases hc : eqCell k p q with
        | none => rw [hc] at he; cases he
        | some b =>
          rw [hc] at he
          rw [step b hc]
          cases b with
          | true => simp only [Bool.not_true, Bool.false_eq_true, if_false]; exact tail he
          | false => simp only at he; injection he with he; subst he; rfl

def eqAggB (P : Program) (t : Nat) (ks : List EK) : Bool :=
  (match P.underlying t with | some (.struct fs) => eqFsB P 0 ks fs.toList | _ => false) && !P.eqGuardType P.depth t && !P.stoodInHeld t

theorem op_eqAgg (h : Rel nt base pb G0 σ E G a w) {hh : Hp} {call : CallF} {ρ : Src → PV} {ne : Bool} {ks : List EK} {t : Nat} {y z : Src} {oy oz : Operand} {x u : Value} (ht : eqAggB P t ks = true) (hx : Rep E G (ρ y) x) (hu : Rep E G (ρ z) u) {v : PV} {us : List (Nat × Blk)}
    (he : evOp call ρ hh (.eqAgg ne ks y z) = some (v, us)) : OpOut nt base pb G0 P σ a (do eqGuard (if ne then .neq else .eql) t oy oz x u; binOp (if ne then .neq else .eql) t x u) w v us := by
  simp only [eqAggB, Bool.and_eq_true, Bool.not_eq_true'] at ht
  obtain ⟨⟨h1, h2⟩, h3⟩ := ht
  split at h1
  · rename_i fs hut
    simp only [evOp] at he
    split at he
    · rename_i cs ds hy hz
      cases hq : eqCells ks cs ds with
      | none => rw [hq] at he; cases he
      | some r =>
        rw [hq] at he; simp only [Option.map_some, Option.some.injEq, Prod.mk.injEq] at he
        obtain ⟨rfl, rfl⟩ := he
        rw [hy] at hx; rw [hz] at hu
        cases hx with
        | one hx => cases hx with | pure hx => cases hx
        | agg cs xs hl hr =>
          cases hu with
          | one hu => cases hu with | pure hu => cases hu
          | agg ds ys hl' hr' =>
            have hfo : P.fieldsOf t = fs := by simp [Program.fieldsOf, hut]
            have hrun := run_eqFields (P := P) (w := w) (E := E) (G := G) (d := 9998) ks fs.toList 0 cs ds xs ys r h1 (by omega) (by omega) (fun i c v a b => hr i c v a (by simpa using b)) (fun i c v a b => hr' i c v a (by simpa using b)) hq
            have heq : (Op.equal t (.agg xs) (.agg ys)).run P w = .ok r w := by
              unfold Op.equal Op.maxDepth
              rw [run_equalIn_struct w 9999 t xs ys (by rw [hfo]; exact hut) h3, hfo]
              exact hrun
            refine .same h (x := .bool (if ne then !r else r)) ?_ R_bool (Cl.nil rfl)
            cases ne
            · simp [eqGuard, binOp, heq, h2]
            · simp [eqGuard, binOp, heq, h2]
    · cases he
  · cases h1

/-! ### Going over a string -/

theorem op_range (h : Rel nt base pb G0 σ E G a w) {hh : Hp} {call : CallF} {ρ : Src → PV} {t κ : Nat} {y : Src} {x : Value} (hut : P.underlying t = some .string) (hx : Rep E G (ρ y) x) (hk : hh κ = σ.H κ) (hpb : ∀ b, (κ, b) ∉ pb)
    {v : PV} {us : List (Nat × Blk)} (he : evOp call ρ hh (.range κ y) = some (v, us)) : OpOut nt base pb G0 P σ a (Instr.range t x) w v us := by
  simp only [evOp] at he
  split at he
  · rename_i s hy
    split at he
    · rename_i hn
      simp only [Option.some.injEq, Prod.mk.injEq] at he
      obtain ⟨rfl, rfl⟩ := he
      rw [hk, Option.isNone_iff_eq_none] at hn
      rw [hy] at hx
      have e1 := rep_str hx; subst e1
      have h' := h.ext (Ext.alloc w (.stringIter s 0))
      let E' : Env := ⟨upd E.bx κ w.heap.size, E.ar⟩
      have hE : E'.bx κ = w.heap.size := upd_same _ _ _
      refine ⟨.pointer (some ⟨w.heap.size, 0, none⟩), w.alloc (.stringIter s 0), E', G, ?_, h'.newKey hn (fun κ' e => ⟨upd_ne _ _ e, rfl⟩) ?_ (fun b hb => ?_) (fun cs e => by cases e) hpb, by rw [← hE]; exact .one (.ptr κ 0), fun κ' hk' => ?_⟩
      · simp [Instr.range, run_underlying hut]
      · show (w.alloc _).heap[E'.bx κ]? = _; rw [hE]; exact heap_alloc_new w _
      · have hb' : b = w.heap.size := by simp [blkOf, hE] at hb; exact hb.symm
        subst hb'
        exact ⟨h.sz, fun κ' B' hH hbb => by have := h.lt hH hbb; omega⟩
      · simp [refs, refC] at hk'; subst hk'; simp [ups, upd_same]
    · cases he
  · cases he

theorem op_next (h : Rel nt base pb G0 σ E G a w) {hh : Hp} (hle : ∀ κ B, hh κ = some B → σ.H κ = some B) {call : CallF} {ρ : Src → PV} {t : Nat} {y : Src} {x : Value} (hx : Rep E G (ρ y) x)
    {v : PV} {us : List (Nat × Blk)} (he : evOp call ρ hh (.next y) = some (v, us)) : OpOut nt base pb G0 P σ a (Instr.next x true t) w v us := by
  simp only [evOp] at he
  split at he
  · rename_i κ off hy
    split at he
    · rename_i s pos hk
      split at he
      · rename_i h0
        subst h0
        rw [hy] at hx
        cases hx with
        | one hx => cases hx with
          | pure hx => cases hx
          | ptr κ off =>
            have hH := hle _ _ hk
            have hb : w.heap[E.bx κ]? = some (.stringIter s pos) := h.hp κ _ hH
            split at he
            · rename_i hlt
              simp only [Option.some.injEq, Prod.mk.injEq] at he
              obtain ⟨rfl, rfl⟩ := he
              have hlt' := heap_lt hb
              let w' : World := { w with heap := w.heap.setIfInBounds (E.bx κ) (.stringIter s (pos + (Utf8.decode s pos).2)) }
              have hw' : ∀ b, b ≠ E.bx κ → w'.heap[b]? = w.heap[b]? := fun b hb => Array.getElem?_setIfInBounds_ne (Ne.symm hb)
              have hnew : w'.heap[E.bx κ]? = some (.stringIter s (pos + (Utf8.decode s pos).2)) := by simp [w', hlt']
              have hgf : GFree G (E.bx κ) := fun z hz => by
                cases hg : G z with
                | none => rfl
                | some u => have := h.hold z u hg; simp [World.cell?, hz, hb] at this
              refine ⟨.tuple #[.bool true, .int .i64 pos, .int .i32 (Utf8.decode s pos).1], w', E, G, ?_, ?_, .tuple _ _ rfl (fun i c u h1 h2 => ?_), Cl.nil rfl⟩
              · simp only [Instr.next, Sem.run_bind, getObj, Sem.run, hb, Result.andThen_ok, hlt, if_true, setObj, goInt]
                rfl
              · exact h.setKey hH rfl (fun _ _ => rfl) (.inl rfl) (fun b _ hne => hw' b (fun e => hne (by simp [blkOf, e]))) (by simp [w']) rfl rfl rfl (holds_other h.hold hgf hw') hnew (fun b hb => .inl hb) (fun cs e => by cases e) (fun cs e => by cases e)
              · match i with
                | 0 => simp at h1 h2; subst h1; subst h2; exact .one (.bool _)
                | 1 => simp at h1 h2; subst h1; subst h2; exact .one (.int _ _)
                | 2 => simp at h1 h2; subst h1; subst h2; exact .one (.int _ _)
                | i + 3 => simp at h1
            · rename_i hlt
              simp only [Option.some.injEq, Prod.mk.injEq] at he
              obtain ⟨rfl, rfl⟩ := he
              refine .same h (x := .tuple #[.bool false]) ?_ (.tuple _ _ rfl (fun i c u h1 h2 => ?_)) (Cl.nil rfl)
              · simp only [Instr.next, Sem.run_bind, getObj, Sem.run, hb, Result.andThen_ok, hlt, if_false]
                rfl
              · match i with
                | 0 => simp at h1 h2; subst h1; subst h2; exact .one (.bool _)
                | i + 1 => simp at h1
      · cases he
    · cases he
  · cases he

end
end Go.Ab

/- Part Maps. -/
namespace Go.Ab
open Go
set_option linter.unusedSimpArgs false
set_option linter.unusedVariables false

def mapTB (P : Program) (t : Nat) : Bool :=
  match P.underlying t with
  | some (.map k v) => (match P.underlying k with | some (.int _) => true | _ => false) && (match P.info? v with | some i => (match i.zero with | some (.bool false) => true | _ => false) | none => false)
  | _ => false

theorem mapTB_spec {P : Program} {t : Nat} (h : mapTB P t = true) : ∃ k v kk i, P.underlying t = some (.map k v) ∧ P.underlying k = some (.int kk) ∧ P.info? v = some i ∧ i.zero = some (.bool false) := by
  unfold mapTB at h
  split at h
  · rename_i k v hu
    simp only [Bool.and_eq_true] at h
    obtain ⟨h1, h2⟩ := h
    split at h1
    · rename_i kk hk
      split at h2
      · rename_i i hi
        split at h2
        · rename_i hz; exact ⟨k, v, kk, i, hu, hk, hi, hz⟩
        · cases h2
      · cases h2
    · cases h1
  · cases h

def mapIx : List (Int × Bool) → Int → Nat → Option (Nat × Bool)
  | [], _, _ => none
  | (m, c) :: l, n, i => if n = m then some (i, c) else mapIx l n (i + 1)

def Ents (L : List MapEntry) (es : List (Int × Bool)) : Prop := L.map (fun e => (e.key, e.val)) = es.map (fun p => (Value.int .i64 p.1, Value.bool p.2))

theorem mapIx_at (n : Int) : ∀ (es : List (Int × Bool)) (i : Nat), mapAt es n = match mapIx es n i with | some (_, c) => c | none => false
  | [], i => rfl
  | (m, c) :: l, i => by
    by_cases h : n = m
    · simp [mapAt, mapIx, h]
    · simp only [mapAt, mapIx, if_neg h]
      exact mapIx_at n l (i + 1)

theorem find_ents {kk : IntKind} (n : Int) : ∀ (es : List (Int × Bool)) (L : List MapEntry) (i : Nat), Ents L es →
    Instr.findNow (.int kk) (.int .i64 n) L i = some ((mapIx es n i).map fun p => (p.1, Value.bool p.2))
  | [], L, i, h => by
    have : L = [] := by simpa [Ents] using h
    subst this; rfl
  | (m, c) :: l, L, i, h => by
    cases L with
    | nil => simp [Ents] at h
    | cons e L =>
      simp only [Ents, List.map_cons, List.cons.injEq, Prod.mk.injEq] at h
      obtain ⟨⟨h1, h2⟩, h3⟩ := h
      simp only [Instr.findNow, h1, h2, Instr.sameNow, if_true, mapIx]
      by_cases hn : n = m
      · simp [hn]
      · have : (n == m) = false := by simpa using hn
        rw [this, if_neg hn]
        exact find_ents n l L (i + 1) h3

theorem mapPut_some {n : Int} {b : Bool} {g : MapEntry → MapEntry} (hg : ∀ e, (g e).key = .int .i64 n ∧ (g e).val = .bool b) : ∀ (es : List (Int × Bool)) (L : List MapEntry) (i j : Nat) (c : Bool), Ents L es → mapIx es n i = some (j, c) →
    i ≤ j ∧ (∃ e, L[j - i]? = some e ∧ e.key = .int .i64 n) ∧ Ents (L.modify (j - i) g) (mapPut es n b)
  | [], L, i, j, c, h, hj => by simp [mapIx] at hj
  | (m, d) :: l, L, i, j, c, h, hj => by
    cases L with
    | nil => simp [Ents] at h
    | cons e L =>
      simp only [Ents, List.map_cons, List.cons.injEq, Prod.mk.injEq] at h
      obtain ⟨⟨h1, h2⟩, h3⟩ := h
      by_cases hn : n = m
      · simp only [mapIx, if_pos hn, Option.some.injEq, Prod.mk.injEq] at hj
        obtain ⟨rfl, rfl⟩ := hj
        refine ⟨Nat.le_refl _, ⟨e, by simp, by rw [h1, hn]⟩, ?_⟩
        simp only [Nat.sub_self, List.modify_zero_cons, mapPut, if_pos hn, Ents, List.map_cons, List.cons.injEq, Prod.mk.injEq]
        exact ⟨⟨(hg e).1, (hg e).2⟩, h3⟩
      · simp only [mapIx, if_neg hn] at hj
        obtain ⟨k1, ⟨e', k2, k3⟩, k4⟩ := mapPut_some hg l L (i + 1) j c h3 hj
        have ej : j - i = (j - (i + 1)) + 1 := by omega
        refine ⟨by omega, ⟨e', by rw [ej]; simpa using k2, k3⟩, ?_⟩
        rw [ej]
        simp only [List.modify_succ_cons, mapPut, if_neg hn, Ents, List.map_cons, List.cons.injEq, Prod.mk.injEq]
        exact ⟨⟨h1, h2⟩, k4⟩

theorem mapPut_none {n : Int} {b : Bool} {e : MapEntry} (hk : e.key = .int .i64 n) (hv : e.val = .bool b) : ∀ (es : List (Int × Bool)) (L : List MapEntry) (i : Nat), Ents L es → mapIx es n i = none → Ents (L ++ [e]) (mapPut es n b)
  | [], L, i, h, hj => by
    have : L = [] := by simpa [Ents] using h
    subst this
    simp [Ents, mapPut, hk, hv]
  | (m, d) :: l, L, i, h, hj => by
    cases L with
    | nil => simp [Ents] at h
    | cons f L =>
      simp only [Ents, List.map_cons, List.cons.injEq, Prod.mk.injEq] at h
      obtain ⟨⟨h1, h2⟩, h3⟩ := h
      by_cases hn : n = m
      · simp [mapIx, hn] at hj
      · simp only [mapIx, if_neg hn] at hj
        have k := mapPut_none hk hv l L (i + 1) h3 hj
        simp only [mapPut, if_neg hn, Ents, List.cons_append, List.map_cons, List.cons.injEq, Prod.mk.injEq]
        exact ⟨⟨h1, h2⟩, k⟩

section
variable {nt : Nat} {base : World} {pb : List (Nat × Nat)} {G0 : Ghost} {P : Program} {σ : St} {E : Env} {G : Ghost} {a : Act} {w : World}

theorem run_checkKey {w : World} {t m : Nat} {kk : IntKind} {b : Bool} {k : IntKind} {n : Int} (h : P.underlying t = some (.int kk)) : (Instr.checkKey b (m + 1) t (.int k n)).run P w = .ok () w := by
  simp [Instr.checkKey, run_underlying h]

theorem op_mkMap (h : Rel nt base pb G0 σ E G a w) {hh : Hp} {call : CallF} {ρ : Src → PV} {t κ : Nat} (hk : hh κ = σ.H κ) (hpb : ∀ b, (κ, b) ∉ pb)
    {v : PV} {us : List (Nat × Blk)} (he : evOp call ρ hh (.mkMap κ) = some (v, us)) : OpOut nt base pb G0 P σ a (Instr.makeMap t none) w v us := by
  simp only [evOp] at he
  split at he
  · rename_i hn
    simp only [Option.some.injEq, Prod.mk.injEq] at he
    obtain ⟨rfl, rfl⟩ := he
    rw [hk, Option.isNone_iff_eq_none] at hn
    have h' := h.ext (Ext.alloc w (.map #[] 0))
    let E' : Env := ⟨upd E.bx κ w.heap.size, E.ar⟩
    have hE : E'.bx κ = w.heap.size := upd_same _ _ _
    refine ⟨.map (some w.heap.size), w.alloc (.map #[] 0), E', G, ?_, h'.newKey hn (fun κ' e => ⟨upd_ne _ _ e, rfl⟩) ?_ (fun b hb => ?_) (fun cs e => by cases e) hpb, by rw [← hE]; exact .one (.map κ), fun κ' hk' => ?_⟩
    · simp [Instr.makeMap]
    · exact ⟨#[], 0, by rw [hE]; exact heap_alloc_new w _, rfl⟩
    · have hb' : b = w.heap.size := by simp [blkOf, hE] at hb; exact hb.symm
      subst hb'
      exact ⟨h.sz, fun κ' B' hH hbb => by have := h.lt hH hbb; omega⟩
    · simp [refs, refC] at hk'; subst hk'; simp [ups, upd_same]
  · cases he

theorem rep_map {κ : Nat} {x : Value} (h : Rep E G (.map κ) x) : x = .map (some (E.bx κ)) := by
  cases h with | one h => cases h with
    | pure h => cases h
    | map κ => rfl

theorem op_mapGet (h : Rel nt base pb G0 σ E G a w) {hh : Hp} (hle : ∀ κ B, hh κ = some B → σ.H κ = some B) {call : CallF} {ρ : Src → PV} {t : Nat} (ht : mapTB P t = true) {y z : Src} {x u : Value} (hx : Rep E G (ρ y) x) (hu : Rep E G (ρ z) u)
    {v : PV} {us : List (Nat × Blk)} (he : evOp call ρ hh (.mapGet y z) = some (v, us)) : OpOut nt base pb G0 P σ a (Instr.lookup t x u false) w v us := by
  simp only [evOp] at he
  split at he
  · rename_i κ n hy hz
    split at he
    · rename_i es hk
      simp only [Option.some.injEq, Prod.mk.injEq] at he
      obtain ⟨rfl, rfl⟩ := he
      rw [hy] at hx
      rw [hz] at hu
      have e1 := rep_map hx
      have e2 := rep_int hu
      subst e1; subst e2
      obtain ⟨k, vt, kk, i, h1, h2, h3, h4⟩ := mapTB_spec ht
      obtain ⟨arr, clock, hb, hes⟩ := h.hp κ _ (hle _ _ hk)
      have hfind := find_ents (kk := kk) n es arr.toList 0 hes
      refine .same h (x := .bool (mapAt es n)) ?_ R_bool (Cl.nil rfl)
      rw [mapIx_at n es 0]
      have hck := run_checkKey (P := P) (w := w) (b := arr.isEmpty) (m := 9999) (k := .i64) (n := n) h2
      cases hm : mapIx es n 0 with
      | none =>
        rw [hm] at hfind
        simp [Instr.lookup, run_underlying h1, getObj, Sem.run, hb, hck, Instr.findKey, run_underlying h2, hfind, zeroValue, typeInfo, h3, h4]
      | some p =>
        rw [hm] at hfind
        simp [Instr.lookup, run_underlying h1, getObj, Sem.run, hb, hck, Instr.findKey, run_underlying h2, hfind, zeroValue, typeInfo, h3, h4]
    · cases he
  · cases he

theorem op_mapLen (h : Rel nt base pb G0 σ E G a w) {hh : Hp} (hle : ∀ κ B, hh κ = some B → σ.H κ = some B) {call : CallF} {ρ : Src → PV} {t ty : Nat} (ht : mapTB P t = true) {y : Src} {x : Value} (hx : Rep E G (ρ y) x)
    {v : PV} {us : List (Nat × Blk)} (he : evOp call ρ hh (.mapLen y) = some (v, us)) : OpOut nt base pb G0 P σ a (Builtin.len_ #[t] ty #[x]) w v us := by
  simp only [evOp] at he
  split at he
  · rename_i κ hy
    split at he
    · rename_i es hk
      simp only [Option.some.injEq, Prod.mk.injEq] at he
      obtain ⟨rfl, rfl⟩ := he
      rw [hy] at hx
      have e1 := rep_map hx
      subst e1
      obtain ⟨k, vt, kk, i, h1, h2, h3, h4⟩ := mapTB_spec ht
      obtain ⟨arr, clock, hb, hes⟩ := h.hp κ _ (hle _ _ hk)
      have hl : arr.size = es.length := by
        have := congrArg List.length hes
        simpa using this
      refine .same h (x := .int .i64 es.length) ?_ (.one (.pure (.int _ _))) (Cl.nil rfl)
      simp [Builtin.len_, run_underlying h1, getObj, Sem.run, hb, hl, goInt]
    · cases he
  · cases he

theorem op_mapSet (h : Rel nt base pb G0 σ E G a w) {hh : Hp} (hle : ∀ κ B, hh κ = some B → σ.H κ = some B) {call : CallF} {ρ : Src → PV} {t : Nat} (ht : mapTB P t = true) {y z q : Src} {x u s : Value} (hx : Rep E G (ρ y) x) (hu : Rep E G (ρ z) u) (hq : Rep E G (ρ q) s)
    {v : PV} {us : List (Nat × Blk)} (he : evOp call ρ hh (.mapSet y z q) = some (v, us)) :
    v = .never ∧ ∃ w' E' G', (Instr.mapUpdate t x u s).run P w = .ok () w' ∧ Rel nt base pb G0 ⟨σ.T, ups σ.H us⟩ E' G' a w' := by
  simp only [evOp] at he
  split at he
  · rename_i κ n b hy hz hs
    split at he
    · rename_i es hk
      simp only [Option.some.injEq, Prod.mk.injEq] at he
      obtain ⟨rfl, rfl⟩ := he
      refine ⟨rfl, ?_⟩
      rw [hy] at hx
      rw [hz] at hu
      rw [hs] at hq
      have e1 := rep_map hx
      have e2 := rep_int hu
      have e3 := rep_bool hq
      subst e1; subst e2; subst e3
      obtain ⟨k, vt, kk, i, h1, h2, h3, h4⟩ := mapTB_spec ht
      have hH := hle _ _ hk
      obtain ⟨arr, clock, hb, hes⟩ := h.hp κ _ hH
      have hfind := find_ents (kk := kk) n es arr.toList 0 hes
      have hck := run_checkKey (P := P) (w := w) (b := false) (m := 9999) (k := .i64) (n := n) h2
      have hlt := heap_lt hb
      have hgf : GFree G (E.bx κ) := fun z hz => by
        cases hg : G z with
        | none => rfl
        | some u => have := h.hold z u hg; simp [World.cell?, hz, hb] at this
      have fin : ∀ (arr' : Array MapEntry) (clock' : Nat), Ents arr'.toList (mapPut es n b) →
          Rel nt base pb G0 ⟨σ.T, ups σ.H [(κ, .map (mapPut es n b))]⟩ E G a { w with heap := w.heap.setIfInBounds (E.bx κ) (.map arr' clock') } := by
        intro arr' clock' hes'
        have hw' : ∀ b, b ≠ E.bx κ → (w.heap.setIfInBounds (E.bx κ) (.map arr' clock'))[b]? = w.heap[b]? := fun b hb => Array.getElem?_setIfInBounds_ne (Ne.symm hb)
        exact h.setKey hH rfl (fun _ _ => rfl) (.inl rfl) (fun b _ hne => hw' b (fun e => hne (by simp [blkOf, e]))) (by simp) rfl rfl rfl (holds_other h.hold hgf hw') ⟨arr', clock', by simp [hlt], hes'⟩ (fun b hb => .inl hb) (fun cs e => by cases e) (fun cs e => by cases e)
      cases hm : mapIx es n 0 with
      | none =>
        rw [hm] at hfind
        refine ⟨_, E, G, ?_, fin (arr.push { key := .int .i64 n, val := .bool b, born := clock }) (clock + 1) ?_⟩
        · simp [Instr.mapUpdate, run_underlying h1, getObj, Sem.run, hb, hck, Instr.findKey, run_underlying h2, hfind, setObj]
        · rw [Array.toList_push]
          exact mapPut_none rfl rfl es arr.toList 0 hes hm
      | some p =>
        obtain ⟨j, c⟩ := p
        rw [hm] at hfind
        obtain ⟨k1, ⟨e, k2, k3⟩, k4⟩ := mapPut_some (b := b) (g := fun e => { e with key := .int .i64 n, val := .bool b }) (fun e => ⟨rfl, rfl⟩) es arr.toList 0 j c hes hm
        have hj : arr[j]? = some e := by simpa using k2
        refine ⟨_, E, G, ?_, fin (arr.modify j fun e => { e with key := .int .i64 n, val := .bool b }) clock ?_⟩
        · simp [Instr.mapUpdate, run_underlying h1, getObj, Sem.run, hb, hck, Instr.findKey, run_underlying h2, hfind, setObj, Instr.keyThatStays, Instr.sameBits, hj, k3]
        · simpa using k4
    · cases he
  · cases he

end
end Go.Ab
