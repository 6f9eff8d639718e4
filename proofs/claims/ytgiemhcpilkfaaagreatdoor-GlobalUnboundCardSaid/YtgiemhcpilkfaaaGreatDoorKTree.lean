/- Tokens and heads of a corpus. And what follows from it, part by part. -/
import Derived.Test.YtgiemhcpilkfaaaGreatDoorKSpec1
import Derived.KernelRfl

/- Part Tree. -/
namespace Go.Ab.Prog
open Go Go.Ab
set_option linter.unusedSimpArgs false
set_option maxHeartbeats 4000000

def isTok (c : Corp) (i : Int) : Bool := decide (0 ≤ i ∧ i < c.toks.length)

@[simp] theorem token_spec (c : Corp) (i : Int) : callV prog 39 [.agg c.cells, I i] = some (.bool (isTok c i), []) := by
  refine callV_fn (body := ic39) rfl rfl ?_
  by_cases h0 : 0 ≤ i
  · simp [ic39, Corp.cells, isTok, h0]
  · simp [ic39, Corp.cells, isTok, h0]

def hd (c : Corp) (i : Nat) : Int := match c.heads[i]? with
  | some h => if isTok c h then h else -1
  | none => -1

@[simp] theorem head_spec (c : Corp) (i : Nat) : callV prog 40 [.agg c.cells, I i] = some (I (hd c i), []) := by
  refine callV_fn (body := ic40) rfl rfl ?_
  by_cases h0 : i < c.heads.length
  · have e : c.heads[i]? = some c.heads[i] := List.getElem?_eq_getElem _
    have ht := token_spec c c.heads[i]
    cases h1 : isTok c c.heads[i]
    · rw [h1] at ht
      simp [Corp.cells] at ht
      simp [ic40, Corp.cells, hd, h0, e, ht, h1]
    · rw [h1] at ht
      simp [Corp.cells] at ht
      simp [ic40, Corp.cells, hd, h0, e, ht, h1]
  · have e : c.heads[i]? = none := List.getElem?_eq_none (by omega)
    simp [ic40, Corp.cells, hd, h0, e]

def rhd (c : Corp) (i : Nat) : Int × ByteArray := if c.heads.length = 0 then (-1, ⟨#[]⟩) else (c.heads[i]?.getD 0, c.rels[i]?.getD ⟨#[]⟩)

end Go.Ab.Prog

/- Part Up. -/
namespace Go.Ab.Prog
open Go Go.Ab
set_option linter.unusedSimpArgs false
set_option maxHeartbeats 4000000

def upF (c : Corp) : Nat → Int → List Nat
  | 0, _ => []
  | f + 1, h => if 0 ≤ h then h.toNat :: upF c f (hd c h.toNat) else []

theorem up_loop (c : Corp) (hn : c.toks.length ≤ 100) : ∀ (f : Nat) (h : Int) (out : List Nat), out.length + f = c.toks.length →
    evV prog ic21_0 ⟨tm [(1, I h), (2, .ptr 101 0), (5, .arr 100 out.length 0 out.length)], hp [(100, some (.arr 1 (out.map IN) false)), (101, some (.box c.cells))]⟩
      = some (.exit 0, ⟨tm [(5, .arr 100 (out ++ upF c f h).length 0 (out ++ upF c f h).length)], hp [(100, some (.arr 1 ((out ++ upF c f h).map IN) false))]⟩) := by
  intro f
  induction f with
  | zero =>
    intro h out hl
    have h1 : ¬ out.length < c.toks.length := by omega
    rw [ic21_0_eq]
    by_cases h0 : 0 ≤ h
    · simp [ic21_0_b, Corp.cells, upF, h0, h1]
    · simp [ic21_0_b, Corp.cells, upF, h0]
  | succ f ih =>
    intro h out hl
    have h1 : out.length < c.toks.length := by omega
    rw [ic21_0_eq]
    by_cases h0 : 0 ≤ h
    · obtain ⟨i, rfl⟩ := Int.eq_ofNat_of_zero_le h0
      have m1 : (out.length + 1) * 8 ≤ room := by unfold room; omega
      have m2 : out.length + 1 ≤ room := by unfold room; omega
      have hh := head_spec c i
      have hi := ih (hd c i) (out ++ [i]) (by simp; omega)
      simp [Corp.cells] at hh hi
      simp [ic21_0_b, Corp.cells, upF, h1, m1, m2, hh]
      simpa [Nat.add_assoc, Nat.add_comm, Nat.add_left_comm] using hi
    · simp [ic21_0_b, Corp.cells, upF, h0]

def up (c : Corp) (i : Int) : List Nat := if isTok c i then upF c c.toks.length (hd c i.toNat) else []

theorem up_spec (c : Corp) (hn : c.toks.length ≤ 100) (i : Int) : callV prog 21 [.agg c.cells, I i] = some (.list ((up c i).map IN), []) := by
  refine callV_fn (body := ic21) rfl rfl ?_
  have ht := token_spec c i
  cases h1 : isTok c i
  · rw [h1] at ht
    simp [Corp.cells] at ht
    simp [ic21, Corp.cells, up, h1, ht]
  · have h0 : 0 ≤ i := by simp [isTok] at h1; omega
    rw [h1] at ht
    obtain ⟨k, rfl⟩ := Int.eq_ofNat_of_zero_le h0
    have hh := head_spec c k
    have hl := up_loop c hn c.toks.length (hd c k) [] (by simp)
    simp [Corp.cells] at ht hh hl
    simp [ic21, Corp.cells, up, h1, ht, hh, hl]

end Go.Ab.Prog

/- Part RUp. -/
namespace Go.Ab.Prog
open Go Go.Ab
set_option linter.unusedSimpArgs false
set_option maxHeartbeats 4000000

/-- Heads and relations of a corpus: none, or one each for every token, and no way leads round. -/
structure HeadsOk (c : Corp) (rk : Nat → Nat) : Prop where
  len : (c.heads = [] ∧ c.rels = []) ∨ (c.heads.length = c.toks.length ∧ c.rels.length = c.toks.length)
  rk : ∀ i h, c.heads[i]? = some h → rk i < c.toks.length ∧ (h = -1 ∨ ∃ j : Nat, h = (j : Int) ∧ j < c.toks.length ∧ rk j < rk i)

theorem HeadsOk.look {c : Corp} {rk : Nat → Nat} (h : HeadsOk c rk) {i : Nat} (hi : i < c.toks.length) : c.heads.length = 0 ∨ (i < c.heads.length ∧ i < c.rels.length) := by
  rcases h.len with ⟨h1, _⟩ | ⟨h1, h2⟩
  · left; simp [h1]
  · right; omega

theorem HeadsOk.hd {c : Corp} {rk : Nat → Nat} (h : HeadsOk c rk) {i : Nat} (hi : i < c.toks.length) : (rhd c i).1 = hd c i := by
  unfold rhd Prog.hd
  rcases h.len with ⟨h1, _⟩ | ⟨h1, h2⟩
  · simp [h1]
  · have h3 : ¬ c.heads.length = 0 := by omega
    have h4 : i < c.heads.length := by omega
    have e : c.heads[i]? = some c.heads[i] := List.getElem?_eq_getElem _
    rw [if_neg h3, e]
    rcases (h.rk i _ e).2 with h5 | ⟨j, h5, h6, _⟩
    · rw [h5]; simp [isTok]
    · rw [h5]; simp [isTok, h6]

theorem HeadsOk.next {c : Corp} {rk : Nat → Nat} (h : HeadsOk c rk) {i : Nat} (hi : i < c.toks.length) : Prog.hd c i = -1 ∨ ∃ j : Nat, Prog.hd c i = (j : Int) ∧ j < c.toks.length ∧ rk j < rk i := by
  unfold Prog.hd
  cases e : c.heads[i]? with
  | none => simp
  | some v =>
    rcases (h.rk i _ e).2 with h5 | ⟨j, h5, h6, h7⟩
    · left; rw [h5]; simp [isTok]
    · right; exact ⟨j, by simp [h5, isTok, h6], h6, h7⟩

end Go.Ab.Prog

/- Part Ints. -/
namespace Go.Ab.Prog
open Go Go.Ab
set_option linter.unusedSimpArgs false
set_option maxHeartbeats 4000000

theorem ints_loop (l : List Nat) (hl : l.length ≤ 1000) : ∀ (m i : Nat), i + m = l.length →
    evV prog ic42_0 ⟨tm [(0, .list (l.map IN)), (1, .list (l.map IN)), (12, I l.length), (13, I i)], hp []⟩ = some (.exit 0, ⟨tm [], hp []⟩) := by
  intro m
  induction m with
  | zero =>
    intro i hi
    have : ¬ i < l.length := by omega
    rw [ic42_0_eq]
    simp [ic42_0_b, this]
  | succ m ih =>
    intro i hi
    have hlt : i < l.length := by omega
    have e : l[i]? = some l[i] := List.getElem?_eq_getElem _
    have hw : IntKind.i64.wrap ((i : Int) + 1) = i + 1 := wrap64 (by omega) (by omega)
    have hi' := ih (i + 1) (by omega)
    rw [ic42_0_eq]
    simp [ic42_0_b, hlt, e, hw]
    simpa using hi'

theorem ints_same (l : List Nat) (hl : l.length ≤ 1000) : callV prog 42 [.list (l.map IN), .list (l.map IN)] = some (.bool true, []) := by
  refine callV_fn (body := ic42) rfl rfl ?_
  have h := ints_loop l hl l.length 0 (by omega)
  simp at h
  simp [ic42, h]

def down (c : Corp) (i : Int) : List Nat := if isTok c i then (List.range c.toks.length).filter (fun k => decide (hd c k = i)) else []

theorem filter_succ {p : Nat → Bool} {k : Nat} : (List.range (k + 1)).filter p = (List.range k).filter p ++ if p k then [k] else [] := by
  rw [List.range_succ, List.filter_append]
  simp only [List.filter_cons, List.filter_nil]

theorem filter_len {p : Nat → Bool} {k : Nat} : ((List.range k).filter p).length ≤ k := by
  have := List.length_filter_le p (List.range k)
  simpa using this

theorem down_loop (c : Corp) (hn : c.toks.length ≤ 100) (i : Int) : ∀ (m k : Nat) (out : List Nat), k + m = c.toks.length → out = (List.range k).filter (fun k => decide (hd c k = i)) →
    ∃ out' : List Nat, out' = (List.range c.toks.length).filter (fun k => decide (hd c k = i)) ∧
    evV prog ic43_0 ⟨tm [(1, I i), (2, .ptr 101 0), (5, .arr 100 out.length 0 out.length), (13, I c.toks.length), (14, I k)], hp [(100, some (.arr 1 (out.map IN) false)), (101, some (.box c.cells))]⟩
      = some (.exit 0, ⟨tm [(5, .arr 100 out'.length 0 out'.length)], hp [(100, some (.arr 1 (out'.map IN) false))]⟩) := by
  intro m
  induction m with
  | zero =>
    intro k out hk ho
    have : k = c.toks.length := by omega
    refine ⟨out, by rw [ho, this], ?_⟩
    have : ¬ k < c.toks.length := by omega
    rw [ic43_0_eq]
    simp [ic43_0_b, this, Corp.cells]
  | succ m ih =>
    intro k out hk ho
    have hlt : k < c.toks.length := by omega
    have hol : out.length ≤ k := by rw [ho]; exact filter_len
    have m1 : (out.length + 1) * 8 ≤ room := by unfold room; omega
    have m2 : out.length + 1 ≤ room := by unfold room; omega
    have hw : IntKind.i64.wrap ((k : Int) + 1) = k + 1 := wrap64 (by omega) (by omega)
    have hh := head_spec c k
    by_cases hp : hd c k = i
    · obtain ⟨out', h1, h2⟩ := ih (k + 1) (out ++ [k]) (by omega) (by rw [filter_succ, ← ho]; simp [hp])
      refine ⟨out', h1, ?_⟩
      rw [ic43_0_eq]
      simp [Corp.cells] at hh h2
      simp [ic43_0_b, hlt, Corp.cells, hh, hp, m1, m2, hw]
      simpa using h2
    · obtain ⟨out', h1, h2⟩ := ih (k + 1) out (by omega) (by rw [filter_succ, ← ho]; simp [hp])
      refine ⟨out', h1, ?_⟩
      rw [ic43_0_eq]
      simp [Corp.cells] at hh h2
      simp [ic43_0_b, hlt, Corp.cells, hh, hp, hw]
      simpa using h2

theorem down_spec (c : Corp) (hn : c.toks.length ≤ 100) (i : Int) : callV prog 43 [.agg c.cells, I i] = some (.list ((down c i).map IN), []) := by
  refine callV_fn (body := ic43) rfl rfl ?_
  have ht := token_spec c i
  cases h1 : isTok c i
  · rw [h1] at ht
    simp [Corp.cells] at ht
    simp [ic43, Corp.cells, down, h1, ht]
  · rw [h1] at ht
    obtain ⟨out, ho, hl⟩ := down_loop c hn i c.toks.length 0 [] (by omega) rfl
    simp [Corp.cells] at ht hl
    simp [ic43, Corp.cells, down, h1, ht, hl, ho]

end Go.Ab.Prog

/- Part RDown. -/
namespace Go.Ab.Prog
open Go Go.Ab
set_option linter.unusedSimpArgs false
set_option maxHeartbeats 4000000

end Go.Ab.Prog

/- Part In. -/
namespace Go.Ab.Prog
open Go Go.Ab
set_option linter.unusedSimpArgs false
set_option maxHeartbeats 4000000

def has (l : List Nat) (x : Int) : Bool := l.any (fun y => decide (x = (y : Int)))

theorem idx_loop (l : List Nat) (x : Int) (hl : l.length ≤ 1000) : ∀ (m i : Nat), i + m = l.length →
    (has (l.drop i) x = false ∧ evV prog ic110_0 ⟨tm [(0, .list (l.map IN)), (1, I x), (7, I l.length), (8, I i)], hp []⟩ = some (.exit 0, ⟨tm [], hp []⟩)) ∨
    (has (l.drop i) x = true ∧ ∃ j : Nat, evV prog ic110_0 ⟨tm [(0, .list (l.map IN)), (1, I x), (7, I l.length), (8, I i)], hp []⟩ = some (.ret, ⟨tm [(4, I j)], hp []⟩)) := by
  intro m
  induction m with
  | zero =>
    intro i hi
    have h1 : ¬ i < l.length := by omega
    have h2 : l.drop i = [] := List.drop_eq_nil_of_le (by omega)
    left
    refine ⟨by simp [h2, has], ?_⟩
    rw [ic110_0_eq]
    simp [ic110_0_b, h1]
  | succ m ih =>
    intro i hi
    have hlt : i < l.length := by omega
    have hw : IntKind.i64.wrap ((i : Int) + 1) = i + 1 := wrap64 (by omega) (by omega)
    have hd : has (l.drop i) x = (decide (x = ((l[i] : Nat) : Int)) || has (l.drop (i + 1)) x) := by rw [List.drop_eq_getElem_cons hlt]; rfl
    by_cases hx : x = ((l[i] : Nat) : Int)
    · right
      refine ⟨by rw [hd]; simp [hx], i, ?_⟩
      rw [ic110_0_eq]
      simp [ic110_0_b, hlt, ← hx]
    · have step : ∀ r, evV prog ic110_0 ⟨tm [(0, .list (l.map IN)), (1, I x), (7, I l.length), (8, I (i + 1 : Nat))], hp []⟩ = r → evV prog ic110_0 ⟨tm [(0, .list (l.map IN)), (1, I x), (7, I l.length), (8, I i)], hp []⟩ = r := fun r hr => by
        rw [ic110_0_eq]
        simp [ic110_0_b, hlt, hw, hx]
        simpa using hr
      rcases ih (i + 1) (by omega) with ⟨h1, h2⟩ | ⟨h1, j, h2⟩
      · left; exact ⟨by rw [hd]; simp [hx, h1], step _ h2⟩
      · right; exact ⟨by rw [hd]; simp [h1], j, step _ h2⟩

theorem idx_spec (l : List Nat) (x : Int) (hl : l.length ≤ 1000) : ∃ j : Int, callV prog 110 [.list (l.map IN), I x] = some (I j, []) ∧ decide (0 ≤ j) = has l x := by
  rcases idx_loop l x hl l.length 0 (by omega) with ⟨h1, h2⟩ | ⟨h1, j, h2⟩
  · refine ⟨-1, callV_fn (body := ic110) rfl rfl ?_, by simp at h1; simp [h1]⟩
    simp at h2
    simp [ic110, h2]
  · refine ⟨j, callV_fn (body := ic110) rfl rfl ?_, by simp at h1; simp [h1]⟩
    simp at h2
    simp [ic110, h2]

theorem contains_spec (l : List Nat) (x : Int) (hl : l.length ≤ 1000) : callV prog 84 [.list (l.map IN), I x] = some (.bool (has l x), []) := by
  obtain ⟨j, h1, h2⟩ := idx_spec l x hl
  refine callV_fn (body := ic84) rfl rfl ?_
  simp [ic84, h1, h2]

end Go.Ab.Prog

/- Part Under. -/
namespace Go.Ab.Prog
open Go Go.Ab
set_option linter.unusedSimpArgs false
set_option maxHeartbeats 4000000

theorem upF_len (c : Corp) : ∀ (f : Nat) (h : Int), (upF c f h).length ≤ f
  | 0, _ => by simp [upF]
  | f + 1, h => by
    unfold upF
    split
    · have := upF_len c f (hd c h.toNat); simp; omega
    · simp
theorem up_len (c : Corp) (i : Int) : (up c i).length ≤ c.toks.length := by
  unfold up; split
  · exact upF_len _ _ _
  · simp

def isUnder (c : Corp) (i : Int) (k : Nat) : Bool := decide ((k : Int) = i) || has (up c k) i
def under (c : Corp) (i : Int) : List Nat := if isTok c i then (List.range c.toks.length).filter (isUnder c i) else []

theorem under_loop (c : Corp) (hn : c.toks.length ≤ 100) (i : Int) : ∀ (m k : Nat) (out : List Nat), k + m = c.toks.length → out = (List.range k).filter (isUnder c i) →
    ∃ out' : List Nat, out' = (List.range c.toks.length).filter (isUnder c i) ∧
    evV prog ic44_0 ⟨tm [(1, I i), (2, .ptr 101 0), (5, .arr 100 out.length 0 out.length), (13, I c.toks.length), (14, I k)], hp [(100, some (.arr 1 (out.map IN) false)), (101, some (.box c.cells))]⟩
      = some (.exit 0, ⟨tm [(5, .arr 100 out'.length 0 out'.length)], hp [(100, some (.arr 1 (out'.map IN) false))]⟩) := by
  intro m
  induction m with
  | zero =>
    intro k out hk ho
    have : k = c.toks.length := by omega
    refine ⟨out, by rw [ho, this], ?_⟩
    have : ¬ k < c.toks.length := by omega
    rw [ic44_0_eq]
    simp [ic44_0_b, this, Corp.cells]
  | succ m ih =>
    intro k out hk ho
    have hlt : k < c.toks.length := by omega
    have hol : out.length ≤ k := by rw [ho]; exact filter_len
    have m1 : (out.length + 1) * 8 ≤ room := by unfold room; omega
    have m2 : out.length + 1 ≤ room := by unfold room; omega
    have hw : IntKind.i64.wrap ((k : Int) + 1) = k + 1 := wrap64 (by omega) (by omega)
    have hh := up_spec c hn k
    have hin := contains_spec (up c k) i (by have := up_len c k; omega)
    by_cases he : (k : Int) = i
    · subst he
      obtain ⟨out', h1, h2⟩ := ih (k + 1) (out ++ [k]) (by omega) (by rw [filter_succ, ← ho]; simp [isUnder])
      refine ⟨out', h1, ?_⟩
      rw [ic44_0_eq]
      simp [Corp.cells] at hh h2
      simp [ic44_0_b, hlt, Corp.cells, m1, m2, hw]
      simpa using h2
    · cases hp : has (up c k) i
      · obtain ⟨out', h1, h2⟩ := ih (k + 1) out (by omega) (by rw [filter_succ, ← ho]; simp [isUnder, he, hp])
        refine ⟨out', h1, ?_⟩
        rw [ic44_0_eq]
        simp [Corp.cells] at hh h2
        simp [ic44_0_b, hlt, Corp.cells, hh, hin, he, hp, hw]
        simpa using h2
      · obtain ⟨out', h1, h2⟩ := ih (k + 1) (out ++ [k]) (by omega) (by rw [filter_succ, ← ho]; simp [isUnder, he, hp])
        refine ⟨out', h1, ?_⟩
        rw [ic44_0_eq]
        simp [Corp.cells] at hh h2
        simp [ic44_0_b, hlt, Corp.cells, hh, hin, he, hp, m1, m2, hw]
        simpa using h2

theorem under_spec (c : Corp) (hn : c.toks.length ≤ 100) (i : Int) : callV prog 44 [.agg c.cells, I i] = some (.list ((under c i).map IN), []) := by
  refine callV_fn (body := ic44) rfl rfl ?_
  have ht := token_spec c i
  cases h1 : isTok c i
  · rw [h1] at ht
    simp [Corp.cells] at ht
    simp [ic44, Corp.cells, under, h1, ht]
  · rw [h1] at ht
    obtain ⟨out, ho, hl⟩ := under_loop c hn i c.toks.length 0 [] (by omega) rfl
    simp [Corp.cells] at ht hl
    simp [ic44, Corp.cells, under, h1, ht, hl, ho]

end Go.Ab.Prog

/- Part Known. -/
namespace Go.Ab.Prog
open Go Go.Ab

theorem known_run : callN prog 40 24 [] = some (.bool true, []) := by kernel_rfl
theorem known_spec : callV prog 24 [] = some (.bool true, []) := callV_iff.2 ⟨40, known_run⟩

end Go.Ab.Prog
