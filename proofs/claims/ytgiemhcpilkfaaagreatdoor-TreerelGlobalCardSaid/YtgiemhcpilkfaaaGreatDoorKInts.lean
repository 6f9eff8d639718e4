/- Lists of numbers compared, and the lists of tokens that are picked out. -/
import Derived.Test.YtgiemhcpilkfaaaGreatDoorKRUp

namespace Go.Ab.Prog
open Go Go.Ab
set_option linter.unusedSimpArgs false
set_option maxHeartbeats 4000000

theorem ints_loop (l : List Nat) (hl : l.length ≤ 1000) : ∀ (m i : Nat), i + m = l.length →
    evV prog ic42_0 ⟨tm [(0, .list (l.map IN)), (1, .list (l.map IN)), (12, I l.length), (13, I i)], hp []⟩ = some (.exit 0, ⟨tm [], hp []⟩) := by
  intro m
  induction m with
  | zero =>
    intro i hi
    have : ¬ i < l.length := by omega
    rw [ic42_0_eq]
    simp [ic42_0_b, this]
  | succ m ih =>
    intro i hi
    have hlt : i < l.length := by omega
    have e : l[i]? = some l[i] := List.getElem?_eq_getElem _
    have hw : IntKind.i64.wrap ((i : Int) + 1) = i + 1 := wrap64 (by omega) (by omega)
    have hi' := ih (i + 1) (by omega)
    rw [ic42_0_eq]
    simp [ic42_0_b, hlt, e, hw]
    simpa using hi'

theorem ints_same (l : List Nat) (hl : l.length ≤ 1000) : callV prog 42 [.list (l.map IN), .list (l.map IN)] = some (.bool true, []) := by
  refine callV_fn (body := ic42) rfl rfl ?_
  have h := ints_loop l hl l.length 0 (by omega)
  simp at h
  simp [ic42, h]

def down (c : Corp) (i : Int) : List Nat := if isTok c i then (List.range c.toks.length).filter (fun k => decide (hd c k = i)) else []

theorem filter_succ {p : Nat → Bool} {k : Nat} : (List.range (k + 1)).filter p = (List.range k).filter p ++ if p k then [k] else [] := by
  rw [List.range_succ, List.filter_append]
  simp only [List.filter_cons, List.filter_nil]

theorem filter_len {p : Nat → Bool} {k : Nat} : ((List.range k).filter p).length ≤ k := by
  have := List.length_filter_le p (List.range k)
  simpa using this

theorem down_loop (c : Corp) (hn : c.toks.length ≤ 100) (i : Int) : ∀ (m k : Nat) (out : List Nat), k + m = c.toks.length → out = (List.range k).filter (fun k => decide (hd c k = i)) →
    ∃ out' : List Nat, out' = (List.range c.toks.length).filter (fun k => decide (hd c k = i)) ∧
    evV prog ic43_0 ⟨tm [(1, I i), (2, .ptr 101 0), (5, .arr 100 out.length 0 out.length), (13, I c.toks.length), (14, I k)], hp [(100, some (.arr 1 (out.map IN) false)), (101, some (.box c.cells))]⟩
      = some (.exit 0, ⟨tm [(5, .arr 100 out'.length 0 out'.length)], hp [(100, some (.arr 1 (out'.map IN) false))]⟩) := by
  intro m
  induction m with
  | zero =>
    intro k out hk ho
    have : k = c.toks.length := by omega
    refine ⟨out, by rw [ho, this], ?_⟩
    have : ¬ k < c.toks.length := by omega
    rw [ic43_0_eq]
    simp [ic43_0_b, this, Corp.cells]
  | succ m ih =>
    intro k out hk ho
    have hlt : k < c.toks.length := by omega
    have hol : out.length ≤ k := by rw [ho]; exact filter_len
    have m1 : (out.length + 1) * 8 ≤ room := by unfold room; omega
    have m2 : out.length + 1 ≤ room := by unfold room; omega
    have hw : IntKind.i64.wrap ((k : Int) + 1) = k + 1 := wrap64 (by omega) (by omega)
    have hh := head_spec c k
    by_cases hp : hd c k = i
    · obtain ⟨out', h1, h2⟩ := ih (k + 1) (out ++ [k]) (by omega) (by rw [filter_succ, ← ho]; simp [hp])
      refine ⟨out', h1, ?_⟩
      rw [ic43_0_eq]
      simp [Corp.cells] at hh h2
      simp [ic43_0_b, hlt, Corp.cells, hh, hp, m1, m2, hw]
      simpa using h2
    · obtain ⟨out', h1, h2⟩ := ih (k + 1) out (by omega) (by rw [filter_succ, ← ho]; simp [hp])
      refine ⟨out', h1, ?_⟩
      rw [ic43_0_eq]
      simp [Corp.cells] at hh h2
      simp [ic43_0_b, hlt, Corp.cells, hh, hp, hw]
      simpa using h2

theorem down_spec (c : Corp) (hn : c.toks.length ≤ 100) (i : Int) : callV prog 43 [.agg c.cells, I i] = some (.list ((down c i).map IN), []) := by
  refine callV_fn (body := ic43) rfl rfl ?_
  have ht := token_spec c i
  cases h1 : isTok c i
  · rw [h1] at ht
    simp [Corp.cells] at ht
    simp [ic43, Corp.cells, down, h1, ht]
  · rw [h1] at ht
    obtain ⟨out, ho, hl⟩ := down_loop c hn i c.toks.length 0 [] (by omega) rfl
    simp [Corp.cells] at ht hl
    simp [ic43, Corp.cells, down, h1, ht, hl, ho]

end Go.Ab.Prog
