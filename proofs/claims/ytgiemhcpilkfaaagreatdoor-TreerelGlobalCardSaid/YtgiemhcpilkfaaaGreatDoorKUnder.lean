/- A token and what is below it. -/
import Derived.Test.YtgiemhcpilkfaaaGreatDoorKIn

namespace Go.Ab.Prog
open Go Go.Ab
set_option linter.unusedSimpArgs false
set_option maxHeartbeats 4000000

theorem upF_len (c : Corp) : ∀ (f : Nat) (h : Int), (upF c f h).length ≤ f
  | 0, _ => by simp [upF]
  | f + 1, h => by
    unfold upF
    split
    · have := upF_len c f (hd c h.toNat); simp; omega
    · simp
theorem up_len (c : Corp) (i : Int) : (up c i).length ≤ c.toks.length := by
  unfold up; split
  · exact upF_len _ _ _
  · simp

def isUnder (c : Corp) (i : Int) (k : Nat) : Bool := decide ((k : Int) = i) || has (up c k) i
def under (c : Corp) (i : Int) : List Nat := if isTok c i then (List.range c.toks.length).filter (isUnder c i) else []

theorem under_loop (c : Corp) (hn : c.toks.length ≤ 100) (i : Int) : ∀ (m k : Nat) (out : List Nat), k + m = c.toks.length → out = (List.range k).filter (isUnder c i) →
    ∃ out' : List Nat, out' = (List.range c.toks.length).filter (isUnder c i) ∧
    evV prog ic44_0 ⟨tm [(1, I i), (2, .ptr 101 0), (5, .arr 100 out.length 0 out.length), (13, I c.toks.length), (14, I k)], hp [(100, some (.arr 1 (out.map IN) false)), (101, some (.box c.cells))]⟩
      = some (.exit 0, ⟨tm [(5, .arr 100 out'.length 0 out'.length)], hp [(100, some (.arr 1 (out'.map IN) false))]⟩) := by
  intro m
  induction m with
  | zero =>
    intro k out hk ho
    have : k = c.toks.length := by omega
    refine ⟨out, by rw [ho, this], ?_⟩
    have : ¬ k < c.toks.length := by omega
    rw [ic44_0_eq]
    simp [ic44_0_b, this, Corp.cells]
  | succ m ih =>
    intro k out hk ho
    have hlt : k < c.toks.length := by omega
    have hol : out.length ≤ k := by rw [ho]; exact filter_len
    have m1 : (out.length + 1) * 8 ≤ room := by unfold room; omega
    have m2 : out.length + 1 ≤ room := by unfold room; omega
    have hw : IntKind.i64.wrap ((k : Int) + 1) = k + 1 := wrap64 (by omega) (by omega)
    have hh := up_spec c hn k
    have hin := contains_spec (up c k) i (by have := up_len c k; omega)
    by_cases he : (k : Int) = i
    · subst he
      obtain ⟨out', h1, h2⟩ := ih (k + 1) (out ++ [k]) (by omega) (by rw [filter_succ, ← ho]; simp [isUnder])
      refine ⟨out', h1, ?_⟩
      rw [ic44_0_eq]
      simp [Corp.cells] at hh h2
      simp [ic44_0_b, hlt, Corp.cells, m1, m2, hw]
      simpa using h2
    · cases hp : has (up c k) i
      · obtain ⟨out', h1, h2⟩ := ih (k + 1) out (by omega) (by rw [filter_succ, ← ho]; simp [isUnder, he, hp])
        refine ⟨out', h1, ?_⟩
        rw [ic44_0_eq]
        simp [Corp.cells] at hh h2
        simp [ic44_0_b, hlt, Corp.cells, hh, hin, he, hp, hw]
        simpa using h2
      · obtain ⟨out', h1, h2⟩ := ih (k + 1) (out ++ [k]) (by omega) (by rw [filter_succ, ← ho]; simp [isUnder, he, hp])
        refine ⟨out', h1, ?_⟩
        rw [ic44_0_eq]
        simp [Corp.cells] at hh h2
        simp [ic44_0_b, hlt, Corp.cells, hh, hin, he, hp, m1, m2, hw]
        simpa using h2

theorem under_spec (c : Corp) (hn : c.toks.length ≤ 100) (i : Int) : callV prog 44 [.agg c.cells, I i] = some (.list ((under c i).map IN), []) := by
  refine callV_fn (body := ic44) rfl rfl ?_
  have ht := token_spec c i
  cases h1 : isTok c i
  · rw [h1] at ht
    simp [Corp.cells] at ht
    simp [ic44, Corp.cells, under, h1, ht]
  · rw [h1] at ht
    obtain ⟨out, ho, hl⟩ := under_loop c hn i c.toks.length 0 [] (by omega) rfl
    simp [Corp.cells] at ht hl
    simp [ic44, Corp.cells, under, h1, ht, hl, ho]

end Go.Ab.Prog
