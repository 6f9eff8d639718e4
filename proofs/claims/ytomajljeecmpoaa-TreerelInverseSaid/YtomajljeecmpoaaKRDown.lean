/- The tokens below a token, as the reference finds them. -/
import Derived.Test.YtomajljeecmpoaaKInts

namespace Go.Ab.Prog
open Go Go.Ab
set_option linter.unusedSimpArgs false
set_option maxHeartbeats 4000000

theorem rdown_loop {c : Corp} {rk : Nat → Nat} (hc : HeadsOk c rk) (hn : c.toks.length ≤ 100) (i : Int) : ∀ (m k : Nat) (out : List Nat), k + m = c.toks.length → out = (List.range k).filter (fun k => decide (hd c k = i)) →
    ∃ out' : List Nat, out' = (List.range c.toks.length).filter (fun k => decide (hd c k = i)) ∧
    evV prog ic18_0 ⟨tm [(1, I i), (2, .ptr 101 0), (5, .arr 100 out.length 0 out.length), (15, I c.toks.length), (16, I k)], hp [(100, some (.arr 1 (out.map IN) false)), (101, some (.box c.cells))]⟩
      = some (.exit 0, ⟨tm [(5, .arr 100 out'.length 0 out'.length)], hp [(100, some (.arr 1 (out'.map IN) false))]⟩) := by
  intro m
  induction m with
  | zero =>
    intro k out hk ho
    have : k = c.toks.length := by omega
    refine ⟨out, by rw [ho, this], ?_⟩
    have : ¬ k < c.toks.length := by omega
    rw [ic18_0_eq]
    simp [ic18_0_b, this, Corp.cells]
  | succ m ih =>
    intro k out hk ho
    have hlt : k < c.toks.length := by omega
    have hol : out.length ≤ k := by rw [ho]; exact filter_len
    have m1 : (out.length + 1) * 8 ≤ room := by unfold room; omega
    have m2 : out.length + 1 ≤ room := by unfold room; omega
    have hw : IntKind.i64.wrap ((k : Int) + 1) = k + 1 := wrap64 (by omega) (by omega)
    have hh := rhead_spec c k (hc.look hlt)
    rw [hc.hd hlt] at hh
    by_cases hp : hd c k = i
    · obtain ⟨out', h1, h2⟩ := ih (k + 1) (out ++ [k]) (by omega) (by rw [filter_succ, ← ho]; simp [hp])
      refine ⟨out', h1, ?_⟩
      rw [ic18_0_eq]
      simp [Corp.cells] at hh h2
      simp [ic18_0_b, hlt, Corp.cells, hh, hp, m1, m2, hw]
      simpa using h2
    · obtain ⟨out', h1, h2⟩ := ih (k + 1) out (by omega) (by rw [filter_succ, ← ho]; simp [hp])
      refine ⟨out', h1, ?_⟩
      rw [ic18_0_eq]
      simp [Corp.cells] at hh h2
      simp [ic18_0_b, hlt, Corp.cells, hh, hp, hw]
      simpa using h2

theorem rdown_spec {c : Corp} {rk : Nat → Nat} (hc : HeadsOk c rk) (hn : c.toks.length ≤ 100) (i : Int) : callV prog 18 [.agg c.cells, I i] = some (.list ((down c i).map IN), []) := by
  refine callV_fn (body := ic18) rfl rfl ?_
  have ht := rtoken_spec c i
  cases h1 : isTok c i
  · rw [h1] at ht
    simp [Corp.cells] at ht
    simp [ic18, Corp.cells, down, h1, ht]
  · rw [h1] at ht
    obtain ⟨out, ho, hl⟩ := rdown_loop hc hn i c.toks.length 0 [] (by omega) rfl
    simp [Corp.cells] at ht hl
    simp [ic18, Corp.cells, down, h1, ht, hl, ho]

end Go.Ab.Prog
