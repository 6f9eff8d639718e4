/- TreerelHeads answers true, whatever the tape. -/
import Derived.Test.YtomajljeecmpoaaKConF

namespace Go.Ab.Prog
open Go Go.Ab
set_option linter.unusedSimpArgs false
set_option linter.unusedVariables false
set_option maxHeartbeats 8000000

theorem small_take (l : List Int) : small (l.take 120) := by unfold small; simp; omega

theorem has_len {p : Nat → Bool} (k : Nat) : ((List.range k).filter p).length ≤ k := by
  have := List.length_filter_le p (List.range k)
  simpa using this

theorem down_len (c : Corp) (i : Int) : (down c i).length ≤ c.toks.length := by
  unfold down; split
  · exact has_len _
  · simp
theorem under_len (c : Corp) (i : Int) : (under c i).length ≤ c.toks.length := by
  unfold under; split
  · exact has_len _
  · simp

theorem law_heads (l : List Int) (hl : l.length < 9223372036854775808) (i : Int) : callV prog 3 [.list (l.map I), I i] = some (.bool true, []) := by
  obtain ⟨a', c, hc, hcor⟩ := corpus_spec (small_take l) 0 (most := 7) (by omega)
  have hnew := new_spec l hl
  have n7 := hc.n7
  have hn : c.toks.length ≤ 100 := by omega
  obtain ⟨rk, hh⟩ := hc.heads
  have hw : IntKind.i64.wrap ((c.toks.length : Int) + 2) = (c.toks.length : Int) + 2 := wrap64 (by omega) (by omega)
  have hm0 := mod_nonneg i ((c.toks.length : Int) + 2)
  have hm1 := mod_lt i (n := (c.toks.length : Int) + 2) (by omega)
  have hr : (c.toks.length : Int) + 2 < 9223372036854775808 := by omega
  have hmod := mod_spec i _ hr
  generalize mod i ((c.toks.length : Int) + 2) = j at *
  have hw2 : IntKind.i64.wrap (j - 1) = j - 1 := wrap64 (by omega) (by omega)
  generalize hj : j - 1 = x at *
  have u1 := up_spec c hn x
  have u2 := rup_spec hh hn x
  have u3 := ints_same (up c x) (Nat.le_trans (up_len c x) (by omega))
  have d1 := down_spec c hn x
  have d2 := rdown_spec hh hn x
  have d3 := ints_same (down c x) (Nat.le_trans (down_len c x) (by omega))
  have e1 := under_spec c hn x
  have e2 := runder_spec hh hn x
  have e3 := ints_same (under c x) (Nat.le_trans (under_len c x) (by omega))
  have kn := known_spec
  refine callV_fn (body := ic3) rfl rfl ?_
  simp [Corp.cells] at hcor u1 u2 d1 d2 e1 e2
  simp [ic3, Corp.cells, hnew, hcor, hw, hmod, hw2, hj, u1, u2, u3, d1, d2, d3, e1, e2, e3, kn]

end Go.Ab.Prog
