/- TreerelWays answers true, whatever the tape. -/
import Derived.Test.YtomajljeecmpoaaKMeetA
import Derived.Test.YtomajljeecmpoaaKLawA

namespace Go.Ab.Prog
open Go Go.Ab
set_option linter.unusedSimpArgs false
set_option linter.unusedVariables false
set_option maxHeartbeats 8000000

theorem law_ways (l : List Int) (hl : l.length < 9223372036854775808) (i j : Int) : callV prog 6 [.list (l.map I), I i, I j] = some (.bool true, []) := by
  obtain ⟨a', c, hc, hcor⟩ := corpus_spec (small_take l) 0 (most := 7) (by omega)
  have hnew := new_spec l hl
  have n7 := hc.n7
  have hn : c.toks.length ≤ 100 := by omega
  obtain ⟨rk, hh⟩ := hc.heads
  have hw : IntKind.i64.wrap ((c.toks.length : Int) + 2) = (c.toks.length : Int) + 2 := wrap64 (by omega) (by omega)
  have hr : (c.toks.length : Int) + 2 < 9223372036854775808 := by omega
  have a0 := mod_nonneg i ((c.toks.length : Int) + 2)
  have a1 := mod_lt i (n := (c.toks.length : Int) + 2) (by omega)
  have b0 := mod_nonneg j ((c.toks.length : Int) + 2)
  have b1 := mod_lt j (n := (c.toks.length : Int) + 2) (by omega)
  have hmod := mod_spec i _ hr
  have hmod2 := mod_spec j _ hr
  generalize mod i ((c.toks.length : Int) + 2) = p at *
  generalize mod j ((c.toks.length : Int) + 2) = q at *
  have hw2 : IntKind.i64.wrap (p - 1) = p - 1 := wrap64 (by omega) (by omega)
  have hw3 : IntKind.i64.wrap (q - 1) = q - 1 := wrap64 (by omega) (by omega)
  have r1 := route_spec c hn (p - 1) (q - 1)
  have r2 := rroute_spec hh hn (p - 1) (q - 1)
  have r3 := texts_same (route c (p - 1) (q - 1)) (Nat.le_trans (route_len c _ _) (by omega))
  have m1 := meet_spec c hn (p - 1) (q - 1)
  have m2 := rmeet_spec hh hn (p - 1) (q - 1)
  have kn := known_spec
  refine callV_fn (body := ic6) rfl rfl ?_
  simp [Corp.cells] at hcor r1 r2 m1 m2
  simp [ic6, Corp.cells, hnew, hcor, hw, hmod, hmod2, hw2, hw3, r1, r2, r3, m1, m2, kn]

end Go.Ab.Prog
