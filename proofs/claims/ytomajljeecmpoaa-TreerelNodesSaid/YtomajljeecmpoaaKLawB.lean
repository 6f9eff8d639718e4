/- TreerelNodes answers true, whatever the tape. -/
import Derived.Test.YtomajljeecmpoaaKKids
import Derived.Test.YtomajljeecmpoaaKLawA

namespace Go.Ab.Prog
open Go Go.Ab
set_option linter.unusedSimpArgs false
set_option linter.unusedVariables false
set_option maxHeartbeats 8000000

theorem law_nodes (l : List Int) (hl : l.length < 9223372036854775808) (i j : Int) : callV prog 10 [.list (l.map I), I i, I j] = some (.bool true, []) := by
  obtain ⟨a', c, hc, hcor⟩ := corpus_spec (small_take l) 0 (most := 7) (by omega)
  have hnew := new_spec l hl
  have n7 := hc.n7
  have hn : c.toks.length ≤ 100 := by omega
  have hnd : c.nodes.length ≤ 100 := by have := hc.nodes.1; omega
  have hw : IntKind.i64.wrap ((c.toks.length : Int) + 3) = (c.toks.length : Int) + 3 := wrap64 (by omega) (by omega)
  have hwn : IntKind.i64.wrap ((c.nodes.length : Int) + 3) = (c.nodes.length : Int) + 3 := wrap64 (by omega) (by omega)
  have hr : (c.toks.length : Int) + 3 < 9223372036854775808 := by omega
  have hrn : (c.nodes.length : Int) + 3 < 9223372036854775808 := by omega
  have a0 := mod_nonneg i ((c.toks.length : Int) + 3)
  have a1 := mod_lt i (n := (c.toks.length : Int) + 3) (by omega)
  have b0 := mod_nonneg j ((c.toks.length : Int) + 3)
  have b1 := mod_lt j (n := (c.toks.length : Int) + 3) (by omega)
  have hmod := mod_spec i _ hr
  have hmod2 := mod_spec j _ hr
  generalize mod i ((c.toks.length : Int) + 3) = p at *
  generalize mod j ((c.toks.length : Int) + 3) = q at *
  have hw2 : IntKind.i64.wrap (p - 1) = p - 1 := wrap64 (by omega) (by omega)
  have hw3 : IntKind.i64.wrap (q - 1) = q - 1 := wrap64 (by omega) (by omega)
  have hw4 : IntKind.i64.wrap (p - 1 + (q - 1)) = p - 1 + (q - 1) := wrap64 (by omega) (by omega)
  have c0 := mod_nonneg (p - 1 + (q - 1)) ((c.nodes.length : Int) + 3)
  have c1 := mod_lt (p - 1 + (q - 1)) (n := (c.nodes.length : Int) + 3) (by omega)
  have hmod3 := mod_spec (p - 1 + (q - 1)) _ hrn
  generalize mod (p - 1 + (q - 1)) ((c.nodes.length : Int) + 3) = k at *
  have hw5 : IntKind.i64.wrap (k - 2) = k - 2 := wrap64 (by omega) (by omega)
  have o1 := overs28_spec c hnd (p - 1) (q - 1)
  have o2 := overs30_spec c hnd (p - 1) (q - 1)
  have o3 := ints_same (overs c (p - 1) (q - 1)) (Nat.le_trans (overs_len c _ _) (by omega))
  have m1 := common29_spec c hnd hn (p - 1) (q - 1)
  have m2 := common31_spec c hnd hn (p - 1) (q - 1)
  have k1 := kids22_spec c hnd (k - 2)
  have k2 := kids32_spec c hnd (k - 2)
  have k3 := ints_same (kids c (k - 2)) (Nat.le_trans (kids_len c _) (by omega))
  have kn := known_spec
  refine callV_fn (body := ic10) rfl rfl ?_
  simp [Corp.cells] at hcor o1 o2 m1 m2 k1 k2
  simp [ic10, Corp.cells, hnew, hcor, hw, hwn, hmod, hmod2, hw2, hw3, hw4, hmod3, hw5, o1, o2, o3, m1, m2, k1, k2, k3, kn]

end Go.Ab.Prog
