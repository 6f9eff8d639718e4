/- The tokens of a good corpus are valid. -/
import Derived.Test.YtgiemhcpilkfaaaGreatDoorKValB

namespace Go.Ab.Prog
open Go Go.Ab
set_option linter.unusedSimpArgs false
set_option maxHeartbeats 4000000

theorem tok_in {c : Corp} {a b d : ByteArray} (ha : a ∈ words) (hb : b ∈ tags) (hd : d ∈ feats) {k n m : Nat} {rest : List PV} :
    evV prog ic114_0 ⟨tm [(1, .ptr 100 0), (4, I k), (14, .list rest), (15, I n), (16, I m), (28, tokEnc [a, b, d]), (29, I 3), (30, I 0)], hp [(100, some (.box c.cells))]⟩
      = some (.exit 2, ⟨tm [(1, .ptr 100 0), (14, .list rest), (15, I n), (16, I m)], hp [(100, some (.box c.cells))]⟩) := by
  have h1 := val_word ha
  have h2 := val_tag hb
  have h3 := val_feat hd
  have w1 : IntKind.i64.wrap 1 = 1 := wrap64 (by omega) (by omega)
  have w2 : IntKind.i64.wrap 2 = 2 := wrap64 (by omega) (by omega)
  have w3 : IntKind.i64.wrap 3 = 3 := wrap64 (by omega) (by omega)
  rw [ic114_0_eq]
  simp [ic114_0_b, Corp.cells, tokEnc, attrs, h1, w1]
  rw [ic114_0_eq]
  simp [ic114_0_b, h2, w2]
  rw [ic114_0_eq]
  simp [ic114_0_b, h3, w3]
  rw [ic114_0_eq]
  simp [ic114_0_b]

theorem tok_out {c : Corp} (hc : ∀ t ∈ c.toks, TokOk t) (hn : c.toks.length ≤ 100) : ∀ (m i : Nat), i + m = c.toks.length →
    evV prog ic114_1 ⟨tm [(1, .ptr 100 0), (14, .list (c.toks.map tokEnc)), (15, I c.toks.length), (16, I i)], hp [(100, some (.box c.cells))]⟩ = some (.exit 0, ⟨tm [], hp []⟩) := by
  intro m
  induction m with
  | zero =>
    intro i hi
    have : ¬ i < c.toks.length := by omega
    rw [ic114_1_eq]
    simp [ic114_1_b, this, Corp.cells]
  | succ m ih =>
    intro i hi
    have hlt : i < c.toks.length := by omega
    have e : c.toks[i]? = some c.toks[i] := List.getElem?_eq_getElem _
    have hw : IntKind.i64.wrap ((i : Int) + 1) = i + 1 := wrap64 (by omega) (by omega)
    obtain ⟨a, b, d, ht, ha, hb, hd⟩ := hc c.toks[i] (List.getElem_mem _)
    have hin := tok_in (c := c) ha hb hd (k := i) (n := c.toks.length) (m := i) (rest := c.toks.map tokEnc)
    have hi' := ih (i + 1) (by omega)
    rw [ic114_1_eq]
    simp [Corp.cells, attrs, tokEnc] at hin hi'
    simp [ic114_1_b, hlt, Corp.cells, hw, ht, tokEnc, attrs, hin]
    simpa using hi'

theorem tokens_ans {c : Corp} (hc : ∀ t ∈ c.toks, TokOk t) (hn : c.toks.length ≤ 100) : Ans 114 [.agg c.cells] := by
  refine ⟨0, 0, callV_fn (body := ic114) rfl rfl ?_⟩
  have h := tok_out hc hn c.toks.length 0 (by omega)
  have h1 : ¬ (4096 : Int) < c.toks.length := by omega
  simp [Corp.cells] at h
  simp [ic114, Corp.cells, h1, h]

end Go.Ab.Prog
