/- TreerelChains answers true, whatever the tape. -/
import Derived.Test.YtomajljeecmpoaaKKids
import Derived.Test.YtomajljeecmpoaaKLawA

namespace Go.Ab.Prog
open Go Go.Ab
set_option linter.unusedSimpArgs false
set_option linter.unusedVariables false
set_option maxHeartbeats 8000000

def inn (b e : Int) : Nat → List Nd → List Nat
  | _, [] => []
  | i, x :: l => (if x.b ≤ b ∧ e ≤ x.e then [i] else []) ++ inn b e (i + 1) l

theorem inn_range (b e : Int) : ∀ (l : List Nd) (i : Nat),
    (List.range' i l.length).filter (fun k => decide ((l[k - i]?.getD ⟨⟨#[]⟩, 0, 0, -5⟩).b ≤ b) && decide (e ≤ (l[k - i]?.getD ⟨⟨#[]⟩, 0, 0, -5⟩).e)) = inn b e i l
  | [], i => rfl
  | x :: l, i => by
    have ih := inn_range b e l (i + 1)
    rw [List.length_cons, List.range'_succ, List.filter_cons]
    simp only [inn]
    have e1 : (List.range' (i + 1) l.length).filter (fun k => decide (((x :: l)[k - i]?.getD ⟨⟨#[]⟩, 0, 0, -5⟩).b ≤ b) && decide (e ≤ ((x :: l)[k - i]?.getD ⟨⟨#[]⟩, 0, 0, -5⟩).e)) = inn b e (i + 1) l := by
      rw [← ih]
      apply List.filter_congr
      intro k hk
      have : i + 1 ≤ k := by simp [List.mem_range'] at hk; omega
      rw [show k - i = (k - (i + 1)) + 1 by omega]
      simp only [List.getElem?_cons_succ]
    rw [e1]
    by_cases h1 : x.b ≤ b
    · by_cases h2 : e ≤ x.e <;> simp [h1, h2]
    · simp [h1]

theorem overs_inn {c : Corp} {b e : Int} (h : 0 ≤ b ∧ b < e ∧ e ≤ c.toks.length) : overs c b e = inn b e 0 c.nodes := by
  unfold overs
  rw [if_pos h, ← inn_range b e c.nodes 0, List.range_eq_range']
  rfl

theorem inn_past {b e : Int} {a : Int} {i : Nat} {l : List Nd} {z : Int} (h : Tops a i l z) (hb : b < a) : inn b e i l = [] := by
  induction h with
  | nil => rfl
  | one h1 h2 hr ih =>
    simp only [inn]
    rw [ih (by omega), if_neg (by omega)]; rfl
  | two h1 h2 h3 h4 h5 hr ih =>
    simp only [inn]
    rw [ih (by omega), if_neg (by omega), if_neg (by omega)]; rfl

theorem inn_tops {b e : Int} (he : b < e) {a : Int} {i : Nat} {l : List Nd} {z : Int} (h : Tops a i l z) :
    inn b e i l = [] ∨ (∃ t x, inn b e i l = [i + t] ∧ l[t]? = some x ∧ x.p = -1) ∨
    (∃ t x y, inn b e i l = [i + t, i + t + 1] ∧ l[t]? = some x ∧ x.p = -1 ∧ l[t + 1]? = some y ∧ y.p = ((i + t : Nat) : Int)) := by
  induction h with
  | nil => left; rfl
  | one h1 h2 hr ih =>
    rename_i a b' e' i s l z
    by_cases hc : b' ≤ b ∧ e ≤ e'
    · right; left
      refine ⟨0, ⟨s, b', e', -1⟩, ?_, rfl, rfl⟩
      simp only [inn]
      rw [if_pos hc, inn_past hr (by omega)]; rfl
    · rcases ih with ih | ⟨t, x, k1, k2, k3⟩ | ⟨t, x, y, k1, k2, k3, k4, k5⟩
      · left
        simp only [inn]
        rw [if_neg hc, ih]; rfl
      · right; left
        refine ⟨t + 1, x, ?_, by simpa using k2, k3⟩
        simp only [inn]
        rw [if_neg hc, k1, show i + 1 + t = i + (t + 1) by omega]; rfl
      · right; right
        refine ⟨t + 1, x, y, ?_, by simpa using k2, k3, by simpa using k4, by rw [k5, show i + 1 + t = i + (t + 1) by omega]⟩
        simp only [inn]
        rw [if_neg hc, k1, show i + 1 + t = i + (t + 1) by omega]; rfl
  | two h1 h2 h3 h4 h5 hr ih =>
    rename_i a b' e' i s l z t' b2 e2
    by_cases hc : b' ≤ b ∧ e ≤ e'
    · by_cases hd : b2 ≤ b ∧ e ≤ e2
      · right; right
        refine ⟨0, ⟨s, b', e', -1⟩, ⟨t', b2, e2, (i : Int)⟩, ?_, rfl, rfl, rfl, rfl⟩
        simp only [inn]
        rw [if_pos hc, if_pos hd, inn_past hr (by omega)]; rfl
      · right; left
        refine ⟨0, ⟨s, b', e', -1⟩, ?_, rfl, rfl⟩
        simp only [inn]
        rw [if_pos hc, if_neg hd, inn_past hr (by omega)]; rfl
    · have hd : ¬ (b2 ≤ b ∧ e ≤ e2) := by omega
      rcases ih with ih | ⟨t, x, k1, k2, k3⟩ | ⟨t, x, y, k1, k2, k3, k4, k5⟩
      · left
        simp only [inn]
        rw [if_neg hc, if_neg hd, ih]; rfl
      · right; left
        refine ⟨t + 2, x, ?_, by simpa using k2, k3⟩
        simp only [inn]
        rw [if_neg hc, if_neg hd, k1, show i + 2 + t = i + (t + 2) by omega]; rfl
      · right; right
        refine ⟨t + 2, x, y, ?_, by simpa using k2, k3, by simpa using k4, by rw [k5, show i + 2 + t = i + (t + 2) by omega]⟩
        simp only [inn]
        rw [if_neg hc, if_neg hd, k1, show i + 2 + t = i + (t + 2) by omega]; rfl

/-- The nodes over a span that is not empty: none, a root, or a root and a child of it. -/
theorem overs_shape {k : Nat} {c : Corp} (hc : Okc k c) {b e : Int} (h : 0 ≤ b ∧ b < e ∧ e ≤ c.toks.length) :
    overs c b e = [] ∨ (∃ t x, overs c b e = [t] ∧ c.nodes[t]? = some x ∧ x.p = -1) ∨
    (∃ t x y, overs c b e = [t, t + 1] ∧ c.nodes[t]? = some x ∧ x.p = -1 ∧ c.nodes[t + 1]? = some y ∧ y.p = (t : Int)) := by
  obtain ⟨z, _, hT⟩ := hc.nodes.2.2
  rw [overs_inn h]
  rcases inn_tops h.2.1 hT with h | ⟨t, x, k1, k2, k3⟩ | ⟨t, x, y, k1, k2, k3, k4, k5⟩
  · exact .inl h
  · exact .inr (.inl ⟨t, x, by simpa using k1, k2, k3⟩)
  · exact .inr (.inr ⟨t, x, y, by simpa using k1, k2, k3, k4, by simpa using k5⟩)

theorem common_comm (c : Corp) (i j : Int) : common c j i = common c i j := by
  unfold common
  have e1 : (if i < j then i else j) = (if j < i then j else i) := by split <;> split <;> omega
  have e2 : (if j < i then i else j) = (if i < j then j else i) := by split <;> split <;> omega
  rw [e1, e2]
  simp only [and_comm]

theorem chain_loop {c : Corp} (hnd : c.nodes.length ≤ 100) {i j : Int} {x : List Nat}
    (hx : x = [] ∨ (∃ t y, x = [t] ∧ c.nodes[t]? = some y ∧ y.p = -1) ∨ (∃ t y y', x = [t, t + 1] ∧ c.nodes[t]? = some y ∧ y.p = -1 ∧ c.nodes[t + 1]? = some y' ∧ y'.p = (t : Int))) :
    evV prog ic9_0 ⟨tm [(1, I i), (2, I j), (7, .ptr 101 0), (8, .list (x.map IN)), (35, .list (x.map IN)), (36, I x.length), (37, I 0)], hp [(101, some (.box c.cells))]⟩
      = some (.exit 0, ⟨tm [(1, I i), (2, I j), (7, .ptr 101 0), (8, .list (x.map IN))], hp [(101, some (.box c.cells))]⟩) := by
  have w1 : IntKind.i64.wrap 1 = 1 := wrap64 (by omega) (by omega)
  have w0 : IntKind.i64.wrap 0 = 0 := wrap64 (by omega) (by omega)
  have w2 : IntKind.i64.wrap 2 = 2 := wrap64 (by omega) (by omega)
  rcases hx with rfl | ⟨t, y, rfl, k2, k3⟩ | ⟨t, y, y', rfl, k2, k3, k4, k5⟩
  · rw [ic9_0_eq]
    simp [ic9_0_b, Corp.cells]
  · obtain ⟨hl, hy⟩ := List.getElem?_eq_some_iff.1 k2
    have h1 : ¬ (t : Int) < 0 := by omega
    have h2 : ¬ c.nodes.length ≤ t := by omega
    rw [ic9_0_eq]
    simp [ic9_0_b, Corp.cells, h1, h2, hl, hy, k3, w1]
    rw [ic9_0_eq]
    simp [ic9_0_b, Corp.cells]
  · obtain ⟨hl, hy⟩ := List.getElem?_eq_some_iff.1 k2
    obtain ⟨hl', hy'⟩ := List.getElem?_eq_some_iff.1 k4
    have h1 : ¬ (t : Int) < 0 := by omega
    have h2 : ¬ c.nodes.length ≤ t := by omega
    have h3 : ¬ (t : Int) + 1 < 0 := by omega
    have h3' : (0 : Int) ≤ (t : Int) + 1 := by omega
    have h4 : ¬ c.nodes.length ≤ t + 1 := by omega
    have h4' : ¬ (c.nodes.length : Int) ≤ (t : Int) + 1 := by omega
    have h5 : ((t : Int) + 1).toNat = t + 1 := by omega
    rw [ic9_0_eq]
    simp [ic9_0_b, Corp.cells, h1, h2, hl, hy, k3, w1]
    rw [ic9_0_eq]
    simp [ic9_0_b, Corp.cells, h3, h3', h4, h4', h5, hl', hy', k5, w0, w1, w2]
    rw [ic9_0_eq]
    simp [ic9_0_b, Corp.cells]

theorem law_chains (l : List Int) (hl : l.length < 9223372036854775808) (i j : Int) : callV prog 9 [.list (l.map I), I i, I j] = some (.bool true, []) := by
  obtain ⟨a', c, hc, hcor⟩ := corpus_spec (small_take l) 0 (most := 7) (by omega)
  have hnew := new_spec l hl
  have n7 := hc.n7
  have n1 := hc.n1
  have hn : c.toks.length ≤ 100 := by omega
  have hnd : c.nodes.length ≤ 100 := by have := hc.nodes.1; omega
  have hr : (c.toks.length : Int) < 9223372036854775808 := by omega
  have a0 := mod_nonneg i (c.toks.length : Int)
  have a1 := mod_lt i (n := (c.toks.length : Int)) (by omega)
  have b0 := mod_nonneg j (c.toks.length : Int)
  have b1 := mod_lt j (n := (c.toks.length : Int)) (by omega)
  have hmod := mod_spec i _ hr
  have hmod2 := mod_spec j _ hr
  generalize mod i (c.toks.length : Int) = p at *
  generalize mod j (c.toks.length : Int) = q at *
  have hw : IntKind.i64.wrap ((if p < q then q else p) + 1) = (if p < q then q else p) + 1 := wrap64 (by split <;> omega) (by split <;> omega)
  have ho := overs28_spec c hnd (if q < p then q else p) ((if p < q then q else p) + 1)
  have hs := overs_shape hc (b := if q < p then q else p) (e := (if p < q then q else p) + 1) (by split <;> split <;> omega)
  have hcom : common c p q = lastOr (overs c (if q < p then q else p) ((if p < q then q else p) + 1)) := by
    unfold common
    rw [if_pos ⟨by simp [isTok]; omega, by simp [isTok]; omega⟩]
  have m1 := common29_spec c hnd hn p q
  have m2 := common29_spec c hnd hn q p
  rw [common_comm, hcom] at m2
  rw [hcom] at m1
  have kn := known_spec
  generalize overs c (if q < p then q else p) ((if p < q then q else p) + 1) = x at *
  have hlp := chain_loop (i := p) (j := q) hnd hs
  have w0 : IntKind.i64.wrap 0 = 0 := wrap64 (by omega) (by omega)
  have w1 : IntKind.i64.wrap 1 = 1 := wrap64 (by omega) (by omega)
  simp [Corp.cells] at hcor ho m1 m2 hlp
  refine callV_fn (body := ic9) rfl rfl ?_
  rcases hs with rfl | ⟨t, y, rfl, k2, k3⟩ | ⟨t, y, y', rfl, k2, k3, k4, k5⟩
  · simp [lastOr] at ho m1 m2 hlp
    simp [ic9, Corp.cells, hnew, hcor, hmod, hmod2, hw, ho, hlp, m1, m2, kn]
  · simp [lastOr] at ho m1 m2 hlp
    simp [ic9, Corp.cells, hnew, hcor, hmod, hmod2, hw, ho, hlp, m1, m2, kn, w0]
  · simp [lastOr] at ho m1 m2 hlp
    simp [ic9, Corp.cells, hnew, hcor, hmod, hmod2, hw, ho, hlp, m1, m2, kn, w0, w1]

end Go.Ab.Prog
