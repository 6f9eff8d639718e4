/- TreerelParts answers true, whatever the tape. -/
import Derived.Test.YtomajljeecmpoaaKKids
import Derived.Test.YtomajljeecmpoaaKLawA

namespace Go.Ab.Prog
open Go Go.Ab
set_option linter.unusedSimpArgs false
set_option linter.unusedVariables false
set_option maxHeartbeats 8000000

theorem kid_ok {c : Corp} {i : Int} {k : Nat} (h : k ∈ kids c i) : k < c.nodes.length ∧ (ndAt c k).p = i := by
  unfold kids at h
  split at h
  · simpa using h
  · cases h

theorem parts_in {c : Corp} (hnd : c.nodes.length ≤ 100) (i : Int) (many : Nat) (hm : many ≤ 1000) : ∀ (m k : Nat), k + m = (kids c i).length →
    evV prog ic5_0 ⟨tm [(3, .ptr 101 0), (4, I ((many + k : Nat) : Int)), (5, I i), (20, .list ((kids c i).map IN)), (21, I (kids c i).length), (22, I k)], hp [(101, some (.box c.cells))]⟩
      = some (.exit 2, ⟨tm [(3, .ptr 101 0), (4, I ((many + (kids c i).length : Nat) : Int)), (5, I i)], hp [(101, some (.box c.cells))]⟩) := by
  have hkl := kids_len c i
  intro m
  induction m with
  | zero =>
    intro k hk
    have h1 : ¬ k < (kids c i).length := by omega
    have h2 : k = (kids c i).length := by omega
    subst h2
    rw [ic5_0_eq]
    simp [ic5_0_b, Corp.cells]
  | succ m ih =>
    intro k hk
    have hlt : k < (kids c i).length := by omega
    have hw : IntKind.i64.wrap ((k : Int) + 1) = k + 1 := wrap64 (by omega) (by omega)
    have hw2 : IntKind.i64.wrap ((many : Int) + k + 1) = (many : Int) + (k + 1) := (wrap64 (by omega) (by omega)).trans (by omega)
    obtain ⟨h1, h2⟩ := kid_ok (List.getElem_mem hlt)
    have hi := ih (k + 1) (by omega)
    rw [ndAt_lt h1] at h2
    have hbig : ¬ (1000 : Int) < (k : Int) := by omega
    have hneg : ¬ ((kids c i)[k] : Int) < 0 := by omega
    have hge : ¬ c.nodes.length ≤ (kids c i)[k] := by omega
    generalize hx : (kids c i)[k] = x at *
    rw [ic5_0_eq]
    simp [Corp.cells] at hi
    simp [ic5_0_b, Corp.cells, hlt, hw, hw2, hx, h1, h2, hbig, hneg, hge]
    simpa using hi

theorem count_step (f : Nat → Int) (a : Int) (ha : -1 ≤ a) : ∀ L : List Nat, (L.filter (fun k => decide (-1 ≤ f k) && decide (f k < a))).length + (L.filter (fun k => decide (f k = a))).length = (L.filter (fun k => decide (-1 ≤ f k) && decide (f k < a + 1))).length
  | [] => rfl
  | x :: L => by
    have ih := count_step f a ha L
    by_cases h1 : f x = a
    · have h2 : ¬ f x < a := by omega
      have h3 : f x < a + 1 := by omega
      have h4 : -1 ≤ f x := by omega
      simp only [List.filter_cons, h1, h2, h3, h4]
      rw [h1] at h2 h3 h4
      simp only [h2, h3, h4, decide_true, decide_false, Bool.and_true, Bool.and_false, if_true, if_false, List.length_cons, Bool.false_eq_true]
      omega
    · by_cases h2 : f x < a
      · have h3 : f x < a + 1 := by omega
        by_cases h4 : -1 ≤ f x
        · simp only [List.filter_cons, h1, h2, h3, h4, decide_true, decide_false, Bool.and_true, Bool.and_false, if_true, if_false, List.length_cons, Bool.false_eq_true]
          omega
        · simp only [List.filter_cons, h1, h2, h3, h4, decide_true, decide_false, Bool.and_true, Bool.and_false, Bool.false_and, if_true, if_false, List.length_cons, Bool.false_eq_true]
          omega
      · have h3 : ¬ f x < a + 1 := by omega
        simp only [List.filter_cons, h1, h2, h3, decide_true, decide_false, Bool.and_true, Bool.and_false, if_true, if_false, List.length_cons, Bool.false_eq_true]
        omega

/-- How many nodes have a parent in front of a place. -/
def cnt (c : Corp) (a : Int) : Nat := ((List.range c.nodes.length).filter (fun k => decide (-1 ≤ (ndAt c k).p) && decide ((ndAt c k).p < a))).length

theorem cnt_step {c : Corp} {a : Int} (h0 : -1 ≤ a) (h1 : a < c.nodes.length) : cnt c a + (kids c a).length = cnt c (a + 1) := by
  unfold kids
  rw [if_pos ⟨h0, h1⟩]
  exact count_step (fun k => (ndAt c k).p) a h0 _
theorem cnt_first {c : Corp} : cnt c (-1) = 0 := by
  unfold cnt
  rw [List.length_eq_zero_iff, List.filter_eq_nil_iff]
  intro k _
  simp
theorem cnt_last {c : Corp} (hb : Back c.nodes) : cnt c c.nodes.length = c.nodes.length := by
  unfold cnt
  have : (List.range c.nodes.length).filter (fun k => decide (-1 ≤ (ndAt c k).p) && decide ((ndAt c k).p < c.nodes.length)) = List.range c.nodes.length := by
    rw [List.filter_eq_self]
    intro k hk
    have hk : k < c.nodes.length := by simpa using hk
    rw [ndAt_lt hk]
    rcases hb k hk with h | ⟨q, h1, h2⟩
    · simp [h]; omega
    · simp [h2]; omega
  rw [this]; simp
theorem cnt_le (c : Corp) (a : Int) : cnt c a ≤ c.nodes.length := filter_len

theorem parts_out {c : Corp} (hb : Back c.nodes) (hnd : c.nodes.length ≤ 100) : ∀ (m r : Nat), r + m = c.nodes.length + 1 →
    evV prog ic5_1 ⟨tm [(3, .ptr 101 0), (4, I (cnt c ((r : Int) - 1))), (5, I ((r : Int) - 1))], hp [(101, some (.box c.cells))]⟩
      = some (.exit 0, ⟨tm [(3, .ptr 101 0), (4, I c.nodes.length)], hp [(101, some (.box c.cells))]⟩) := by
  intro m
  induction m with
  | zero =>
    intro r hr
    have h1 : (r : Int) - 1 = c.nodes.length := by omega
    have h2 := cnt_last hb
    rw [h1, ic5_1_eq]
    simp [ic5_1_b, Corp.cells, h2]
  | succ m ih =>
    intro r hr
    have hlt : (r : Int) - 1 < (c.nodes.length : Int) := by omega
    have hk := kids22_spec c hnd ((r : Int) - 1)
    have hc := cnt_step (c := c) (a := (r : Int) - 1) (by omega) hlt
    have hle := cnt_le c ((r : Int) - 1)
    have hin := parts_in hnd ((r : Int) - 1) (cnt c ((r : Int) - 1)) (by omega) (kids c ((r : Int) - 1)).length 0 (by omega)
    have hn := ih (r + 1) (by omega)
    have e1 : ((r + 1 : Nat) : Int) - 1 = (r : Int) - 1 + 1 := by omega
    rw [e1, ← hc] at hn
    have hw : IntKind.i64.wrap ((r : Int) - 1 + 1) = (r : Int) - 1 + 1 := wrap64 (by omega) (by omega)
    generalize (r : Int) - 1 = a at *
    rw [ic5_1_eq]
    simp [Corp.cells] at hk hin hn
    simp [ic5_1_b, Corp.cells, hlt, hk, hin, hw]
    simpa using hn

theorem law_parts (l : List Int) (hl : l.length < 9223372036854775808) : callV prog 5 [.list (l.map I)] = some (.bool true, []) := by
  obtain ⟨a', c, hc, hcor⟩ := corpus_spec (small_take l) 0 (most := 7) (by omega)
  have hnew := new_spec l hl
  have hnd : c.nodes.length ≤ 100 := by have := hc.nodes.1; omega
  have ho := parts_out hc.back hnd (c.nodes.length + 1) 0 (by omega)
  have kn := known_spec
  simp [Corp.cells, cnt_first] at ho hcor
  refine callV_fn (body := ic5) rfl rfl ?_
  simp [ic5, Corp.cells, hnew, hcor, ho, kn]

end Go.Ab.Prog
