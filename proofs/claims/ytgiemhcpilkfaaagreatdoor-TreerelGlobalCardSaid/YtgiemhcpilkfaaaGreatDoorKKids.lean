/- The children of a node, the nodes over a span, and the last of these. -/
import Derived.Test.YtgiemhcpilkfaaaGreatDoorKConF

namespace Go.Ab.Prog
open Go Go.Ab
set_option linter.unusedSimpArgs false
set_option linter.unusedVariables false
set_option maxHeartbeats 8000000

def ndAt (c : Corp) (k : Nat) : Nd := c.nodes[k]?.getD ⟨⟨#[]⟩, 0, 0, -5⟩
theorem ndAt_lt {c : Corp} {k : Nat} (h : k < c.nodes.length) : ndAt c k = c.nodes[k] := by simp [ndAt, h]
def kids (c : Corp) (i : Int) : List Nat := if -1 ≤ i ∧ i < c.nodes.length then (List.range c.nodes.length).filter (fun k => decide ((ndAt c k).p = i)) else []
def overs (c : Corp) (b e : Int) : List Nat := if 0 ≤ b ∧ b < e ∧ e ≤ c.toks.length then (List.range c.nodes.length).filter (fun k => decide ((ndAt c k).b ≤ b) && decide (e ≤ (ndAt c k).e)) else []
def lastOr (l : List Nat) : Int := match l.getLast? with
  | some x => x
  | none => -1
def common (c : Corp) (i j : Int) : Int := if isTok c i = true ∧ isTok c j = true then lastOr (overs c (if j < i then j else i) ((if i < j then j else i) + 1)) else -1
theorem kids_len (c : Corp) (i : Int) : (kids c i).length ≤ c.nodes.length := by
  unfold kids; split
  · exact filter_len
  · simp
theorem overs_len (c : Corp) (b e : Int) : (overs c b e).length ≤ c.nodes.length := by
  unfold overs; split
  · exact filter_len
  · simp

theorem overs28_loop (c : Corp) (hn : c.nodes.length ≤ 100) (b e : Int) : ∀ (m k : Nat) (out : List Nat), k + m = c.nodes.length → out = (List.range k).filter (fun k => decide ((ndAt c k).b ≤ b) && decide (e ≤ (ndAt c k).e)) →
    ∃ out' : List Nat, out' = (List.range c.nodes.length).filter (fun k => decide ((ndAt c k).b ≤ b) && decide (e ≤ (ndAt c k).e)) ∧
    evV prog ic41_0 ⟨tm [(3, .ptr 102 0), (5, .arr 100 out.length 0 out.length), (27, .list (c.nodes.map Nd.enc)), (28, I c.nodes.length), (29, I k)], hp [(100, some (.arr 1 (out.map IN) false)), (102, some (.box [I b, I e]))]⟩
      = some (.exit 0, ⟨tm [(5, .arr 100 out'.length 0 out'.length)], hp [(100, some (.arr 1 (out'.map IN) false))]⟩) := by
  intro m
  induction m with
  | zero =>
    intro k out hk ho
    have : k = c.nodes.length := by omega
    refine ⟨out, by rw [ho, this], ?_⟩
    have : ¬ k < c.nodes.length := by omega
    rw [ic41_0_eq]
    simp [ic41_0_b, this, Corp.cells]
  | succ m ih =>
    intro k out hk ho
    have hlt : k < c.nodes.length := by omega
    have hol : out.length ≤ k := by rw [ho]; exact filter_len
    have m1 : (out.length + 1) * 8 ≤ room := by unfold room; omega
    have m2 : out.length + 1 ≤ room := by unfold room; omega
    have hw : IntKind.i64.wrap ((k : Int) + 1) = k + 1 := wrap64 (by omega) (by omega)
    have hx := ndAt_lt hlt
    cases hp : decide ((ndAt c k).b ≤ b)
    · obtain ⟨out', h1, h2⟩ := ih (k + 1) out (by omega) (by rw [filter_succ, ← ho]; simp [hp])
      refine ⟨out', h1, ?_⟩
      rw [hx] at hp
      rw [ic41_0_eq]
      simp [ic41_0_b, hlt, hp, hw]
      simpa using h2
    · cases hq : decide (e ≤ (ndAt c k).e)
      · obtain ⟨out', h1, h2⟩ := ih (k + 1) out (by omega) (by rw [filter_succ, ← ho]; simp [hp, hq])
        refine ⟨out', h1, ?_⟩
        rw [hx] at hp hq
        rw [ic41_0_eq]
        simp [ic41_0_b, hlt, hp, hq, hw]
        simpa using h2
      · obtain ⟨out', h1, h2⟩ := ih (k + 1) (out ++ [k]) (by omega) (by rw [filter_succ, ← ho]; simp [hp, hq])
        refine ⟨out', h1, ?_⟩
        rw [hx] at hp hq
        rw [ic41_0_eq]
        simp [ic41_0_b, hlt, hp, hq, m1, m2, hw]
        simpa using h2

theorem overs28_spec (c : Corp) (hn : c.nodes.length ≤ 100) (b e : Int) : callV prog 41 [.agg c.cells, .agg [I b, I e]] = some (.list ((overs c b e).map IN), []) := by
  refine callV_fn (body := ic41) rfl rfl ?_
  by_cases h0 : b < 0
  · have h3 : ¬ (0 ≤ b ∧ b < e ∧ e ≤ c.toks.length) := by omega
    simp [ic41, Corp.cells, overs, h0, h3]
  · by_cases h1 : e ≤ b
    · have h3 : ¬ (0 ≤ b ∧ b < e ∧ e ≤ c.toks.length) := by omega
      simp [ic41, Corp.cells, overs, h0, h1, h3]
    · by_cases h2 : (c.toks.length : Int) < e
      · have h3 : ¬ (0 ≤ b ∧ b < e ∧ e ≤ c.toks.length) := by omega
        simp [ic41, Corp.cells, overs, h0, h1, h2, h3]
      · have h3 : (0 ≤ b ∧ b < e ∧ e ≤ c.toks.length) := by omega
        obtain ⟨out', k1, k2⟩ := overs28_loop c hn b e c.nodes.length 0 [] (by omega) (by simp)
        simp at k2
        simp [ic41, Corp.cells, overs, h0, h1, h2, k2]
        rw [if_pos h3, ← k1]

theorem common29_spec (c : Corp) (hn : c.nodes.length ≤ 100) (ht : c.toks.length ≤ 100) (i j : Int) : callV prog 23 [.agg c.cells, I i, I j] = some (I (common c i j), []) := by
  refine callV_fn (body := ic23) rfl rfl ?_
  have t1 := token_spec c i
  have t2 := token_spec c j
  simp [Corp.cells] at t1 t2
  cases h1 : isTok c i
  · rw [h1] at t1
    simp [ic23, Corp.cells, common, h1, t1]
  · rw [h1] at t1
    cases h2 : isTok c j
    · rw [h2] at t2
      simp [ic23, Corp.cells, common, h1, h2, t1, t2]
    · rw [h2] at t2
      have b1 : 0 ≤ i ∧ i < c.toks.length := by simpa [isTok] using h1
      have b2 : 0 ≤ j ∧ j < c.toks.length := by simpa [isTok] using h2
      have hw : IntKind.i64.wrap ((if i < j then j else i) + 1) = (if i < j then j else i) + 1 := wrap64 (by split <;> omega) (by split <;> omega)
      have ho := overs28_spec c hn (if j < i then j else i) ((if i < j then j else i) + 1)
      simp [Corp.cells] at ho
      have hc : common c i j = lastOr (overs c (if j < i then j else i) ((if i < j then j else i) + 1)) := by simp [common, h1, h2]
      have hlen := overs_len c (if j < i then j else i) ((if i < j then j else i) + 1)
      rw [hc]
      generalize overs c (if j < i then j else i) ((if i < j then j else i) + 1) = l at *
      rcases List.eq_nil_or_concat l with rfl | ⟨l', x, rfl⟩
      · simp [ic23, Corp.cells, t1, t2, hw, ho, lastOr]
      · simp at hlen
        have hw2 : IntKind.i64.wrap (l'.length : Int) = l'.length := wrap64 (by omega) (by omega)
        have hne : ¬ (l'.length : Int) + 1 = 0 := by omega
        simp at ho
        simp [ic23, Corp.cells, t1, t2, hw, ho, lastOr, hw2, hne]

end Go.Ab.Prog
