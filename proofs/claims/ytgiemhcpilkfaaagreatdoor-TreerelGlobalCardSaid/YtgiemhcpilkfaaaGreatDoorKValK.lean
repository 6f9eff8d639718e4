/- The nodes' check answers. -/
import Derived.Test.YtgiemhcpilkfaaaGreatDoorKValJ

namespace Go.Ab.Prog
open Go Go.Ab
set_option linter.unusedSimpArgs false
set_option linter.unusedVariables false
set_option maxHeartbeats 8000000

/-- A parent stands before its child. -/
def Back (ns : List Nd) : Prop := ∀ (i : Nat) (h : i < ns.length), ns[i].p = -1 ∨ ∃ q : Nat, q < i ∧ ns[i].p = (q : Int)

theorem par_loop {c : Corp} {ns : List Nd} (hb : Back ns) {x : Nd} {i : Nat} {ds : List Int} : ∀ (r : Nat) (k : Int), (k = -1 ∨ ∃ j : Nat, k = (j : Int) ∧ j < r ∧ j < ns.length) →
    ∃ k' : Int, evV prog ic117_0 ⟨tm [(0, .list (ns.map Nd.enc)), (3, .ptr 102 0), (6, .arr 100 ds.length 0 ds.length), (7, I i), (8, .ptr 103 0), (9, I k), (18, .list (ns.map Nd.enc)), (19, I ns.length), (20, I i)], hp [(100, some (.arr 1 (ds.map I) false)), (102, some (.box c.cells)), (103, some (.box x.enc.cells))]⟩
      = some (.exit 3, ⟨tm [(0, .list (ns.map Nd.enc)), (3, .ptr 102 0), (6, .arr 100 ds.length 0 ds.length), (7, I i), (8, .ptr 103 0), (9, I k'), (18, .list (ns.map Nd.enc)), (19, I ns.length), (20, I i)], hp [(100, some (.arr 1 (ds.map I) false)), (102, some (.box c.cells)), (103, some (.box x.enc.cells))]⟩) := by
  intro r
  induction r with
  | zero =>
    intro k hk
    rcases hk with rfl | ⟨j, _, h, _⟩
    · refine ⟨-1, ?_⟩
      rw [ic117_0_eq]
      simp [ic117_0_b, Corp.cells]
    · omega
  | succ r ih =>
    intro k hk
    rcases hk with rfl | ⟨j, rfl, hj, hl⟩
    · refine ⟨-1, ?_⟩
      rw [ic117_0_eq]
      simp [ic117_0_b, Corp.cells]
    · cases hx : decide ((j : Int) = x.p)
      · have hn : ns[j].p = -1 ∨ ∃ q : Nat, ns[j].p = (q : Int) ∧ q < r ∧ q < ns.length := by
          rcases hb j hl with h | ⟨q, h1, h2⟩
          · exact .inl h
          · exact .inr ⟨q, h2, by omega, by omega⟩
        obtain ⟨k', hi⟩ := ih ns[j].p hn
        refine ⟨k', ?_⟩
        rw [ic117_0_eq]
        simp [ic117_0_b, Corp.cells, hx, hl]
        simpa [Corp.cells] using hi
      · refine ⟨j, ?_⟩
        rw [ic117_0_eq]
        simp [ic117_0_b, Corp.cells, hx]

theorem sib_loop {c : Corp} {ns : List Nd} {x : Nd} {i : Nat} {ds : List Int} (hn : ns.length ≤ 1000) : ∀ (r : Nat), r ≤ ns.length →
    (∃ b e : Int, evV prog ic117_1 ⟨tm [(0, .list (ns.map Nd.enc)), (3, .ptr 102 0), (6, .arr 100 ds.length 0 ds.length), (7, I i), (8, .ptr 103 0), (11, I ((r : Int) - 1)), (18, .list (ns.map Nd.enc)), (19, I ns.length), (20, I i)], hp [(100, some (.arr 1 (ds.map I) false)), (102, some (.box c.cells)), (103, some (.box x.enc.cells))]⟩
      = some (.ret, ⟨tm [(4, I b), (5, I e)], hp []⟩)) ∨
    evV prog ic117_1 ⟨tm [(0, .list (ns.map Nd.enc)), (3, .ptr 102 0), (6, .arr 100 ds.length 0 ds.length), (7, I i), (8, .ptr 103 0), (11, I ((r : Int) - 1)), (18, .list (ns.map Nd.enc)), (19, I ns.length), (20, I i)], hp [(100, some (.arr 1 (ds.map I) false)), (102, some (.box c.cells)), (103, some (.box x.enc.cells))]⟩
      = some (.exit 5, ⟨tm [(0, .list (ns.map Nd.enc)), (3, .ptr 102 0), (6, .arr 100 ds.length 0 ds.length), (7, I i), (18, .list (ns.map Nd.enc)), (19, I ns.length), (20, I i)], hp [(100, some (.arr 1 (ds.map I) false)), (102, some (.box c.cells))]⟩) := by
  intro r
  induction r with
  | zero =>
    intro _
    right
    rw [ic117_1_eq]
    simp [ic117_1_b, Corp.cells]
  | succ r ih =>
    intro hr
    have hlt : r < ns.length := by omega
    have hw : IntKind.i64.wrap ((r : Int) - 1) = (r : Int) - 1 := wrap64 (by omega) (by omega)
    have hi := ih (by omega)
    generalize hy : ns[r] = y at *
    simp [Corp.cells] at hi
    cases hp : decide (y.p = x.p)
    · rcases hi with ⟨b, e, hi⟩ | hi
      · left
        refine ⟨b, e, ?_⟩
        rw [ic117_1_eq]
        simp [ic117_1_b, Corp.cells, hlt, hw, hy, hp]
        simpa using hi
      · right
        rw [ic117_1_eq]
        simp [ic117_1_b, Corp.cells, hlt, hw, hy, hp]
        simpa using hi
    · cases hq : decide (x.b < y.e)
      · right
        rw [ic117_1_eq]
        simp [ic117_1_b, Corp.cells, hlt, hw, hy, hp, hq]
      · left
        refine ⟨i, 8, ?_⟩
        rw [ic117_1_eq]
        simp [ic117_1_b, Corp.cells, hlt, hw, hy, hp, hq]

theorem nd_loop {c : Corp} {ns : List Nd} (hb : Back ns) (hL : ∀ x ∈ ns, x.label ∈ labels) (hn : ns.length ≤ 100) (ht : c.texts.length ≤ 100) : ∀ (d i : Nat) (ds : List Int), i + d = ns.length → ds.length = ns.length →
    (∃ b e : Int, evV prog ic117_2 ⟨tm [(0, .list (ns.map Nd.enc)), (3, .ptr 102 0), (6, .arr 100 ds.length 0 ds.length), (18, .list (ns.map Nd.enc)), (19, I ns.length), (20, I i)], hp [(100, some (.arr 1 (ds.map I) false)), (102, some (.box c.cells))]⟩
      = some (.ret, ⟨tm [(4, I b), (5, I e)], hp []⟩)) ∨
    evV prog ic117_2 ⟨tm [(0, .list (ns.map Nd.enc)), (3, .ptr 102 0), (6, .arr 100 ds.length 0 ds.length), (18, .list (ns.map Nd.enc)), (19, I ns.length), (20, I i)], hp [(100, some (.arr 1 (ds.map I) false)), (102, some (.box c.cells))]⟩
      = some (.exit 0, ⟨tm [], hp []⟩) := by
  intro d
  induction d with
  | zero =>
    intro i ds hi hd
    right
    have : ¬ i < ns.length := by omega
    rw [ic117_2_eq]
    simp [ic117_2_b, this, Corp.cells]
  | succ d ih =>
    intro i ds hi hd
    have hlt : i < ns.length := by omega
    have hld : i < ds.length := by omega
    have hw : IntKind.i64.wrap ((i : Int) + 1) = i + 1 := wrap64 (by omega) (by omega)
    have hw2 : IntKind.i64.wrap ((i : Int) - 1) = (i : Int) - 1 := wrap64 (by omega) (by omega)
    obtain ⟨nb, hnm⟩ := name_labels (hL _ (List.getElem_mem hlt))
    obtain ⟨w, hwi⟩ := within_ans c ns[i].b ns[i].e ht
    have hpar := hb i hlt
    obtain ⟨k', hpl⟩ := par_loop (c := c) hb (x := ns[i]) (i := i) (ds := ds) i ((i : Int) - 1) (by
      by_cases h : i = 0
      · left; omega
      · right; exact ⟨i - 1, by omega, by omega, by omega⟩)
    generalize hx : ns[i] = x at *
    obtain ⟨xl, xb, xe, xp⟩ := x
    simp only at hpar hnm
    simp [Corp.cells] at hwi hpl
    cases nb
    · left
      refine ⟨i, 4, ?_⟩
      rw [ic117_2_eq]
      simp [ic117_2_b, hlt, hld, Corp.cells, hw, hw2, hx, hnm, hwi, hpl]
    cases w
    · left
      refine ⟨i, 8, ?_⟩
      rw [ic117_2_eq]
      simp [ic117_2_b, hlt, hld, Corp.cells, hw, hw2, hx, hnm, hwi, hpl]
    by_cases hk : k' < 0
    · rcases hpar with rfl | ⟨q, hq, rfl⟩
      · have hsib := sib_loop (c := c) (ns := ns) (ds := ds) (i := i) (x := ⟨xl, xb, xe, -1⟩) (by omega) i (by omega)
        have hnext := ih (i + 1) ((ds).set i (IntKind.i64.wrap (((ds)[i]?.getD 0) + 1))) (by omega) (by simp [hd])
        simp [Corp.cells, hld] at hsib hnext
        rcases hsib with ⟨b, e, hsib⟩ | hsib
        · left
          refine ⟨b, e, ?_⟩
          rw [ic117_2_eq]
          simp [ic117_2_b, hlt, hld, Corp.cells, hw, hw2, hx, hnm, hwi, hpl, hk, hsib]
        · by_cases hdep : (40 : Int) < IntKind.i64.wrap (((ds)[i]?.getD 0) + 1)
          · left
            refine ⟨i, 2, ?_⟩
            simp [hld] at hdep
            rw [ic117_2_eq]
            simp [ic117_2_b, hlt, hld, Corp.cells, hw, hw2, hx, hnm, hwi, hpl, hk, hsib, hdep]
          · simp [hld] at hdep
            have hdep := Int.not_lt.2 hdep
            rcases hnext with ⟨b, e, hnext⟩ | hnext
            · left
              refine ⟨b, e, ?_⟩
              rw [ic117_2_eq]
              simp [ic117_2_b, hlt, hld, Corp.cells, hw, hw2, hx, hnm, hwi, hpl, hk, hsib, hdep]
              simpa [List.map_set] using hnext
            · right
              rw [ic117_2_eq]
              simp [ic117_2_b, hlt, hld, Corp.cells, hw, hw2, hx, hnm, hwi, hpl, hk, hsib, hdep]
              simpa [List.map_set] using hnext
      · left
        refine ⟨i, 6, ?_⟩
        have hq1 : ¬ (q : Int) = -1 := by omega
        rw [ic117_2_eq]
        simp [ic117_2_b, hlt, hld, Corp.cells, hw, hw2, hx, hnm, hwi, hpl, hk, hq1]
    · rcases hpar with rfl | ⟨q, hq, rfl⟩
      · have hsib := sib_loop (c := c) (ns := ns) (ds := ds) (i := i) (x := ⟨xl, xb, xe, -1⟩) (by omega) i (by omega)
        have hnext := ih (i + 1) ((ds).set i (IntKind.i64.wrap (((ds)[i]?.getD 0) + 1))) (by omega) (by simp [hd])
        simp [Corp.cells, hld] at hsib hnext
        rcases hsib with ⟨b, e, hsib⟩ | hsib
        · left
          refine ⟨b, e, ?_⟩
          rw [ic117_2_eq]
          simp [ic117_2_b, hlt, hld, Corp.cells, hw, hw2, hx, hnm, hwi, hpl, hk, hsib]
        · by_cases hdep : (40 : Int) < IntKind.i64.wrap (((ds)[i]?.getD 0) + 1)
          · left
            refine ⟨i, 2, ?_⟩
            simp [hld] at hdep
            rw [ic117_2_eq]
            simp [ic117_2_b, hlt, hld, Corp.cells, hw, hw2, hx, hnm, hwi, hpl, hk, hsib, hdep]
          · simp [hld] at hdep
            have hdep := Int.not_lt.2 hdep
            rcases hnext with ⟨b, e, hnext⟩ | hnext
            · left
              refine ⟨b, e, ?_⟩
              rw [ic117_2_eq]
              simp [ic117_2_b, hlt, hld, Corp.cells, hw, hw2, hx, hnm, hwi, hpl, hk, hsib, hdep]
              simpa [List.map_set] using hnext
            · right
              rw [ic117_2_eq]
              simp [ic117_2_b, hlt, hld, Corp.cells, hw, hw2, hx, hnm, hwi, hpl, hk, hsib, hdep]
              simpa [List.map_set] using hnext
      · have hql : q < ns.length := by omega
        have hqd : q < ds.length := by omega
        cases hc1 : decide (xb < ns[q].b)
        · cases hc2 : decide (ns[q].e < xe)
          · have hsib := sib_loop (c := c) (ns := ns) (ds := ds.set i ds[q]) (i := i) (x := ⟨xl, xb, xe, (q : Int)⟩) (by omega) i (by omega)
            have hnext := ih (i + 1) ((ds.set i ds[q]).set i (IntKind.i64.wrap (((ds.set i ds[q])[i]?.getD 0) + 1))) (by omega) (by simp [hd])
            simp [Corp.cells, hld] at hsib hnext
            rcases hsib with ⟨b, e, hsib⟩ | hsib
            · left
              refine ⟨b, e, ?_⟩
              rw [ic117_2_eq]
              simp [ic117_2_b, hlt, hld, Corp.cells, hw, hw2, hx, hnm, hwi, hpl, hk, hql, hqd, hc1, hc2, hsib]
            · by_cases hdep : (40 : Int) < IntKind.i64.wrap (((ds.set i ds[q])[i]?.getD 0) + 1)
              · left
                refine ⟨i, 2, ?_⟩
                simp [hld] at hdep
                rw [ic117_2_eq]
                simp [ic117_2_b, hlt, hld, Corp.cells, hw, hw2, hx, hnm, hwi, hpl, hk, hql, hqd, hc1, hc2, hsib, hdep]
              · simp [hld] at hdep
                have hdep := Int.not_lt.2 hdep
                rcases hnext with ⟨b, e, hnext⟩ | hnext
                · left
                  refine ⟨b, e, ?_⟩
                  rw [ic117_2_eq]
                  simp [ic117_2_b, hlt, hld, Corp.cells, hw, hw2, hx, hnm, hwi, hpl, hk, hql, hqd, hc1, hc2, hsib, hdep]
                  simpa [List.map_set] using hnext
                · right
                  rw [ic117_2_eq]
                  simp [ic117_2_b, hlt, hld, Corp.cells, hw, hw2, hx, hnm, hwi, hpl, hk, hql, hqd, hc1, hc2, hsib, hdep]
                  simpa [List.map_set] using hnext
          · left
            refine ⟨i, 8, ?_⟩
            rw [ic117_2_eq]
            simp [ic117_2_b, hlt, hld, Corp.cells, hw, hw2, hx, hnm, hwi, hpl, hk, hql, hqd, hc1, hc2]
        · left
          refine ⟨i, 8, ?_⟩
          rw [ic117_2_eq]
          simp [ic117_2_b, hlt, hld, Corp.cells, hw, hw2, hx, hnm, hwi, hpl, hk, hql, hqd, hc1]

end Go.Ab.Prog
