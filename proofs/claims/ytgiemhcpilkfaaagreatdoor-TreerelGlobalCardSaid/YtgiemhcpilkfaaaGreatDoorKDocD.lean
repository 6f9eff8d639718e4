/- The list of a document's regions. -/
import Derived.Test.YtgiemhcpilkfaaaGreatDoorKDocC

namespace Go.Ab.Prog
open Go Go.Ab
set_option linter.unusedSimpArgs false
set_option maxHeartbeats 4000000

def PrOk (p : Pr) : Prop := p.1 = ⟨#[110]⟩ ∧ (p.2 = ⟨#[49]⟩ ∨ p.2 = ⟨#[50]⟩)
def RgOk (r : Rg) : Prop := r.typ ∈ types ∧ (r.keys = [] ∨ ∃ p, PrOk p ∧ r.keys = [p])

theorem reg_ar {b x n y e : Int} (hx0 : 0 ≤ b) (hx1 : b < n) (hn : n ≤ 7) (hy0 : 0 ≤ y) (hy1 : y < n - b) : IntKind.i64.wrap (b + 1) = b + 1 ∧ IntKind.i64.wrap (n - b) = n - b ∧ IntKind.i64.wrap (b + 1 + y) = b + 1 + y :=
  ⟨wrap64 (by omega) (by omega), wrap64 (by omega) (by omega), wrap64 (by omega) (by omega)⟩

theorem reg_loop {l : List Int} (hl : small l) {n : Int} (hn : 1 ≤ n ∧ n ≤ 7) {nt : Nat} {tr tx : List PV} : ∀ (k a : Nat) (ms : List Rg), k ≤ 4 → ms.length ≤ 4 - k → (∀ r ∈ ms, RgOk r) →
    ∃ (a' : Nat) (ms' : List Rg), ms'.length ≤ 4 ∧ (∀ r ∈ ms', RgOk r) ∧
      evV prog ic25_2 ⟨tm [(0, .ptr 0 0), (6, .ptr 105 0), (7, I n), (8, .ptr 104 0), (11, .arr 102 ms.length 0 ms.length), (12, I k)], hp [(0, some (.box (tape l a))), (100, some (.arr 1 tr false)), (102, some (.arr 4 (ms.map Rg.enc) false)), (103, some (.arr 4 tx false)), (104, some (.box (docBox nt))), (105, some (.box emptyC))]⟩
        = some (.exit 2, ⟨tm [(0, .ptr 0 0), (6, .ptr 105 0), (8, .ptr 104 0), (11, .arr 102 ms'.length 0 ms'.length)], hp [(0, some (.box (tape l a'))), (100, some (.arr 1 tr false)), (102, some (.arr 4 (ms'.map Rg.enc) false)), (103, some (.arr 4 tx false)), (104, some (.box (docBox nt))), (105, some (.box emptyC))]⟩) := by
  intro k
  induction k with
  | zero =>
    intro a ms _ hlen hms
    refine ⟨a, ms, by omega, hms, ?_⟩
    rw [ic25_2_eq]
    simp [ic25_2_b, docBox]
  | succ k ih =>
    intro a ms hk hlen hms
    have hkp : (0 : Int) < (k : Int) + 1 := by omega
    have hwk : IntKind.i64.wrap (k : Int) = k := wrap64 (by omega) (by omega)
    have m1 : (ms.length + 1) * 56 ≤ room := by unfold room; omega
    have m2 : ms.length + 1 ≤ room := by unfold room; omega
    have hml : ms.length ≤ 100 := by omega
    have b0 := next_nonneg l a n
    have b1 := next_lt l a (n := n) hn.1
    have hn9 : n < 9223372036854775808 := by omega
    generalize hb : next l a n = b at *
    have y0 := next_nonneg l (adv l (adv l a)) (n - b)
    have y1 := next_lt l (adv l (adv l a)) (n := n - b) (by omega)
    have hn10 : n - b < 9223372036854775808 := by omega
    obtain ⟨w1, w2, w3⟩ := reg_ar (x := 0) (e := 0) b0 b1 hn.2 y0 y1
    generalize hy : b + 1 + next l (adv l (adv l a)) (n - b) = e at *
    obtain ⟨ty, tym, tyc⟩ := type_ex (next_nonneg l (adv l a) 2) (Int.lt_trans (next_lt l (adv l a) (n := 2) (by decide)) (by decide))
    by_cases hq : next l (adv l (adv l (adv l a))) 2 = 1
    · obtain ⟨cr, hcr⟩ := cross_loop (l := l) (a := adv l (adv l (adv l (adv l (adv l a))))) (ms := ms) (r := ⟨ty, b, e, []⟩) hml (kv := .list [.agg [.str ⟨#[110]⟩, .str (pick2 (next l (adv l (adv l (adv l (adv l a)))) 2) ⟨#[49]⟩ ⟨#[50]⟩)]]) rfl (n := n.toNat) (k := k + 1) (nt := nt) (tr := tr) (tx := tx) ms.length 0 false (by omega)
      have hnn : ((n.toNat : Nat) : Int) = n := by omega
      simp [Rg.enc, docBox, hnn] at hcr
      cases cr
      · obtain ⟨a', ms', j1, j2, j3⟩ := ih (adv l (adv l (adv l (adv l (adv l a))))) (ms ++ [⟨ty, b, e, [(⟨#[110]⟩, pick2 (next l (adv l (adv l (adv l (adv l a)))) 2) ⟨#[49]⟩ ⟨#[50]⟩)]⟩]) (by omega) (by simp; omega) (fun r hr => by
          rcases List.mem_append.1 hr with h | h
          · exact hms r h
          · rw [List.mem_singleton.1 h]; exact ⟨tym, .inr ⟨_, ⟨rfl, by rcases next2 l (adv l (adv l (adv l (adv l a)))) with h | h <;> simp [h, pick2]⟩, rfl⟩⟩)
        refine ⟨a', ms', j1, j2, ?_⟩
        rw [ic25_2_eq]
        simp [ic25_2_b, docBox, hkp, hl, hb, hn9, hn10, w1, w2, w3, hy, tyc, hq, hcr, m1, m2, hwk]
        simpa [Rg.enc, docBox, prEnc] using j3
      · obtain ⟨a', ms', j1, j2, j3⟩ := ih (adv l (adv l (adv l (adv l (adv l a))))) ms (by omega) (by omega) hms
        refine ⟨a', ms', j1, j2, ?_⟩
        rw [ic25_2_eq]
        simp [ic25_2_b, docBox, hkp, hl, hb, hn9, hn10, w1, w2, w3, hy, tyc, hq, hcr, m1, m2, hwk]
        simpa [Rg.enc, docBox, prEnc] using j3
    · obtain ⟨cr, hcr⟩ := cross_loop (l := l) (a := adv l (adv l (adv l (adv l a)))) (ms := ms) (r := ⟨ty, b, e, []⟩) hml (kv := .nil) rfl (n := n.toNat) (k := k + 1) (nt := nt) (tr := tr) (tx := tx) ms.length 0 false (by omega)
      have hnn : ((n.toNat : Nat) : Int) = n := by omega
      simp [Rg.enc, docBox, hnn] at hcr
      cases cr
      · obtain ⟨a', ms', j1, j2, j3⟩ := ih (adv l (adv l (adv l (adv l a)))) (ms ++ [⟨ty, b, e, []⟩]) (by omega) (by simp; omega) (fun r hr => by
          rcases List.mem_append.1 hr with h | h
          · exact hms r h
          · rw [List.mem_singleton.1 h]; exact ⟨tym, .inl rfl⟩)
        refine ⟨a', ms', j1, j2, ?_⟩
        rw [ic25_2_eq]
        simp [ic25_2_b, docBox, hkp, hl, hb, hn9, hn10, w1, w2, w3, hy, tyc, hq, hcr, m1, m2, hwk]
        simpa [Rg.enc, docBox, prEnc] using j3
      · obtain ⟨a', ms', j1, j2, j3⟩ := ih (adv l (adv l (adv l (adv l a)))) ms (by omega) (by omega) hms
        refine ⟨a', ms', j1, j2, ?_⟩
        rw [ic25_2_eq]
        simp [ic25_2_b, docBox, hkp, hl, hb, hn9, hn10, w1, w2, w3, hy, tyc, hq, hcr, m1, m2, hwk]
        simpa [Rg.enc, docBox, prEnc] using j3

end Go.Ab.Prog
