/- The regions of a document. -/
import Derived.Test.YtgiemhcpilkfaaaGreatDoorKDocB

namespace Go.Ab.Prog
open Go Go.Ab
set_option linter.unusedSimpArgs false
set_option maxHeartbeats 4000000

theorem cross_loop {l : List Int} {a : Nat} {ms : List Rg} {r : Rg} (hlen : ms.length ≤ 100) {kv : PV} (hkv : refC kv = []) {n k nt : Nat} {tr tx : List PV} : ∀ (m i : Nat) (cr : Bool), i + m = ms.length →
    ∃ cr' : Bool, evV prog ic25_1 ⟨tm [(0, .ptr 0 0), (6, .ptr 105 0), (7, I n), (8, .ptr 104 0), (11, .arr 102 ms.length 0 ms.length), (12, I k), (14, .ptr 106 0), (15, .bool cr), (101, .arr 102 ms.length 0 ms.length), (102, I ms.length), (103, I i)], hp [(0, some (.box (tape l a))), (100, some (.arr 1 tr false)), (102, some (.arr 4 (ms.map Rg.enc) false)), (103, some (.arr 4 tx false)), (104, some (.box (docBox nt))), (105, some (.box emptyC)), (106, some (.box [.str r.typ, I r.b, I r.e, kv]))]⟩
      = some (.exit 4, ⟨tm [(0, .ptr 0 0), (6, .ptr 105 0), (7, I n), (8, .ptr 104 0), (11, .arr 102 ms.length 0 ms.length), (12, I k), (14, .ptr 106 0), (15, .bool cr')], hp [(0, some (.box (tape l a))), (100, some (.arr 1 tr false)), (102, some (.arr 4 (ms.map Rg.enc) false)), (103, some (.arr 4 tx false)), (104, some (.box (docBox nt))), (105, some (.box emptyC)), (106, some (.box [.str r.typ, I r.b, I r.e, kv]))]⟩) := by
  intro m
  induction m with
  | zero =>
    intro i cr hi
    have : ¬ i < ms.length := by omega
    refine ⟨cr, ?_⟩
    rw [ic25_1_eq]
    simp [ic25_1_b, this, docBox, Rg.enc, hkv]
  | succ m ih =>
    intro i cr hi
    have hlt : i < ms.length := by omega
    have e1 : ms[i]? = some ms[i] := List.getElem?_eq_getElem _
    have hw1 : IntKind.i64.wrap ((i : Int) + 1) = i + 1 := wrap64 (by omega) (by omega)
    cases cr
    · cases c1 : ms[i].typ.toList == r.typ.toList
      · obtain ⟨c', hc⟩ := ih (i + 1) false (by omega)
        refine ⟨c', ?_⟩
        rw [ic25_1_eq]
        simp [ic25_1_b, hlt, e1, hw1, docBox, Rg.enc, hkv, c1]
        simpa [Rg.enc, docBox] using hc
      · by_cases c2 : ms[i].b < r.e
        · by_cases c3 : r.b < ms[i].e
          · by_cases c4 : ms[i].b ≤ r.b
            · by_cases c5 : r.e ≤ ms[i].e
              · obtain ⟨c', hc⟩ := ih (i + 1) false (by omega)
                refine ⟨c', ?_⟩
                rw [ic25_1_eq]
                simp [ic25_1_b, hlt, e1, hw1, docBox, Rg.enc, hkv, c1, c2, c3, c4, c5]
                simpa [Rg.enc, docBox] using hc
              · by_cases c6 : r.b ≤ ms[i].b
                · by_cases c7 : ms[i].e ≤ r.e
                  · obtain ⟨c', hc⟩ := ih (i + 1) false (by omega)
                    refine ⟨c', ?_⟩
                    rw [ic25_1_eq]
                    simp [ic25_1_b, hlt, e1, hw1, docBox, Rg.enc, hkv, c1, c2, c3, c4, c5, c6, c7]
                    simpa [Rg.enc, docBox] using hc
                  · obtain ⟨c', hc⟩ := ih (i + 1) true (by omega)
                    refine ⟨c', ?_⟩
                    rw [ic25_1_eq]
                    simp [ic25_1_b, hlt, e1, hw1, docBox, Rg.enc, hkv, c1, c2, c3, c4, c5, c6, c7]
                    simpa [Rg.enc, docBox] using hc
                · obtain ⟨c', hc⟩ := ih (i + 1) true (by omega)
                  refine ⟨c', ?_⟩
                  rw [ic25_1_eq]
                  simp [ic25_1_b, hlt, e1, hw1, docBox, Rg.enc, hkv, c1, c2, c3, c4, c5, c6]
                  simpa [Rg.enc, docBox] using hc
            · by_cases c6 : r.b ≤ ms[i].b
              · by_cases c7 : ms[i].e ≤ r.e
                · obtain ⟨c', hc⟩ := ih (i + 1) false (by omega)
                  refine ⟨c', ?_⟩
                  rw [ic25_1_eq]
                  simp [ic25_1_b, hlt, e1, hw1, docBox, Rg.enc, hkv, c1, c2, c3, c4, c6, c7]
                  simpa [Rg.enc, docBox] using hc
                · obtain ⟨c', hc⟩ := ih (i + 1) true (by omega)
                  refine ⟨c', ?_⟩
                  rw [ic25_1_eq]
                  simp [ic25_1_b, hlt, e1, hw1, docBox, Rg.enc, hkv, c1, c2, c3, c4, c6, c7]
                  simpa [Rg.enc, docBox] using hc
              · obtain ⟨c', hc⟩ := ih (i + 1) true (by omega)
                refine ⟨c', ?_⟩
                rw [ic25_1_eq]
                simp [ic25_1_b, hlt, e1, hw1, docBox, Rg.enc, hkv, c1, c2, c3, c4, c6]
                simpa [Rg.enc, docBox] using hc
          · obtain ⟨c', hc⟩ := ih (i + 1) false (by omega)
            refine ⟨c', ?_⟩
            rw [ic25_1_eq]
            simp [ic25_1_b, hlt, e1, hw1, docBox, Rg.enc, hkv, c1, c2, c3]
            simpa [Rg.enc, docBox] using hc
        · obtain ⟨c', hc⟩ := ih (i + 1) false (by omega)
          refine ⟨c', ?_⟩
          rw [ic25_1_eq]
          simp [ic25_1_b, hlt, e1, hw1, docBox, Rg.enc, hkv, c1, c2]
          simpa [Rg.enc, docBox] using hc
    · obtain ⟨c', hc⟩ := ih (i + 1) true (by omega)
      refine ⟨c', ?_⟩
      rw [ic25_1_eq]
      simp [ic25_1_b, hlt, e1, hw1, docBox, Rg.enc, hkv]
      simpa [Rg.enc, docBox] using hc

end Go.Ab.Prog
