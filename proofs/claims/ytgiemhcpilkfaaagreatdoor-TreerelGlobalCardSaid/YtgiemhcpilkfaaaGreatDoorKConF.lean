/- The corpora that are made of a tape. -/
import Derived.Test.YtgiemhcpilkfaaaGreatDoorKConE

namespace Go.Ab.Prog
open Go Go.Ab
set_option linter.unusedSimpArgs false
set_option linter.unusedVariables false
set_option maxHeartbeats 8000000

theorem cor_loop {l : List Int} (hl : small l) {most : Int} (hm : 1 ≤ most ∧ most ≤ 7) : ∀ (n a : Nat) (c : Corp), n ≤ 2 → Okc (3 - n) c →
    ∃ (a' : Nat) (c' : Corp), Okc 3 c' ∧
      evV prog ic10_0 ⟨tm [(0, .ptr 0 0), (1, I most), (4, .ptr 100 0), (5, .ptr 101 0), (6, I n)], hp [(0, some (.box (tape l a))), (100, some (.box nil7)), (101, some (.box c.cells))]⟩
        = some (.exit 0, ⟨tm [(4, .ptr 100 0), (5, .ptr 101 0)], hp [(0, some (.box (tape l a'))), (100, some (.box nil7)), (101, some (.box c'.cells))]⟩) := by
  intro n
  induction n with
  | zero =>
    intro a c _ hc
    refine ⟨a, c, hc, ?_⟩
    rw [ic10_0_eq]
    simp [ic10_0_b, Corp.cells, nil7]
  | succ n ih =>
    intro a c hn hc
    have w0 : IntKind.i64.wrap 0 = 0 := wrap64 (by omega) (by omega)
    have w1 : IntKind.i64.wrap 1 = 1 := wrap64 (by omega) (by omega)
    have hn2 : n = 0 ∨ n = 1 := by omega
    rcases hn2 with rfl | rfl
    · obtain ⟨a1, d, hd, hdc⟩ := doc_spec hl a ⟨#[116, 49]⟩ hm
      have hdk := hd.okc (by simp [names])
      have hcat := cat_okc hc hdk (by omega)
      simp only [Nat.reduceSub] at ih
      rcases concat_spec hc hdk (by omega) with ⟨e, he, hcc⟩ | hcc
      · obtain ⟨a', c', h5, h6⟩ := ih a1 c (by omega) (hc.mono (by omega))
        refine ⟨a', c', h5, ?_⟩
        rw [ic10_0_eq]
        simp [Corp.cells, nil7] at hdc hcc h6
        simp [ic10_0_b, Corp.cells, nil7, w0, w1, hdc, hcc, he]
        simpa using h6
      · obtain ⟨a', c', h5, h6⟩ := ih a1 (cat c d) (by omega) hcat
        refine ⟨a', c', h5, ?_⟩
        rw [ic10_0_eq]
        simp only [Corp.cells, nil7] at hdc hcc h6
        simp [ic10_0_b, Corp.cells, nil7, w0, w1, hdc, hcc]
        simpa using h6
    · obtain ⟨a1, d, hd, hdc⟩ := doc_spec hl a ⟨#[116, 50]⟩ hm
      have hdk := hd.okc (by simp [names])
      have hcat := cat_okc hc hdk (by omega)
      simp only [Nat.reduceSub] at ih
      rcases concat_spec hc hdk (by omega) with ⟨e, he, hcc⟩ | hcc
      · obtain ⟨a', c', h5, h6⟩ := ih a1 c (by omega) (hc.mono (by omega))
        refine ⟨a', c', h5, ?_⟩
        rw [ic10_0_eq]
        simp [Corp.cells, nil7] at hdc hcc h6
        simp [ic10_0_b, Corp.cells, nil7, w0, w1, hdc, hcc, he]
        simpa using h6
      · obtain ⟨a', c', h5, h6⟩ := ih a1 (cat c d) (by omega) hcat
        refine ⟨a', c', h5, ?_⟩
        rw [ic10_0_eq]
        simp only [Corp.cells, nil7] at hdc hcc h6
        simp [ic10_0_b, Corp.cells, nil7, w0, w1, hdc, hcc]
        simpa using h6

theorem corpus_spec {l : List Int} (hl : small l) (a : Nat) {most : Int} (hm : 1 ≤ most ∧ most ≤ 7) :
    ∃ (a' : Nat) (c : Corp), Okc 3 c ∧ callV prog 10 [.boxed (tape l a), I most] = some (.agg c.cells, [tape l a']) := by
  obtain ⟨a1, d, hd, hdc⟩ := doc_spec hl a ⟨#[116, 48]⟩ hm
  have hdk := hd.okc (by simp [names])
  have n0 := next_nonneg l a1 3
  have n1 := next_lt l a1 (n := 3) (by omega)
  obtain ⟨n, hn⟩ : ∃ n : Nat, next l a1 3 = n := ⟨(next l a1 3).toNat, by omega⟩
  obtain ⟨a', c, hc, hl2⟩ := cor_loop hl hm n (adv l a1) d (by omega) (hdk.mono (by omega))
  refine ⟨a', c, hc, callV_fn (body := ic10) rfl rfl ?_⟩
  simp [Corp.cells, nil7] at hdc hl2
  simp [ic10, Corp.cells, nil7, hdc, hl, hn, hl2]

end Go.Ab.Prog
