/- The heads' check answers. -/
import Derived.Test.YtgiemhcpilkfaaaGreatDoorKValI

namespace Go.Ab.Prog
open Go Go.Ab
set_option linter.unusedSimpArgs false
set_option linter.unusedVariables false
set_option maxHeartbeats 8000000

theorem hd_loop {c : Corp} (hr : c.rels.length = c.heads.length) (hR : ∀ r ∈ c.rels, r ∈ relNames) (hn : c.heads.length ≤ 100) (ht : c.texts.length ≤ 100) : ∀ (d i : Nat), i + d = c.heads.length →
    (∃ b e : Int, evV prog ic118_0 ⟨tm [(1, .ptr 100 0), (4, I c.heads.length), (36, .list (c.heads.map I)), (37, I c.heads.length), (38, I i)], hp [(100, some (.box c.cells))]⟩
      = some (.ret, ⟨tm [(2, I b), (3, I e)], hp []⟩)) ∨
    evV prog ic118_0 ⟨tm [(1, .ptr 100 0), (4, I c.heads.length), (36, .list (c.heads.map I)), (37, I c.heads.length), (38, I i)], hp [(100, some (.box c.cells))]⟩
      = some (.exit 0, ⟨tm [], hp []⟩) := by
  intro d
  induction d with
  | zero =>
    intro i hi
    right
    have : ¬ i < c.heads.length := by omega
    rw [ic118_0_eq]
    simp [ic118_0_b, this, Corp.cells]
  | succ d ih =>
    intro i hi
    have hlt : i < c.heads.length := by omega
    have hlr : i < c.rels.length := by omega
    have hw : IntKind.i64.wrap ((i : Int) + 1) = i + 1 := wrap64 (by omega) (by omega)
    have hnext := ih (i + 1) (by omega)
    obtain ⟨nb, hnm⟩ := name_relNames (hR _ (List.getElem_mem hlr))
    obtain ⟨cy, hcy⟩ := cyc_ans hn hlt
    obtain ⟨ta, hta⟩ := textat_ex c c.heads[i] ht
    obtain ⟨tb, htb⟩ := textat_ex c i ht
    generalize hh : c.heads[i] = h at *
    generalize hrr : c.rels[i] = r at *
    simp [Corp.cells] at hta htb hnext hcy
    cases A : decide (h = -1)
    · cases B : decide (h < 0)
      · cases C : decide ((c.heads.length : Int) ≤ h)
        · cases D : decide (ta = tb)
          · left
            refine ⟨i, 8, ?_⟩
            rw [ic118_0_eq]
            simp [ic118_0_b, hlt, hlr, Corp.cells, hw, hh, hrr, hnm, hta, htb, hcy, A, B, C, D]
          · cases E : r.toList == (⟨#[]⟩ : ByteArray).toList
            · cases nb
              · left
                refine ⟨i, 4, ?_⟩
                rw [ic118_0_eq]
                simp [ic118_0_b, hlt, hlr, Corp.cells, hw, hh, hrr, hnm, hta, htb, hcy, A, B, C, D, E]
              · cases cy
                · rcases hnext with ⟨b, e, hnext⟩ | hnext
                  · left
                    refine ⟨b, e, ?_⟩
                    rw [ic118_0_eq]
                    simp [ic118_0_b, hlt, hlr, Corp.cells, hw, hh, hrr, hnm, hta, htb, hcy, A, B, C, D, E]
                    simpa using hnext
                  · right
                    rw [ic118_0_eq]
                    simp [ic118_0_b, hlt, hlr, Corp.cells, hw, hh, hrr, hnm, hta, htb, hcy, A, B, C, D, E]
                    simpa using hnext
                · left
                  refine ⟨i, 12, ?_⟩
                  rw [ic118_0_eq]
                  simp [ic118_0_b, hlt, hlr, Corp.cells, hw, hh, hrr, hnm, hta, htb, hcy, A, B, C, D, E]
            · cases cy
              · rcases hnext with ⟨b, e, hnext⟩ | hnext
                · left
                  refine ⟨b, e, ?_⟩
                  rw [ic118_0_eq]
                  simp [ic118_0_b, hlt, hlr, Corp.cells, hw, hh, hrr, hnm, hta, htb, hcy, A, B, C, D, E]
                  simpa using hnext
                · right
                  rw [ic118_0_eq]
                  simp [ic118_0_b, hlt, hlr, Corp.cells, hw, hh, hrr, hnm, hta, htb, hcy, A, B, C, D, E]
                  simpa using hnext
              · left
                refine ⟨i, 12, ?_⟩
                rw [ic118_0_eq]
                simp [ic118_0_b, hlt, hlr, Corp.cells, hw, hh, hrr, hnm, hta, htb, hcy, A, B, C, D, E]
        · left
          refine ⟨i, 8, ?_⟩
          rw [ic118_0_eq]
          simp [ic118_0_b, hlt, hlr, Corp.cells, hw, hh, hrr, hnm, hta, htb, hcy, A, B, C]
      · left
        refine ⟨i, 8, ?_⟩
        rw [ic118_0_eq]
        simp [ic118_0_b, hlt, hlr, Corp.cells, hw, hh, hrr, hnm, hta, htb, hcy, A, B]
    · cases E : r.toList == (⟨#[]⟩ : ByteArray).toList
      · cases nb
        · left
          refine ⟨i, 4, ?_⟩
          rw [ic118_0_eq]
          simp [ic118_0_b, hlt, hlr, Corp.cells, hw, hh, hrr, hnm, hta, htb, hcy, A, E]
        · cases cy
          · rcases hnext with ⟨b, e, hnext⟩ | hnext
            · left
              refine ⟨b, e, ?_⟩
              rw [ic118_0_eq]
              simp [ic118_0_b, hlt, hlr, Corp.cells, hw, hh, hrr, hnm, hta, htb, hcy, A, E]
              simpa using hnext
            · right
              rw [ic118_0_eq]
              simp [ic118_0_b, hlt, hlr, Corp.cells, hw, hh, hrr, hnm, hta, htb, hcy, A, E]
              simpa using hnext
          · left
            refine ⟨i, 12, ?_⟩
            rw [ic118_0_eq]
            simp [ic118_0_b, hlt, hlr, Corp.cells, hw, hh, hrr, hnm, hta, htb, hcy, A, E]
      · cases cy
        · rcases hnext with ⟨b, e, hnext⟩ | hnext
          · left
            refine ⟨b, e, ?_⟩
            rw [ic118_0_eq]
            simp [ic118_0_b, hlt, hlr, Corp.cells, hw, hh, hrr, hnm, hta, htb, hcy, A, E]
            simpa using hnext
          · right
            rw [ic118_0_eq]
            simp [ic118_0_b, hlt, hlr, Corp.cells, hw, hh, hrr, hnm, hta, htb, hcy, A, E]
            simpa using hnext
        · left
          refine ⟨i, 12, ?_⟩
          rw [ic118_0_eq]
          simp [ic118_0_b, hlt, hlr, Corp.cells, hw, hh, hrr, hnm, hta, htb, hcy, A, E]

theorem heads_ans {c : Corp} (hl : (c.heads = [] ∧ c.rels = []) ∨ (c.heads.length = c.toks.length ∧ c.rels.length = c.toks.length)) (hR : ∀ r ∈ c.rels, r ∈ relNames) (hn : c.toks.length ≤ 100) (ht : c.texts.length ≤ 100) : Ans 118 [.agg c.cells] := by
  have hr : c.rels.length = c.heads.length := by
    rcases hl with ⟨h1, h2⟩ | ⟨h1, h2⟩
    · simp [h1, h2]
    · omega
  have hlen : c.heads.length ≤ 100 := by
    rcases hl with ⟨h1, h2⟩ | ⟨h1, h2⟩
    · simp [h1]
    · omega
  have hloop := hd_loop hr hR hlen ht c.heads.length 0 (by omega)
  simp [Corp.cells] at hloop
  rcases hl with ⟨h1, h2⟩ | ⟨h1, h2⟩
  · simp [h1, h2] at hloop
    rcases hloop with ⟨b, e, h⟩ | h
    · refine ⟨b, e, callV_fn (body := ic118) rfl rfl ?_⟩
      simp [ic118, Corp.cells, h1, h2, h]
    · refine ⟨0, 0, callV_fn (body := ic118) rfl rfl ?_⟩
      simp [ic118, Corp.cells, h1, h2, h]
  · by_cases h0 : c.toks.length = 0
    · have e1 : c.heads = [] := List.length_eq_zero_iff.1 (by omega)
      have e2 : c.rels = [] := List.length_eq_zero_iff.1 (by omega)
      simp [e1, e2] at hloop
      rcases hloop with ⟨b, e, h⟩ | h
      · refine ⟨b, e, callV_fn (body := ic118) rfl rfl ?_⟩
        simp [ic118, Corp.cells, e1, e2, h]
      · refine ⟨0, 0, callV_fn (body := ic118) rfl rfl ?_⟩
        simp [ic118, Corp.cells, e1, e2, h]
    · obtain ⟨br, hb⟩ := bare_ans hr hlen
      have hp : 0 < c.toks.length := by omega
      have hne : ¬ c.toks = [] := fun e => h0 (by simp [e])
      rw [h1] at hloop
      cases br
      · rcases hloop with ⟨b, e, h⟩ | h
        · refine ⟨b, e, callV_fn (body := ic118) rfl rfl ?_⟩
          simp [ic118, Corp.cells, h1, h2, hb, hp, h, h0, hne]
        · refine ⟨0, 0, callV_fn (body := ic118) rfl rfl ?_⟩
          simp [ic118, Corp.cells, h1, h2, hb, hp, h, h0, hne]
      · refine ⟨0, 14, callV_fn (body := ic118) rfl rfl ?_⟩
        simp [ic118, Corp.cells, h1, h2, hb, hp, h0, hne]

end Go.Ab.Prog
