/- The checks of texts and regions answer; the parts of the heads' check. -/
import Derived.Test.YtgiemhcpilkfaaaGreatDoorKValH

namespace Go.Ab.Prog
open Go Go.Ab
set_option linter.unusedSimpArgs false
set_option linter.unusedVariables false
set_option maxHeartbeats 8000000

theorem texts_ans {c : Corp} (hc : Totals c) (hn : 1 ≤ c.texts.length ∧ c.texts.length ≤ 60) (ht : 1 ≤ c.toks.length ∧ c.toks.length ≤ 100) : Ans 115 [.agg c.cells] := by
  have h1 : ¬ (64 : Int) < c.texts.length := by omega
  have h2 : ¬ c.texts.length = 0 := by omega
  have h3 : ¬ c.toks.length = 0 := by omega
  have h2' : ¬ c.texts = [] := fun e => h2 (by simp [e])
  have h3' : ¬ c.toks = [] := fun e => h3 (by simp [e])
  rcases txt_loop hc (by omega) (by omega) c.texts.length 0 0 (by omega) with ⟨b, e, h⟩ | h
  · refine ⟨b, e, callV_fn (body := ic115) rfl rfl ?_⟩
    simp [Corp.cells] at h
    simp [ic115, Corp.cells, h1, h2, h3, h2', h3', h]
  · refine ⟨0, 0, callV_fn (body := ic115) rfl rfl ?_⟩
    simp [Corp.cells] at h
    simp [ic115, Corp.cells, h1, h2, h3, h2', h3', h]

theorem regs_ans {c : Corp} (hc : RegsOk c) (hn : c.regs.length ≤ 100) (ht : c.texts.length ≤ 100) : Ans 116 [.agg c.cells] := by
  have h1 : ¬ (1024 : Int) < c.regs.length := by omega
  rcases rg_out hc hn ht c.regs.length 0 (by omega) with ⟨b, e, h⟩ | h
  · refine ⟨b, e, callV_fn (body := ic116) rfl rfl ?_⟩
    simp [Corp.cells] at h
    simp [ic116, Corp.cells, h1, h]
  · refine ⟨0, 0, callV_fn (body := ic116) rfl rfl ?_⟩
    simp [Corp.cells] at h
    simp [ic116, Corp.cells, h1, h]

theorem textat_loop {c : Corp} {p : Int} (hn : c.texts.length ≤ 100) : ∀ (d j : Nat), j + d = c.texts.length →
    (∃ b : Int, evV prog ic143_0 ⟨tm [(1, I p), (8, .list (c.texts.map Tx.enc)), (9, I c.texts.length), (10, I j)], hp []⟩ = some (.ret, ⟨tm [(4, I b)], hp []⟩)) ∨
    evV prog ic143_0 ⟨tm [(1, I p), (8, .list (c.texts.map Tx.enc)), (9, I c.texts.length), (10, I j)], hp []⟩ = some (.exit 0, ⟨tm [], hp []⟩) := by
  intro d
  induction d with
  | zero =>
    intro j hj
    right
    have : ¬ j < c.texts.length := by omega
    rw [ic143_0_eq]
    simp [ic143_0_b, this]
  | succ d ih =>
    intro j hj
    have hlt : j < c.texts.length := by omega
    have hw : IntKind.i64.wrap ((j : Int) + 1) = j + 1 := wrap64 (by omega) (by omega)
    have hi := ih (j + 1) (by omega)
    generalize hy : c.texts[j] = y at *
    cases A : decide (y.b ≤ p)
    · rcases hi with ⟨b, hi⟩ | hi
      · left
        refine ⟨b, ?_⟩
        rw [ic143_0_eq]
        simp [ic143_0_b, hlt, hw, hy, Tx.enc, A]
        simpa [Tx.enc] using hi
      · right
        rw [ic143_0_eq]
        simp [ic143_0_b, hlt, hw, hy, Tx.enc, A]
        simpa [Tx.enc] using hi
    · cases B : decide (p < y.e)
      · rcases hi with ⟨b, hi⟩ | hi
        · left
          refine ⟨b, ?_⟩
          rw [ic143_0_eq]
          simp [ic143_0_b, hlt, hw, hy, Tx.enc, A, B]
          simpa [Tx.enc] using hi
        · right
          rw [ic143_0_eq]
          simp [ic143_0_b, hlt, hw, hy, Tx.enc, A, B]
          simpa [Tx.enc] using hi
      · left
        refine ⟨j, ?_⟩
        rw [ic143_0_eq]
        simp [ic143_0_b, hlt, hw, hy, Tx.enc, A, B]

theorem textat_ex (c : Corp) (p : Int) (hn : c.texts.length ≤ 100) : ∃ r : Int, callV prog 143 [.agg c.cells, I p] = some (I r, []) := by
  rcases textat_loop (c := c) (p := p) hn c.texts.length 0 (by omega) with ⟨b, h⟩ | h
  · refine ⟨b, callV_fn (body := ic143) rfl rfl ?_⟩
    simp [Corp.cells] at h
    simp [ic143, Corp.cells, h]
  · refine ⟨-1, callV_fn (body := ic143) rfl rfl ?_⟩
    simp [Corp.cells] at h
    simp [ic143, Corp.cells, h]

theorem bare_loop {hs : List Int} {rs : List ByteArray} (hr : rs.length = hs.length) (hn : hs.length ≤ 100) : ∀ (d j : Nat), j + d = hs.length →
    (evV prog ic142_0 ⟨tm [(0, .list (hs.map I)), (1, .list (rs.map .str)), (7, I hs.length), (8, I j)], hp []⟩ = some (.ret, ⟨tm [(4, .bool false)], hp []⟩)) ∨
    evV prog ic142_0 ⟨tm [(0, .list (hs.map I)), (1, .list (rs.map .str)), (7, I hs.length), (8, I j)], hp []⟩ = some (.exit 0, ⟨tm [], hp []⟩) := by
  intro d
  induction d with
  | zero =>
    intro j hj
    right
    have : ¬ j < hs.length := by omega
    rw [ic142_0_eq]
    simp [ic142_0_b, this]
  | succ d ih =>
    intro j hj
    have hlt : j < hs.length := by omega
    have hlr : j < rs.length := by omega
    have hw : IntKind.i64.wrap ((j : Int) + 1) = j + 1 := wrap64 (by omega) (by omega)
    have hi := ih (j + 1) (by omega)
    cases A : decide (hs[j] = -1)
    · left
      rw [ic142_0_eq]
      simp [ic142_0_b, hlt, hlr, hw, A]
    · cases B : rs[j].toList == (⟨#[]⟩ : ByteArray).toList
      · left
        rw [ic142_0_eq]
        simp [ic142_0_b, hlt, hlr, hw, A, B]
      · rcases hi with hi | hi
        · left
          rw [ic142_0_eq]
          simp [ic142_0_b, hlt, hlr, hw, A, B]
          simpa using hi
        · right
          rw [ic142_0_eq]
          simp [ic142_0_b, hlt, hlr, hw, A, B]
          simpa using hi

theorem bare_ans {hs : List Int} {rs : List ByteArray} (hr : rs.length = hs.length) (hn : hs.length ≤ 100) : ∃ r : Bool, callV prog 142 [.list (hs.map I), .list (rs.map .str)] = some (.bool r, []) := by
  rcases bare_loop hr hn hs.length 0 (by omega) with h | h
  · refine ⟨false, callV_fn (body := ic142) rfl rfl ?_⟩
    simp at h
    simp [ic142, h]
  · refine ⟨true, callV_fn (body := ic142) rfl rfl ?_⟩
    simp at h
    simp [ic142, h]

theorem cyc_loop {hs : List Int} {i : Int} (hn : hs.length ≤ 100) : ∀ (d j a : Nat), j + d = hs.length → a < hs.length →
    (∃ r : Bool, evV prog ic144_0 ⟨tm [(0, .list (hs.map I)), (1, I i), (5, I a), (8, I hs.length), (9, I j)], hp []⟩ = some (.ret, ⟨tm [(4, .bool r)], hp []⟩)) ∨
    evV prog ic144_0 ⟨tm [(0, .list (hs.map I)), (1, I i), (5, I a), (8, I hs.length), (9, I j)], hp []⟩ = some (.exit 0, ⟨tm [], hp []⟩) := by
  intro d
  induction d with
  | zero =>
    intro j a hj _
    right
    have : ¬ j < hs.length := by omega
    rw [ic144_0_eq]
    simp [ic144_0_b, this]
  | succ d ih =>
    intro j a hj ha
    have hlt : j < hs.length := by omega
    have hw : IntKind.i64.wrap ((j : Int) + 1) = j + 1 := wrap64 (by omega) (by omega)
    by_cases hneg : hs[a] < 0
    · left
      refine ⟨false, ?_⟩
      rw [ic144_0_eq]
      simp [ic144_0_b, hlt, ha, hw, hneg]
    · obtain ⟨v, hv⟩ : ∃ v : Nat, hs[a] = (v : Int) := ⟨hs[a].toNat, by omega⟩
      have hvn : ¬ (v : Int) < 0 := by omega
      by_cases hbig : hs.length ≤ v
      · left
        refine ⟨false, ?_⟩
        rw [ic144_0_eq]
        simp [ic144_0_b, hlt, ha, hw, hv, hvn, hbig]
      · cases he : decide ((v : Int) = i)
        · rcases ih (j + 1) v (by omega) (by omega) with ⟨r, hi⟩ | hi
          · left
            refine ⟨r, ?_⟩
            rw [ic144_0_eq]
            simp [ic144_0_b, hlt, ha, hw, hv, hvn, hbig, he]
            simpa using hi
          · right
            rw [ic144_0_eq]
            simp [ic144_0_b, hlt, ha, hw, hv, hvn, hbig, he]
            simpa using hi
        · left
          refine ⟨true, ?_⟩
          rw [ic144_0_eq]
          simp [ic144_0_b, hlt, ha, hw, hv, hvn, hbig, he]

theorem cyc_ans {hs : List Int} {a : Nat} (hn : hs.length ≤ 100) (ha : a < hs.length) : ∃ r : Bool, callV prog 144 [.list (hs.map I), I a] = some (.bool r, []) := by
  rcases cyc_loop (i := (a : Int)) hn hs.length 0 a (by omega) ha with ⟨r, h⟩ | h
  · refine ⟨r, callV_fn (body := ic144) rfl rfl ?_⟩
    simp at h
    simp [ic144, h]
  · refine ⟨false, callV_fn (body := ic144) rfl rfl ?_⟩
    simp at h
    simp [ic144, h]

end Go.Ab.Prog
