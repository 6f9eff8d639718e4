/- The checks of texts and regions answer; the parts of the heads' check. And what follows from it, part by part. -/
import Derived.Test.YtgiemhcpilkfaaaGreatDoorKValG

/- Part ValI. -/
namespace Go.Ab.Prog
open Go Go.Ab
set_option linter.unusedSimpArgs false
set_option linter.unusedVariables false
set_option maxHeartbeats 8000000

theorem texts_ans {c : Corp} (hc : Totals c) (hn : 1 ≤ c.texts.length ∧ c.texts.length ≤ 60) (ht : 1 ≤ c.toks.length ∧ c.toks.length ≤ 100) : Ans 115 [.agg c.cells] := by
  have h1 : ¬ (64 : Int) < c.texts.length := by omega
  have h2 : ¬ c.texts.length = 0 := by omega
  have h3 : ¬ c.toks.length = 0 := by omega
  have h2' : ¬ c.texts = [] := fun e => h2 (by simp [e])
  have h3' : ¬ c.toks = [] := fun e => h3 (by simp [e])
  rcases txt_loop hc (by omega) (by omega) c.texts.length 0 0 (by omega) with ⟨b, e, h⟩ | h
  · refine ⟨b, e, callV_fn (body := ic115) rfl rfl ?_⟩
    simp [Corp.cells] at h
    simp [ic115, Corp.cells, h1, h2, h3, h2', h3', h]
  · refine ⟨0, 0, callV_fn (body := ic115) rfl rfl ?_⟩
    simp [Corp.cells] at h
    simp [ic115, Corp.cells, h1, h2, h3, h2', h3', h]

theorem regs_ans {c : Corp} (hc : RegsOk c) (hn : c.regs.length ≤ 100) (ht : c.texts.length ≤ 100) : Ans 116 [.agg c.cells] := by
  have h1 : ¬ (1024 : Int) < c.regs.length := by omega
  rcases rg_out hc hn ht c.regs.length 0 (by omega) with ⟨b, e, h⟩ | h
  · refine ⟨b, e, callV_fn (body := ic116) rfl rfl ?_⟩
    simp [Corp.cells] at h
    simp [ic116, Corp.cells, h1, h]
  · refine ⟨0, 0, callV_fn (body := ic116) rfl rfl ?_⟩
    simp [Corp.cells] at h
    simp [ic116, Corp.cells, h1, h]

theorem textat_loop {c : Corp} {p : Int} (hn : c.texts.length ≤ 100) : ∀ (d j : Nat), j + d = c.texts.length →
    (∃ b : Int, evV prog ic143_0 ⟨tm [(1, I p), (8, .list (c.texts.map Tx.enc)), (9, I c.texts.length), (10, I j)], hp []⟩ = some (.ret, ⟨tm [(4, I b)], hp []⟩)) ∨
    evV prog ic143_0 ⟨tm [(1, I p), (8, .list (c.texts.map Tx.enc)), (9, I c.texts.length), (10, I j)], hp []⟩ = some (.exit 0, ⟨tm [], hp []⟩) := by
  intro d
  induction d with
  | zero =>
    intro j hj
    right
    have : ¬ j < c.texts.length := by omega
    rw [ic143_0_eq]
    simp [ic143_0_b, this]
  | succ d ih =>
    intro j hj
    have hlt : j < c.texts.length := by omega
    have hw : IntKind.i64.wrap ((j : Int) + 1) = j + 1 := wrap64 (by omega) (by omega)
    have hi := ih (j + 1) (by omega)
    generalize hy : c.texts[j] = y at *
    cases A : decide (y.b ≤ p)
    · rcases hi with ⟨b, hi⟩ | hi
      · left
        refine ⟨b, ?_⟩
        rw [ic143_0_eq]
        simp [ic143_0_b, hlt, hw, hy, Tx.enc, A]
        simpa [Tx.enc] using hi
      · right
        rw [ic143_0_eq]
        simp [ic143_0_b, hlt, hw, hy, Tx.enc, A]
        simpa [Tx.enc] using hi
    · cases B : decide (p < y.e)
      · rcases hi with ⟨b, hi⟩ | hi
        · left
          refine ⟨b, ?_⟩
          rw [ic143_0_eq]
          simp [ic143_0_b, hlt, hw, hy, Tx.enc, A, B]
          simpa [Tx.enc] using hi
        · right
          rw [ic143_0_eq]
          simp [ic143_0_b, hlt, hw, hy, Tx.enc, A, B]
          simpa [Tx.enc] using hi
      · left
        refine ⟨j, ?_⟩
        rw [ic143_0_eq]
        simp [ic143_0_b, hlt, hw, hy, Tx.enc, A, B]

theorem textat_ex (c : Corp) (p : Int) (hn : c.texts.length ≤ 100) : ∃ r : Int, callV prog 143 [.agg c.cells, I p] = some (I r, []) := by
  rcases textat_loop (c := c) (p := p) hn c.texts.length 0 (by omega) with ⟨b, h⟩ | h
  · refine ⟨b, callV_fn (body := ic143) rfl rfl ?_⟩
    simp [Corp.cells] at h
    simp [ic143, Corp.cells, h]
  · refine ⟨-1, callV_fn (body := ic143) rfl rfl ?_⟩
    simp [Corp.cells] at h
    simp [ic143, Corp.cells, h]

theorem bare_loop {hs : List Int} {rs : List ByteArray} (hr : rs.length = hs.length) (hn : hs.length ≤ 100) : ∀ (d j : Nat), j + d = hs.length →
    (evV prog ic142_0 ⟨tm [(0, .list (hs.map I)), (1, .list (rs.map .str)), (7, I hs.length), (8, I j)], hp []⟩ = some (.ret, ⟨tm [(4, .bool false)], hp []⟩)) ∨
    evV prog ic142_0 ⟨tm [(0, .list (hs.map I)), (1, .list (rs.map .str)), (7, I hs.length), (8, I j)], hp []⟩ = some (.exit 0, ⟨tm [], hp []⟩) := by
  intro d
  induction d with
  | zero =>
    intro j hj
    right
    have : ¬ j < hs.length := by omega
    rw [ic142_0_eq]
    simp [ic142_0_b, this]
  | succ d ih =>
    intro j hj
    have hlt : j < hs.length := by omega
    have hlr : j < rs.length := by omega
    have hw : IntKind.i64.wrap ((j : Int) + 1) = j + 1 := wrap64 (by omega) (by omega)
    have hi := ih (j + 1) (by omega)
    cases A : decide (hs[j] = -1)
    · left
      rw [ic142_0_eq]
      simp [ic142_0_b, hlt, hlr, hw, A]
    · cases B : rs[j].toList == (⟨#[]⟩ : ByteArray).toList
      · left
        rw [ic142_0_eq]
        simp [ic142_0_b, hlt, hlr, hw, A, B]
      · rcases hi with hi | hi
        · left
          rw [ic142_0_eq]
          simp [ic142_0_b, hlt, hlr, hw, A, B]
          simpa using hi
        · right
          rw [ic142_0_eq]
          simp [ic142_0_b, hlt, hlr, hw, A, B]
          simpa using hi

theorem bare_ans {hs : List Int} {rs : List ByteArray} (hr : rs.length = hs.length) (hn : hs.length ≤ 100) : ∃ r : Bool, callV prog 142 [.list (hs.map I), .list (rs.map .str)] = some (.bool r, []) := by
  rcases bare_loop hr hn hs.length 0 (by omega) with h | h
  · refine ⟨false, callV_fn (body := ic142) rfl rfl ?_⟩
    simp at h
    simp [ic142, h]
  · refine ⟨true, callV_fn (body := ic142) rfl rfl ?_⟩
    simp at h
    simp [ic142, h]

theorem cyc_loop {hs : List Int} {i : Int} (hn : hs.length ≤ 100) : ∀ (d j a : Nat), j + d = hs.length → a < hs.length →
    (∃ r : Bool, evV prog ic144_0 ⟨tm [(0, .list (hs.map I)), (1, I i), (5, I a), (8, I hs.length), (9, I j)], hp []⟩ = some (.ret, ⟨tm [(4, .bool r)], hp []⟩)) ∨
    evV prog ic144_0 ⟨tm [(0, .list (hs.map I)), (1, I i), (5, I a), (8, I hs.length), (9, I j)], hp []⟩ = some (.exit 0, ⟨tm [], hp []⟩) := by
  intro d
  induction d with
  | zero =>
    intro j a hj _
    right
    have : ¬ j < hs.length := by omega
    rw [ic144_0_eq]
    simp [ic144_0_b, this]
  | succ d ih =>
    intro j a hj ha
    have hlt : j < hs.length := by omega
    have hw : IntKind.i64.wrap ((j : Int) + 1) = j + 1 := wrap64 (by omega) (by omega)
    by_cases hneg : hs[a] < 0
    · left
      refine ⟨false, ?_⟩
      rw [ic144_0_eq]
      simp [ic144_0_b, hlt, ha, hw, hneg]
    · obtain ⟨v, hv⟩ : ∃ v : Nat, hs[a] = (v : Int) := ⟨hs[a].toNat, by omega⟩
      have hvn : ¬ (v : Int) < 0 := by omega
      by_cases hbig : hs.length ≤ v
      · left
        refine ⟨false, ?_⟩
        rw [ic144_0_eq]
        simp [ic144_0_b, hlt, ha, hw, hv, hvn, hbig]
      · cases he : decide ((v : Int) = i)
        · rcases ih (j + 1) v (by omega) (by omega) with ⟨r, hi⟩ | hi
          · left
            refine ⟨r, ?_⟩
            rw [ic144_0_eq]
            simp [ic144_0_b, hlt, ha, hw, hv, hvn, hbig, he]
            simpa using hi
          · right
            rw [ic144_0_eq]
            simp [ic144_0_b, hlt, ha, hw, hv, hvn, hbig, he]
            simpa using hi
        · left
          refine ⟨true, ?_⟩
          rw [ic144_0_eq]
          simp [ic144_0_b, hlt, ha, hw, hv, hvn, hbig, he]

theorem cyc_ans {hs : List Int} {a : Nat} (hn : hs.length ≤ 100) (ha : a < hs.length) : ∃ r : Bool, callV prog 144 [.list (hs.map I), I a] = some (.bool r, []) := by
  rcases cyc_loop (i := (a : Int)) hn hs.length 0 a (by omega) ha with ⟨r, h⟩ | h
  · refine ⟨r, callV_fn (body := ic144) rfl rfl ?_⟩
    simp at h
    simp [ic144, h]
  · refine ⟨false, callV_fn (body := ic144) rfl rfl ?_⟩
    simp at h
    simp [ic144, h]

end Go.Ab.Prog

/- Part ValJ. -/
namespace Go.Ab.Prog
open Go Go.Ab
set_option linter.unusedSimpArgs false
set_option linter.unusedVariables false
set_option maxHeartbeats 8000000

theorem hd_loop {c : Corp} (hr : c.rels.length = c.heads.length) (hR : ∀ r ∈ c.rels, r ∈ relNames) (hn : c.heads.length ≤ 100) (ht : c.texts.length ≤ 100) : ∀ (d i : Nat), i + d = c.heads.length →
    (∃ b e : Int, evV prog ic118_0 ⟨tm [(1, .ptr 100 0), (4, I c.heads.length), (36, .list (c.heads.map I)), (37, I c.heads.length), (38, I i)], hp [(100, some (.box c.cells))]⟩
      = some (.ret, ⟨tm [(2, I b), (3, I e)], hp []⟩)) ∨
    evV prog ic118_0 ⟨tm [(1, .ptr 100 0), (4, I c.heads.length), (36, .list (c.heads.map I)), (37, I c.heads.length), (38, I i)], hp [(100, some (.box c.cells))]⟩
      = some (.exit 0, ⟨tm [], hp []⟩) := by
  intro d
  induction d with
  | zero =>
    intro i hi
    right
    have : ¬ i < c.heads.length := by omega
    rw [ic118_0_eq]
    simp [ic118_0_b, this, Corp.cells]
  | succ d ih =>
    intro i hi
    have hlt : i < c.heads.length := by omega
    have hlr : i < c.rels.length := by omega
    have hw : IntKind.i64.wrap ((i : Int) + 1) = i + 1 := wrap64 (by omega) (by omega)
    have hnext := ih (i + 1) (by omega)
    obtain ⟨nb, hnm⟩ := name_relNames (hR _ (List.getElem_mem hlr))
    obtain ⟨cy, hcy⟩ := cyc_ans hn hlt
    obtain ⟨ta, hta⟩ := textat_ex c c.heads[i] ht
    obtain ⟨tb, htb⟩ := textat_ex c i ht
    generalize hh : c.heads[i] = h at *
    generalize hrr : c.rels[i] = r at *
    simp [Corp.cells] at hta htb hnext hcy
    cases A : decide (h = -1)
    · cases B : decide (h < 0)
      · cases C : decide ((c.heads.length : Int) ≤ h)
        · cases D : decide (ta = tb)
          · left
            refine ⟨i, 8, ?_⟩
            rw [ic118_0_eq]
            simp [ic118_0_b, hlt, hlr, Corp.cells, hw, hh, hrr, hnm, hta, htb, hcy, A, B, C, D]
          · cases E : r.toList == (⟨#[]⟩ : ByteArray).toList
            · cases nb
              · left
                refine ⟨i, 4, ?_⟩
                rw [ic118_0_eq]
                simp [ic118_0_b, hlt, hlr, Corp.cells, hw, hh, hrr, hnm, hta, htb, hcy, A, B, C, D, E]
              · cases cy
                · rcases hnext with ⟨b, e, hnext⟩ | hnext
                  · left
                    refine ⟨b, e, ?_⟩
                    rw [ic118_0_eq]
                    simp [ic118_0_b, hlt, hlr, Corp.cells, hw, hh, hrr, hnm, hta, htb, hcy, A, B, C, D, E]
                    simpa using hnext
                  · right
                    rw [ic118_0_eq]
                    simp [ic118_0_b, hlt, hlr, Corp.cells, hw, hh, hrr, hnm, hta, htb, hcy, A, B, C, D, E]
                    simpa using hnext
                · left
                  refine ⟨i, 12, ?_⟩
                  rw [ic118_0_eq]
                  simp [ic118_0_b, hlt, hlr, Corp.cells, hw, hh, hrr, hnm, hta, htb, hcy, A, B, C, D, E]
            · cases cy
              · rcases hnext with ⟨b, e, hnext⟩ | hnext
                · left
                  refine ⟨b, e, ?_⟩
                  rw [ic118_0_eq]
                  simp [ic118_0_b, hlt, hlr, Corp.cells, hw, hh, hrr, hnm, hta, htb, hcy, A, B, C, D, E]
                  simpa using hnext
                · right
                  rw [ic118_0_eq]
                  simp [ic118_0_b, hlt, hlr, Corp.cells, hw, hh, hrr, hnm, hta, htb, hcy, A, B, C, D, E]
                  simpa using hnext
              · left
                refine ⟨i, 12, ?_⟩
                rw [ic118_0_eq]
                simp [ic118_0_b, hlt, hlr, Corp.cells, hw, hh, hrr, hnm, hta, htb, hcy, A, B, C, D, E]
        · left
          refine ⟨i, 8, ?_⟩
          rw [ic118_0_eq]
          simp [ic118_0_b, hlt, hlr, Corp.cells, hw, hh, hrr, hnm, hta, htb, hcy, A, B, C]
      · left
        refine ⟨i, 8, ?_⟩
        rw [ic118_0_eq]
        simp [ic118_0_b, hlt, hlr, Corp.cells, hw, hh, hrr, hnm, hta, htb, hcy, A, B]
    · cases E : r.toList == (⟨#[]⟩ : ByteArray).toList
      · cases nb
        · left
          refine ⟨i, 4, ?_⟩
          rw [ic118_0_eq]
          simp [ic118_0_b, hlt, hlr, Corp.cells, hw, hh, hrr, hnm, hta, htb, hcy, A, E]
        · cases cy
          · rcases hnext with ⟨b, e, hnext⟩ | hnext
            · left
              refine ⟨b, e, ?_⟩
              rw [ic118_0_eq]
              simp [ic118_0_b, hlt, hlr, Corp.cells, hw, hh, hrr, hnm, hta, htb, hcy, A, E]
              simpa using hnext
            · right
              rw [ic118_0_eq]
              simp [ic118_0_b, hlt, hlr, Corp.cells, hw, hh, hrr, hnm, hta, htb, hcy, A, E]
              simpa using hnext
          · left
            refine ⟨i, 12, ?_⟩
            rw [ic118_0_eq]
            simp [ic118_0_b, hlt, hlr, Corp.cells, hw, hh, hrr, hnm, hta, htb, hcy, A, E]
      · cases cy
        · rcases hnext with ⟨b, e, hnext⟩ | hnext
          · left
            refine ⟨b, e, ?_⟩
            rw [ic118_0_eq]
            simp [ic118_0_b, hlt, hlr, Corp.cells, hw, hh, hrr, hnm, hta, htb, hcy, A, E]
            simpa using hnext
          · right
            rw [ic118_0_eq]
            simp [ic118_0_b, hlt, hlr, Corp.cells, hw, hh, hrr, hnm, hta, htb, hcy, A, E]
            simpa using hnext
        · left
          refine ⟨i, 12, ?_⟩
          rw [ic118_0_eq]
          simp [ic118_0_b, hlt, hlr, Corp.cells, hw, hh, hrr, hnm, hta, htb, hcy, A, E]

theorem heads_ans {c : Corp} (hl : (c.heads = [] ∧ c.rels = []) ∨ (c.heads.length = c.toks.length ∧ c.rels.length = c.toks.length)) (hR : ∀ r ∈ c.rels, r ∈ relNames) (hn : c.toks.length ≤ 100) (ht : c.texts.length ≤ 100) : Ans 118 [.agg c.cells] := by
  have hr : c.rels.length = c.heads.length := by
    rcases hl with ⟨h1, h2⟩ | ⟨h1, h2⟩
    · simp [h1, h2]
    · omega
  have hlen : c.heads.length ≤ 100 := by
    rcases hl with ⟨h1, h2⟩ | ⟨h1, h2⟩
    · simp [h1]
    · omega
  have hloop := hd_loop hr hR hlen ht c.heads.length 0 (by omega)
  simp [Corp.cells] at hloop
  rcases hl with ⟨h1, h2⟩ | ⟨h1, h2⟩
  · simp [h1, h2] at hloop
    rcases hloop with ⟨b, e, h⟩ | h
    · refine ⟨b, e, callV_fn (body := ic118) rfl rfl ?_⟩
      simp [ic118, Corp.cells, h1, h2, h]
    · refine ⟨0, 0, callV_fn (body := ic118) rfl rfl ?_⟩
      simp [ic118, Corp.cells, h1, h2, h]
  · by_cases h0 : c.toks.length = 0
    · have e1 : c.heads = [] := List.length_eq_zero_iff.1 (by omega)
      have e2 : c.rels = [] := List.length_eq_zero_iff.1 (by omega)
      simp [e1, e2] at hloop
      rcases hloop with ⟨b, e, h⟩ | h
      · refine ⟨b, e, callV_fn (body := ic118) rfl rfl ?_⟩
        simp [ic118, Corp.cells, e1, e2, h]
      · refine ⟨0, 0, callV_fn (body := ic118) rfl rfl ?_⟩
        simp [ic118, Corp.cells, e1, e2, h]
    · obtain ⟨br, hb⟩ := bare_ans hr hlen
      have hp : 0 < c.toks.length := by omega
      have hne : ¬ c.toks = [] := fun e => h0 (by simp [e])
      rw [h1] at hloop
      cases br
      · rcases hloop with ⟨b, e, h⟩ | h
        · refine ⟨b, e, callV_fn (body := ic118) rfl rfl ?_⟩
          simp [ic118, Corp.cells, h1, h2, hb, hp, h, h0, hne]
        · refine ⟨0, 0, callV_fn (body := ic118) rfl rfl ?_⟩
          simp [ic118, Corp.cells, h1, h2, hb, hp, h, h0, hne]
      · refine ⟨0, 14, callV_fn (body := ic118) rfl rfl ?_⟩
        simp [ic118, Corp.cells, h1, h2, hb, hp, h0, hne]

end Go.Ab.Prog

/- Part ValK. -/
namespace Go.Ab.Prog
open Go Go.Ab
set_option linter.unusedSimpArgs false
set_option linter.unusedVariables false
set_option maxHeartbeats 8000000

/-- A parent stands before its child. -/
def Back (ns : List Nd) : Prop := ∀ (i : Nat) (h : i < ns.length), ns[i].p = -1 ∨ ∃ q : Nat, q < i ∧ ns[i].p = (q : Int)

theorem par_loop {c : Corp} {ns : List Nd} (hb : Back ns) {x : Nd} {i : Nat} {ds : List Int} : ∀ (r : Nat) (k : Int), (k = -1 ∨ ∃ j : Nat, k = (j : Int) ∧ j < r ∧ j < ns.length) →
    ∃ k' : Int, evV prog ic117_0 ⟨tm [(0, .list (ns.map Nd.enc)), (3, .ptr 102 0), (6, .arr 100 ds.length 0 ds.length), (7, I i), (8, .ptr 103 0), (9, I k), (18, .list (ns.map Nd.enc)), (19, I ns.length), (20, I i)], hp [(100, some (.arr 1 (ds.map I) false)), (102, some (.box c.cells)), (103, some (.box x.enc.cells))]⟩
      = some (.exit 3, ⟨tm [(0, .list (ns.map Nd.enc)), (3, .ptr 102 0), (6, .arr 100 ds.length 0 ds.length), (7, I i), (8, .ptr 103 0), (9, I k'), (18, .list (ns.map Nd.enc)), (19, I ns.length), (20, I i)], hp [(100, some (.arr 1 (ds.map I) false)), (102, some (.box c.cells)), (103, some (.box x.enc.cells))]⟩) := by
  intro r
  induction r with
  | zero =>
    intro k hk
    rcases hk with rfl | ⟨j, _, h, _⟩
    · refine ⟨-1, ?_⟩
      rw [ic117_0_eq]
      simp [ic117_0_b, Corp.cells]
    · omega
  | succ r ih =>
    intro k hk
    rcases hk with rfl | ⟨j, rfl, hj, hl⟩
    · refine ⟨-1, ?_⟩
      rw [ic117_0_eq]
      simp [ic117_0_b, Corp.cells]
    · cases hx : decide ((j : Int) = x.p)
      · have hn : ns[j].p = -1 ∨ ∃ q : Nat, ns[j].p = (q : Int) ∧ q < r ∧ q < ns.length := by
          rcases hb j hl with h | ⟨q, h1, h2⟩
          · exact .inl h
          · exact .inr ⟨q, h2, by omega, by omega⟩
        obtain ⟨k', hi⟩ := ih ns[j].p hn
        refine ⟨k', ?_⟩
        rw [ic117_0_eq]
        simp [ic117_0_b, Corp.cells, hx, hl]
        simpa [Corp.cells] using hi
      · refine ⟨j, ?_⟩
        rw [ic117_0_eq]
        simp [ic117_0_b, Corp.cells, hx]

theorem sib_loop {c : Corp} {ns : List Nd} {x : Nd} {i : Nat} {ds : List Int} (hn : ns.length ≤ 1000) : ∀ (r : Nat), r ≤ ns.length →
    (∃ b e : Int, evV prog ic117_1 ⟨tm [(0, .list (ns.map Nd.enc)), (3, .ptr 102 0), (6, .arr 100 ds.length 0 ds.length), (7, I i), (8, .ptr 103 0), (11, I ((r : Int) - 1)), (18, .list (ns.map Nd.enc)), (19, I ns.length), (20, I i)], hp [(100, some (.arr 1 (ds.map I) false)), (102, some (.box c.cells)), (103, some (.box x.enc.cells))]⟩
      = some (.ret, ⟨tm [(4, I b), (5, I e)], hp []⟩)) ∨
    evV prog ic117_1 ⟨tm [(0, .list (ns.map Nd.enc)), (3, .ptr 102 0), (6, .arr 100 ds.length 0 ds.length), (7, I i), (8, .ptr 103 0), (11, I ((r : Int) - 1)), (18, .list (ns.map Nd.enc)), (19, I ns.length), (20, I i)], hp [(100, some (.arr 1 (ds.map I) false)), (102, some (.box c.cells)), (103, some (.box x.enc.cells))]⟩
      = some (.exit 5, ⟨tm [(0, .list (ns.map Nd.enc)), (3, .ptr 102 0), (6, .arr 100 ds.length 0 ds.length), (7, I i), (18, .list (ns.map Nd.enc)), (19, I ns.length), (20, I i)], hp [(100, some (.arr 1 (ds.map I) false)), (102, some (.box c.cells))]⟩) := by
  intro r
  induction r with
  | zero =>
    intro _
    right
    rw [ic117_1_eq]
    simp [ic117_1_b, Corp.cells]
  | succ r ih =>
    intro hr
    have hlt : r < ns.length := by omega
    have hw : IntKind.i64.wrap ((r : Int) - 1) = (r : Int) - 1 := wrap64 (by omega) (by omega)
    have hi := ih (by omega)
    generalize hy : ns[r] = y at *
    simp [Corp.cells] at hi
    cases hp : decide (y.p = x.p)
    · rcases hi with ⟨b, e, hi⟩ | hi
      · left
        refine ⟨b, e, ?_⟩
        rw [ic117_1_eq]
        simp [ic117_1_b, Corp.cells, hlt, hw, hy, hp]
        simpa using hi
      · right
        rw [ic117_1_eq]
        simp [ic117_1_b, Corp.cells, hlt, hw, hy, hp]
        simpa using hi
    · cases hq : decide (x.b < y.e)
      · right
        rw [ic117_1_eq]
        simp [ic117_1_b, Corp.cells, hlt, hw, hy, hp, hq]
      · left
        refine ⟨i, 8, ?_⟩
        rw [ic117_1_eq]
        simp [ic117_1_b, Corp.cells, hlt, hw, hy, hp, hq]

theorem nd_loop {c : Corp} {ns : List Nd} (hb : Back ns) (hL : ∀ x ∈ ns, x.label ∈ labels) (hn : ns.length ≤ 100) (ht : c.texts.length ≤ 100) : ∀ (d i : Nat) (ds : List Int), i + d = ns.length → ds.length = ns.length →
    (∃ b e : Int, evV prog ic117_2 ⟨tm [(0, .list (ns.map Nd.enc)), (3, .ptr 102 0), (6, .arr 100 ds.length 0 ds.length), (18, .list (ns.map Nd.enc)), (19, I ns.length), (20, I i)], hp [(100, some (.arr 1 (ds.map I) false)), (102, some (.box c.cells))]⟩
      = some (.ret, ⟨tm [(4, I b), (5, I e)], hp []⟩)) ∨
    evV prog ic117_2 ⟨tm [(0, .list (ns.map Nd.enc)), (3, .ptr 102 0), (6, .arr 100 ds.length 0 ds.length), (18, .list (ns.map Nd.enc)), (19, I ns.length), (20, I i)], hp [(100, some (.arr 1 (ds.map I) false)), (102, some (.box c.cells))]⟩
      = some (.exit 0, ⟨tm [], hp []⟩) := by
  intro d
  induction d with
  | zero =>
    intro i ds hi hd
    right
    have : ¬ i < ns.length := by omega
    rw [ic117_2_eq]
    simp [ic117_2_b, this, Corp.cells]
  | succ d ih =>
    intro i ds hi hd
    have hlt : i < ns.length := by omega
    have hld : i < ds.length := by omega
    have hw : IntKind.i64.wrap ((i : Int) + 1) = i + 1 := wrap64 (by omega) (by omega)
    have hw2 : IntKind.i64.wrap ((i : Int) - 1) = (i : Int) - 1 := wrap64 (by omega) (by omega)
    obtain ⟨nb, hnm⟩ := name_labels (hL _ (List.getElem_mem hlt))
    obtain ⟨w, hwi⟩ := within_ans c ns[i].b ns[i].e ht
    have hpar := hb i hlt
    obtain ⟨k', hpl⟩ := par_loop (c := c) hb (x := ns[i]) (i := i) (ds := ds) i ((i : Int) - 1) (by
      by_cases h : i = 0
      · left; omega
      · right; exact ⟨i - 1, by omega, by omega, by omega⟩)
    generalize hx : ns[i] = x at *
    obtain ⟨xl, xb, xe, xp⟩ := x
    simp only at hpar hnm
    simp [Corp.cells] at hwi hpl
    cases nb
    · left
      refine ⟨i, 4, ?_⟩
      rw [ic117_2_eq]
      simp [ic117_2_b, hlt, hld, Corp.cells, hw, hw2, hx, hnm, hwi, hpl]
    cases w
    · left
      refine ⟨i, 8, ?_⟩
      rw [ic117_2_eq]
      simp [ic117_2_b, hlt, hld, Corp.cells, hw, hw2, hx, hnm, hwi, hpl]
    by_cases hk : k' < 0
    · rcases hpar with rfl | ⟨q, hq, rfl⟩
      · have hsib := sib_loop (c := c) (ns := ns) (ds := ds) (i := i) (x := ⟨xl, xb, xe, -1⟩) (by omega) i (by omega)
        have hnext := ih (i + 1) ((ds).set i (IntKind.i64.wrap (((ds)[i]?.getD 0) + 1))) (by omega) (by simp [hd])
        simp [Corp.cells, hld] at hsib hnext
        rcases hsib with ⟨b, e, hsib⟩ | hsib
        · left
          refine ⟨b, e, ?_⟩
          rw [ic117_2_eq]
          simp [ic117_2_b, hlt, hld, Corp.cells, hw, hw2, hx, hnm, hwi, hpl, hk, hsib]
        · by_cases hdep : (40 : Int) < IntKind.i64.wrap (((ds)[i]?.getD 0) + 1)
          · left
            refine ⟨i, 2, ?_⟩
            simp [hld] at hdep
            rw [ic117_2_eq]
            simp [ic117_2_b, hlt, hld, Corp.cells, hw, hw2, hx, hnm, hwi, hpl, hk, hsib, hdep]
          · simp [hld] at hdep
            have hdep := Int.not_lt.2 hdep
            rcases hnext with ⟨b, e, hnext⟩ | hnext
            · left
              refine ⟨b, e, ?_⟩
              rw [ic117_2_eq]
              simp [ic117_2_b, hlt, hld, Corp.cells, hw, hw2, hx, hnm, hwi, hpl, hk, hsib, hdep]
              simpa [List.map_set] using hnext
            · right
              rw [ic117_2_eq]
              simp [ic117_2_b, hlt, hld, Corp.cells, hw, hw2, hx, hnm, hwi, hpl, hk, hsib, hdep]
              simpa [List.map_set] using hnext
      · left
        refine ⟨i, 6, ?_⟩
        have hq1 : ¬ (q : Int) = -1 := by omega
        rw [ic117_2_eq]
        simp [ic117_2_b, hlt, hld, Corp.cells, hw, hw2, hx, hnm, hwi, hpl, hk, hq1]
    · rcases hpar with rfl | ⟨q, hq, rfl⟩
      · have hsib := sib_loop (c := c) (ns := ns) (ds := ds) (i := i) (x := ⟨xl, xb, xe, -1⟩) (by omega) i (by omega)
        have hnext := ih (i + 1) ((ds).set i (IntKind.i64.wrap (((ds)[i]?.getD 0) + 1))) (by omega) (by simp [hd])
        simp [Corp.cells, hld] at hsib hnext
        rcases hsib with ⟨b, e, hsib⟩ | hsib
        · left
          refine ⟨b, e, ?_⟩
          rw [ic117_2_eq]
          simp [ic117_2_b, hlt, hld, Corp.cells, hw, hw2, hx, hnm, hwi, hpl, hk, hsib]
        · by_cases hdep : (40 : Int) < IntKind.i64.wrap (((ds)[i]?.getD 0) + 1)
          · left
            refine ⟨i, 2, ?_⟩
            simp [hld] at hdep
            rw [ic117_2_eq]
            simp [ic117_2_b, hlt, hld, Corp.cells, hw, hw2, hx, hnm, hwi, hpl, hk, hsib, hdep]
          · simp [hld] at hdep
            have hdep := Int.not_lt.2 hdep
            rcases hnext with ⟨b, e, hnext⟩ | hnext
            · left
              refine ⟨b, e, ?_⟩
              rw [ic117_2_eq]
              simp [ic117_2_b, hlt, hld, Corp.cells, hw, hw2, hx, hnm, hwi, hpl, hk, hsib, hdep]
              simpa [List.map_set] using hnext
            · right
              rw [ic117_2_eq]
              simp [ic117_2_b, hlt, hld, Corp.cells, hw, hw2, hx, hnm, hwi, hpl, hk, hsib, hdep]
              simpa [List.map_set] using hnext
      · have hql : q < ns.length := by omega
        have hqd : q < ds.length := by omega
        cases hc1 : decide (xb < ns[q].b)
        · cases hc2 : decide (ns[q].e < xe)
          · have hsib := sib_loop (c := c) (ns := ns) (ds := ds.set i ds[q]) (i := i) (x := ⟨xl, xb, xe, (q : Int)⟩) (by omega) i (by omega)
            have hnext := ih (i + 1) ((ds.set i ds[q]).set i (IntKind.i64.wrap (((ds.set i ds[q])[i]?.getD 0) + 1))) (by omega) (by simp [hd])
            simp [Corp.cells, hld] at hsib hnext
            rcases hsib with ⟨b, e, hsib⟩ | hsib
            · left
              refine ⟨b, e, ?_⟩
              rw [ic117_2_eq]
              simp [ic117_2_b, hlt, hld, Corp.cells, hw, hw2, hx, hnm, hwi, hpl, hk, hql, hqd, hc1, hc2, hsib]
            · by_cases hdep : (40 : Int) < IntKind.i64.wrap (((ds.set i ds[q])[i]?.getD 0) + 1)
              · left
                refine ⟨i, 2, ?_⟩
                simp [hld] at hdep
                rw [ic117_2_eq]
                simp [ic117_2_b, hlt, hld, Corp.cells, hw, hw2, hx, hnm, hwi, hpl, hk, hql, hqd, hc1, hc2, hsib, hdep]
              · simp [hld] at hdep
                have hdep := Int.not_lt.2 hdep
                rcases hnext with ⟨b, e, hnext⟩ | hnext
                · left
                  refine ⟨b, e, ?_⟩
                  rw [ic117_2_eq]
                  simp [ic117_2_b, hlt, hld, Corp.cells, hw, hw2, hx, hnm, hwi, hpl, hk, hql, hqd, hc1, hc2, hsib, hdep]
                  simpa [List.map_set] using hnext
                · right
                  rw [ic117_2_eq]
                  simp [ic117_2_b, hlt, hld, Corp.cells, hw, hw2, hx, hnm, hwi, hpl, hk, hql, hqd, hc1, hc2, hsib, hdep]
                  simpa [List.map_set] using hnext
          · left
            refine ⟨i, 8, ?_⟩
            rw [ic117_2_eq]
            simp [ic117_2_b, hlt, hld, Corp.cells, hw, hw2, hx, hnm, hwi, hpl, hk, hql, hqd, hc1, hc2]
        · left
          refine ⟨i, 8, ?_⟩
          rw [ic117_2_eq]
          simp [ic117_2_b, hlt, hld, Corp.cells, hw, hw2, hx, hnm, hwi, hpl, hk, hql, hqd, hc1]

end Go.Ab.Prog
