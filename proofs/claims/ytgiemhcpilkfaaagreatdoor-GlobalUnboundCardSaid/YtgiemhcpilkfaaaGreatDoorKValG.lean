/- The regions' check answers. And what follows from it, part by part. -/
import Derived.Test.YtgiemhcpilkfaaaGreatDoorKVal

/- Part ValG. -/
namespace Go.Ab.Prog
open Go Go.Ab
set_option linter.unusedSimpArgs false
set_option maxHeartbeats 8000000

theorem within_loop {c : Corp} {b e : Int} (hn : c.texts.length ≤ 100) : ∀ (d j : Nat), j + d = c.texts.length →
    evV prog ic141_0 ⟨tm [(1, I b), (2, I e), (10, .list (c.texts.map Tx.enc)), (11, I c.texts.length), (12, I j)], hp []⟩ = some (.ret, ⟨tm [(6, .bool true)], hp []⟩) ∨
    evV prog ic141_0 ⟨tm [(1, I b), (2, I e), (10, .list (c.texts.map Tx.enc)), (11, I c.texts.length), (12, I j)], hp []⟩ = some (.exit 0, ⟨tm [], hp []⟩) := by
  intro d
  induction d with
  | zero =>
    intro j hj
    right
    have : ¬ j < c.texts.length := by omega
    rw [ic141_0_eq]
    simp [ic141_0_b, this]
  | succ d ih =>
    intro j hj
    have hlt : j < c.texts.length := by omega
    have hw : IntKind.i64.wrap ((j : Int) + 1) = j + 1 := wrap64 (by omega) (by omega)
    have hi := ih (j + 1) (by omega)
    generalize hy : c.texts[j] = y at *
    cases A : decide (y.b ≤ b)
    · rcases hi with hi | hi
      · left
        rw [ic141_0_eq]
        simp [ic141_0_b, hlt, hw, hy, Tx.enc, A]
        simpa [Tx.enc] using hi
      · right
        rw [ic141_0_eq]
        simp [ic141_0_b, hlt, hw, hy, Tx.enc, A]
        simpa [Tx.enc] using hi
    · cases B : decide (b < e)
      · rcases hi with hi | hi
        · left
          rw [ic141_0_eq]
          simp [ic141_0_b, hlt, hw, hy, Tx.enc, A, B]
          simpa [Tx.enc] using hi
        · right
          rw [ic141_0_eq]
          simp [ic141_0_b, hlt, hw, hy, Tx.enc, A, B]
          simpa [Tx.enc] using hi
      · cases C : decide (e ≤ y.e)
        · rcases hi with hi | hi
          · left
            rw [ic141_0_eq]
            simp [ic141_0_b, hlt, hw, hy, Tx.enc, A, B, C]
            simpa [Tx.enc] using hi
          · right
            rw [ic141_0_eq]
            simp [ic141_0_b, hlt, hw, hy, Tx.enc, A, B, C]
            simpa [Tx.enc] using hi
        · left
          rw [ic141_0_eq]
          simp [ic141_0_b, hlt, hw, hy, Tx.enc, A, B, C]

theorem within_ans (c : Corp) (b e : Int) (hn : c.texts.length ≤ 100) : ∃ r : Bool, callV prog 141 [.agg c.cells, I b, I e] = some (.bool r, []) := by
  rcases within_loop (c := c) (b := b) (e := e) hn c.texts.length 0 (by omega) with h | h
  · refine ⟨true, callV_fn (body := ic141) rfl rfl ?_⟩
    simp [Corp.cells] at h
    simp [ic141, Corp.cells, h]
  · refine ⟨false, callV_fn (body := ic141) rfl rfl ?_⟩
    simp [Corp.cells] at h
    simp [ic141, Corp.cells, h]

theorem rg_in {c : Corp} {x : Rg} {i : Nat} (hil : i < c.regs.length) (hn : c.regs.length ≤ 100) : ∀ (m j d : Nat), j + m = i + 1 → d ≤ j →
    (∃ b d' : Int, evV prog ic116_0 ⟨tm [(1, .ptr 100 0), (4, I i), (5, .ptr 101 0), (7, I d), (15, .list (c.regs.map Rg.enc)), (16, I c.regs.length), (17, I i), (62, .list ((c.regs.take (i + 1)).map Rg.enc)), (63, I (i + 1 : Nat)), (64, I j)], hp [(100, some (.box c.cells)), (101, some (.box x.enc.cells))]⟩
      = some (.ret, ⟨tm [(2, I b), (3, I d')], hp []⟩)) ∨
    (∃ d' : Nat, evV prog ic116_0 ⟨tm [(1, .ptr 100 0), (4, I i), (5, .ptr 101 0), (7, I d), (15, .list (c.regs.map Rg.enc)), (16, I c.regs.length), (17, I i), (62, .list ((c.regs.take (i + 1)).map Rg.enc)), (63, I (i + 1 : Nat)), (64, I j)], hp [(100, some (.box c.cells)), (101, some (.box x.enc.cells))]⟩
      = some (.exit 3, ⟨tm [(1, .ptr 100 0), (4, I i), (7, I d'), (15, .list (c.regs.map Rg.enc)), (16, I c.regs.length), (17, I i)], hp [(100, some (.box c.cells))]⟩)) := by
  intro m
  induction m with
  | zero =>
    intro j d hj hd
    right
    refine ⟨d, ?_⟩
    have : ¬ ((j : Int) < (i : Int) + 1) := by omega
    rw [ic116_0_eq]
    simp [ic116_0_b, this, Corp.cells, Rg.enc]
  | succ m ih =>
    intro j d hj hd
    have hlt : ((j : Int) < (i : Int) + 1) := by omega
    have hlt2 : j < i + 1 := by omega
    have hlt' : j < c.regs.length := by omega
    have hw : IntKind.i64.wrap ((j : Int) + 1) = j + 1 := wrap64 (by omega) (by omega)
    have hw1 : IntKind.i64.wrap ((d : Int) + 1) = d + 1 := wrap64 (by omega) (by omega)
    generalize hy : c.regs[j] = y at *
    cases A : decide (y.b ≤ x.b)
    · cases C : decide (j < i)
      · rcases ih (j + 1) d (by omega) (by omega) with ⟨b, d', hi⟩ | ⟨d', hi⟩
        · left
          refine ⟨b, d', ?_⟩
          rw [ic116_0_eq]
          simp [ic116_0_b, hlt, hlt2, Corp.cells, Rg.enc, hw, hw1, hlt', hy, List.getElem?_take, A, C]
          simpa [Corp.cells, Rg.enc] using hi
        · right
          refine ⟨d', ?_⟩
          rw [ic116_0_eq]
          simp [ic116_0_b, hlt, hlt2, Corp.cells, Rg.enc, hw, hw1, hlt', hy, List.getElem?_take, A, C]
          simpa [Corp.cells, Rg.enc] using hi
      · cases T : y.typ.toList == x.typ.toList
        · rcases ih (j + 1) d (by omega) (by omega) with ⟨b, d', hi⟩ | ⟨d', hi⟩
          · left
            refine ⟨b, d', ?_⟩
            rw [ic116_0_eq]
            simp [ic116_0_b, hlt, hlt2, Corp.cells, Rg.enc, hw, hw1, hlt', hy, List.getElem?_take, A, C, T]
            simpa [Corp.cells, Rg.enc] using hi
          · right
            refine ⟨d', ?_⟩
            rw [ic116_0_eq]
            simp [ic116_0_b, hlt, hlt2, Corp.cells, Rg.enc, hw, hw1, hlt', hy, List.getElem?_take, A, C, T]
            simpa [Corp.cells, Rg.enc] using hi
        · cases D : decide (y.b < x.e)
          · rcases ih (j + 1) d (by omega) (by omega) with ⟨b, d', hi⟩ | ⟨d', hi⟩
            · left
              refine ⟨b, d', ?_⟩
              rw [ic116_0_eq]
              simp [ic116_0_b, hlt, hlt2, Corp.cells, Rg.enc, hw, hw1, hlt', hy, List.getElem?_take, A, C, T, D]
              simpa [Corp.cells, Rg.enc] using hi
            · right
              refine ⟨d', ?_⟩
              rw [ic116_0_eq]
              simp [ic116_0_b, hlt, hlt2, Corp.cells, Rg.enc, hw, hw1, hlt', hy, List.getElem?_take, A, C, T, D]
              simpa [Corp.cells, Rg.enc] using hi
          · cases B : decide (x.b < y.e)
            · rcases ih (j + 1) d (by omega) (by omega) with ⟨b, d', hi⟩ | ⟨d', hi⟩
              · left
                refine ⟨b, d', ?_⟩
                rw [ic116_0_eq]
                simp [ic116_0_b, hlt, hlt2, Corp.cells, Rg.enc, hw, hw1, hlt', hy, List.getElem?_take, A, C, T, D, B]
                simpa [Corp.cells, Rg.enc] using hi
              · right
                refine ⟨d', ?_⟩
                rw [ic116_0_eq]
                simp [ic116_0_b, hlt, hlt2, Corp.cells, Rg.enc, hw, hw1, hlt', hy, List.getElem?_take, A, C, T, D, B]
                simpa [Corp.cells, Rg.enc] using hi
            · cases G : decide (x.b ≤ y.b)
              · left
                refine ⟨i, 13, ?_⟩
                rw [ic116_0_eq]
                simp [ic116_0_b, hlt, hlt2, Corp.cells, Rg.enc, hw, hw1, hlt', hy, List.getElem?_take, A, C, T, D, B, G]
              · cases H : decide (y.e ≤ x.e)
                · left
                  refine ⟨i, 13, ?_⟩
                  rw [ic116_0_eq]
                  simp [ic116_0_b, hlt, hlt2, Corp.cells, Rg.enc, hw, hw1, hlt', hy, List.getElem?_take, A, C, T, D, B, G, H]
                · rcases ih (j + 1) d (by omega) (by omega) with ⟨b, d', hi⟩ | ⟨d', hi⟩
                  · left
                    refine ⟨b, d', ?_⟩
                    rw [ic116_0_eq]
                    simp [ic116_0_b, hlt, hlt2, Corp.cells, Rg.enc, hw, hw1, hlt', hy, List.getElem?_take, A, C, T, D, B, G, H]
                    simpa [Corp.cells, Rg.enc] using hi
                  · right
                    refine ⟨d', ?_⟩
                    rw [ic116_0_eq]
                    simp [ic116_0_b, hlt, hlt2, Corp.cells, Rg.enc, hw, hw1, hlt', hy, List.getElem?_take, A, C, T, D, B, G, H]
                    simpa [Corp.cells, Rg.enc] using hi
    · cases B : decide (x.b < y.e)
      · cases C : decide (j < i)
        · rcases ih (j + 1) d (by omega) (by omega) with ⟨b, d', hi⟩ | ⟨d', hi⟩
          · left
            refine ⟨b, d', ?_⟩
            rw [ic116_0_eq]
            simp [ic116_0_b, hlt, hlt2, Corp.cells, Rg.enc, hw, hw1, hlt', hy, List.getElem?_take, A, B, C]
            simpa [Corp.cells, Rg.enc] using hi
          · right
            refine ⟨d', ?_⟩
            rw [ic116_0_eq]
            simp [ic116_0_b, hlt, hlt2, Corp.cells, Rg.enc, hw, hw1, hlt', hy, List.getElem?_take, A, B, C]
            simpa [Corp.cells, Rg.enc] using hi
        · cases T : y.typ.toList == x.typ.toList
          · rcases ih (j + 1) d (by omega) (by omega) with ⟨b, d', hi⟩ | ⟨d', hi⟩
            · left
              refine ⟨b, d', ?_⟩
              rw [ic116_0_eq]
              simp [ic116_0_b, hlt, hlt2, Corp.cells, Rg.enc, hw, hw1, hlt', hy, List.getElem?_take, A, B, C, T]
              simpa [Corp.cells, Rg.enc] using hi
            · right
              refine ⟨d', ?_⟩
              rw [ic116_0_eq]
              simp [ic116_0_b, hlt, hlt2, Corp.cells, Rg.enc, hw, hw1, hlt', hy, List.getElem?_take, A, B, C, T]
              simpa [Corp.cells, Rg.enc] using hi
          · cases D : decide (y.b < x.e)
            · rcases ih (j + 1) d (by omega) (by omega) with ⟨b, d', hi⟩ | ⟨d', hi⟩
              · left
                refine ⟨b, d', ?_⟩
                rw [ic116_0_eq]
                simp [ic116_0_b, hlt, hlt2, Corp.cells, Rg.enc, hw, hw1, hlt', hy, List.getElem?_take, A, B, C, T, D]
                simpa [Corp.cells, Rg.enc] using hi
              · right
                refine ⟨d', ?_⟩
                rw [ic116_0_eq]
                simp [ic116_0_b, hlt, hlt2, Corp.cells, Rg.enc, hw, hw1, hlt', hy, List.getElem?_take, A, B, C, T, D]
                simpa [Corp.cells, Rg.enc] using hi
            · rcases ih (j + 1) d (by omega) (by omega) with ⟨b, d', hi⟩ | ⟨d', hi⟩
              · left
                refine ⟨b, d', ?_⟩
                rw [ic116_0_eq]
                simp [ic116_0_b, hlt, hlt2, Corp.cells, Rg.enc, hw, hw1, hlt', hy, List.getElem?_take, A, B, C, T, D]
                simpa [Corp.cells, Rg.enc] using hi
              · right
                refine ⟨d', ?_⟩
                rw [ic116_0_eq]
                simp [ic116_0_b, hlt, hlt2, Corp.cells, Rg.enc, hw, hw1, hlt', hy, List.getElem?_take, A, B, C, T, D]
                simpa [Corp.cells, Rg.enc] using hi
      · cases C : decide (j < i)
        · rcases ih (j + 1) (d + 1) (by omega) (by omega) with ⟨b, d', hi⟩ | ⟨d', hi⟩
          · left
            refine ⟨b, d', ?_⟩
            rw [ic116_0_eq]
            simp [ic116_0_b, hlt, hlt2, Corp.cells, Rg.enc, hw, hw1, hlt', hy, List.getElem?_take, A, B, C]
            simpa [Corp.cells, Rg.enc] using hi
          · right
            refine ⟨d', ?_⟩
            rw [ic116_0_eq]
            simp [ic116_0_b, hlt, hlt2, Corp.cells, Rg.enc, hw, hw1, hlt', hy, List.getElem?_take, A, B, C]
            simpa [Corp.cells, Rg.enc] using hi
        · cases T : y.typ.toList == x.typ.toList
          · rcases ih (j + 1) (d + 1) (by omega) (by omega) with ⟨b, d', hi⟩ | ⟨d', hi⟩
            · left
              refine ⟨b, d', ?_⟩
              rw [ic116_0_eq]
              simp [ic116_0_b, hlt, hlt2, Corp.cells, Rg.enc, hw, hw1, hlt', hy, List.getElem?_take, A, B, C, T]
              simpa [Corp.cells, Rg.enc] using hi
            · right
              refine ⟨d', ?_⟩
              rw [ic116_0_eq]
              simp [ic116_0_b, hlt, hlt2, Corp.cells, Rg.enc, hw, hw1, hlt', hy, List.getElem?_take, A, B, C, T]
              simpa [Corp.cells, Rg.enc] using hi
          · cases D : decide (y.b < x.e)
            · rcases ih (j + 1) (d + 1) (by omega) (by omega) with ⟨b, d', hi⟩ | ⟨d', hi⟩
              · left
                refine ⟨b, d', ?_⟩
                rw [ic116_0_eq]
                simp [ic116_0_b, hlt, hlt2, Corp.cells, Rg.enc, hw, hw1, hlt', hy, List.getElem?_take, A, B, C, T, D]
                simpa [Corp.cells, Rg.enc] using hi
              · right
                refine ⟨d', ?_⟩
                rw [ic116_0_eq]
                simp [ic116_0_b, hlt, hlt2, Corp.cells, Rg.enc, hw, hw1, hlt', hy, List.getElem?_take, A, B, C, T, D]
                simpa [Corp.cells, Rg.enc] using hi
            · cases F : decide (x.e ≤ y.e)
              · cases G : decide (x.b ≤ y.b)
                · left
                  refine ⟨i, 13, ?_⟩
                  rw [ic116_0_eq]
                  simp [ic116_0_b, hlt, hlt2, Corp.cells, Rg.enc, hw, hw1, hlt', hy, List.getElem?_take, A, B, C, T, D, F, G]
                · cases H : decide (y.e ≤ x.e)
                  · left
                    refine ⟨i, 13, ?_⟩
                    rw [ic116_0_eq]
                    simp [ic116_0_b, hlt, hlt2, Corp.cells, Rg.enc, hw, hw1, hlt', hy, List.getElem?_take, A, B, C, T, D, F, G, H]
                  · rcases ih (j + 1) (d + 1) (by omega) (by omega) with ⟨b, d', hi⟩ | ⟨d', hi⟩
                    · left
                      refine ⟨b, d', ?_⟩
                      rw [ic116_0_eq]
                      simp [ic116_0_b, hlt, hlt2, Corp.cells, Rg.enc, hw, hw1, hlt', hy, List.getElem?_take, A, B, C, T, D, F, G, H]
                      simpa [Corp.cells, Rg.enc] using hi
                    · right
                      refine ⟨d', ?_⟩
                      rw [ic116_0_eq]
                      simp [ic116_0_b, hlt, hlt2, Corp.cells, Rg.enc, hw, hw1, hlt', hy, List.getElem?_take, A, B, C, T, D, F, G, H]
                      simpa [Corp.cells, Rg.enc] using hi
              · rcases ih (j + 1) (d + 1) (by omega) (by omega) with ⟨b, d', hi⟩ | ⟨d', hi⟩
                · left
                  refine ⟨b, d', ?_⟩
                  rw [ic116_0_eq]
                  simp [ic116_0_b, hlt, hlt2, Corp.cells, Rg.enc, hw, hw1, hlt', hy, List.getElem?_take, A, B, C, T, D, F]
                  simpa [Corp.cells, Rg.enc] using hi
                · right
                  refine ⟨d', ?_⟩
                  rw [ic116_0_eq]
                  simp [ic116_0_b, hlt, hlt2, Corp.cells, Rg.enc, hw, hw1, hlt', hy, List.getElem?_take, A, B, C, T, D, F]
                  simpa [Corp.cells, Rg.enc] using hi

end Go.Ab.Prog

/- Part ValH. -/
namespace Go.Ab.Prog
open Go Go.Ab
set_option linter.unusedSimpArgs false
set_option linter.unusedVariables false
set_option maxHeartbeats 8000000

def RegsOk (c : Corp) : Prop := ∀ r ∈ c.regs, (r.typ = ⟨#[]⟩ ∧ r.keys = []) ∨ RgOk r
theorem RegsOk.name {c : Corp} (h : RegsOk c) {r : Rg} (hr : r ∈ c.regs) : NameAns r.typ := by
  rcases h r hr with ⟨h1, _⟩ | ⟨h1, _⟩
  · rw [h1]; exact ⟨false, callV_iff.2 ⟨40, nm8⟩⟩
  · exact name_types h1
theorem RegsOk.keys {c : Corp} (h : RegsOk c) {r : Rg} (hr : r ∈ c.regs) : callV prog 140 [.list (r.keys.map prEnc)] = some (I 0, []) := by
  rcases h r hr with ⟨_, h2⟩ | ⟨_, h2⟩
  · exact keys_val (.inl h2)
  · exact keys_val h2
theorem RegsOk.kok {c : Corp} (h : RegsOk c) {r : Rg} (hr : r ∈ c.regs) : KeysOk r := by
  rcases h r hr with ⟨_, h2⟩ | ⟨_, h2 | ⟨p, _, h2⟩⟩ <;> simp [KeysOk, h2]

theorem rg_out {c : Corp} (hc : RegsOk c) (hn : c.regs.length ≤ 100) (ht : c.texts.length ≤ 100) : ∀ (d i : Nat), i + d = c.regs.length →
    (∃ b d' : Int, evV prog ic116_1 ⟨tm [(1, .ptr 100 0), (15, .list (c.regs.map Rg.enc)), (16, I c.regs.length), (17, I i)], hp [(100, some (.box c.cells))]⟩
      = some (.ret, ⟨tm [(2, I b), (3, I d')], hp []⟩)) ∨
    evV prog ic116_1 ⟨tm [(1, .ptr 100 0), (15, .list (c.regs.map Rg.enc)), (16, I c.regs.length), (17, I i)], hp [(100, some (.box c.cells))]⟩
      = some (.exit 0, ⟨tm [], hp []⟩) := by
  intro d
  induction d with
  | zero =>
    intro i hi
    right
    have : ¬ i < c.regs.length := by omega
    rw [ic116_1_eq]
    simp [ic116_1_b, this, Corp.cells]
  | succ d ih =>
    intro i hi
    have hlt : i < c.regs.length := by omega
    have hle : i + 1 ≤ c.regs.length := by omega
    have hle' : (i : Int) + 1 ≤ (c.regs.length : Int) := by omega
    have hw : IntKind.i64.wrap ((i : Int) + 1) = i + 1 := wrap64 (by omega) (by omega)
    have hm : c.regs[i] ∈ c.regs := List.getElem_mem _
    obtain ⟨nb, hnm⟩ := hc.name hm
    obtain ⟨w, hwi⟩ := within_ans c c.regs[i].b c.regs[i].e ht
    have hpr := hc.keys hm
    have hkk := fun (k : Nat) (hk : k < c.regs.length) => cmp_spec c.regs[k] c.regs[i] (hc.kok (List.getElem_mem _))
    have hin := rg_in (c := c) (x := c.regs[i]) hlt hn (i + 1) 0 0 (by omega) (by omega)
    have hnext := ih (i + 1) (by omega)
    generalize hx : c.regs[i] = x at *
    simp [Corp.cells, Rg.enc] at hin hnext hwi hkk
    cases nb
    · left
      refine ⟨i, 4, ?_⟩
      rw [ic116_1_eq]
      simp [ic116_1_b, hlt, hle, hle', Corp.cells, Rg.enc, hw, hx, hnm, hwi, hpr]
    cases w
    · left
      refine ⟨i, 8, ?_⟩
      rw [ic116_1_eq]
      simp [ic116_1_b, hlt, hle, hle', Corp.cells, Rg.enc, hw, hx, hnm, hwi, hpr]
    by_cases h0 : i = 0
    · subst h0
      have hw10 : IntKind.i64.wrap 1 = 1 := wrap64 (by omega) (by omega)
      have hl1 : 1 ≤ c.regs.length := hlt
      simp at hin
      rcases hin with ⟨b, d', hin⟩ | ⟨d', hin⟩
      · left
        refine ⟨b, d', ?_⟩
        rw [ic116_1_eq]
        simp [ic116_1_b, hlt, hle, hle', hw10, hl1, Corp.cells, Rg.enc, hw, hx, hnm, hwi, hpr, hin, List.map_take]
      · by_cases hf : (40 : Int) < (d' : Int)
        rotate_left
        · rcases hnext with ⟨b, e, hnext⟩ | hnext
          · left
            refine ⟨b, e, ?_⟩
            rw [ic116_1_eq]
            simp [ic116_1_b, hlt, hle, hle', hw10, hl1, Corp.cells, Rg.enc, hw, hx, hnm, hwi, hpr, hf, hin, List.map_take]
            simpa using hnext
          · right
            rw [ic116_1_eq]
            simp [ic116_1_b, hlt, hle, hle', hw10, hl1, Corp.cells, Rg.enc, hw, hx, hnm, hwi, hpr, hf, hin, List.map_take]
            simpa using hnext
        · left
          refine ⟨0, 2, ?_⟩
          rw [ic116_1_eq]
          simp [ic116_1_b, hlt, hle, hle', hw10, hl1, Corp.cells, Rg.enc, hw, hx, hnm, hwi, hpr, hf, hin, List.map_take]
    · obtain ⟨k, hki⟩ : ∃ k, i = k + 1 := ⟨i - 1, by omega⟩
      have hkl : k < c.regs.length := by omega
      have hk := hkk k hkl
      have hwk : IntKind.i64.wrap ((i : Int) - 1) = k := by rw [hki]; exact wrap64 (by omega) (by omega) |>.trans (by omega)
      have hkp : 0 < i := by omega
      have h0i : (0 : Int) ≤ (i : Int) + 1 := by omega
      have htn : ((i : Int) + 1).toNat = i + 1 := by omega
      by_cases hq : 0 < cmp c.regs[k] x
      rotate_left
      · rcases hin with ⟨b, d', hin⟩ | ⟨d', hin⟩
        · left
          refine ⟨b, d', ?_⟩
          rw [ic116_1_eq]
          simp [ic116_1_b, hlt, hle, hle', Corp.cells, Rg.enc, hw, hx, hnm, hwi, hpr, hk, hkl, hwk, hkp, h0i, htn, hq, hin, List.map_take]
        · by_cases hf : (40 : Int) < (d' : Int)
          rotate_left
          · rcases hnext with ⟨b, e, hnext⟩ | hnext
            · left
              refine ⟨b, e, ?_⟩
              rw [ic116_1_eq]
              simp [ic116_1_b, hlt, hle, hle', Corp.cells, Rg.enc, hw, hx, hnm, hwi, hpr, hk, hkl, hwk, hkp, h0i, htn, hq, hf, hin, List.map_take]
              simpa using hnext
            · right
              rw [ic116_1_eq]
              simp [ic116_1_b, hlt, hle, hle', Corp.cells, Rg.enc, hw, hx, hnm, hwi, hpr, hk, hkl, hwk, hkp, h0i, htn, hq, hf, hin, List.map_take]
              simpa using hnext
          · left
            refine ⟨i, 2, ?_⟩
            rw [ic116_1_eq]
            simp [ic116_1_b, hlt, hle, hle', Corp.cells, Rg.enc, hw, hx, hnm, hwi, hpr, hk, hkl, hwk, hkp, h0i, htn, hq, hf, hin, List.map_take]
      · left
        refine ⟨i, 6, ?_⟩
        rw [ic116_1_eq]
        simp [ic116_1_b, hlt, hle, hle', Corp.cells, Rg.enc, hw, hx, hnm, hwi, hpr, hk, hkl, hwk, hkp, h0i, htn, hq]

end Go.Ab.Prog
