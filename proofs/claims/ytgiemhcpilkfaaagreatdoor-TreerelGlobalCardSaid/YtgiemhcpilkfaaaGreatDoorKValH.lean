/- The regions' check answers: the outer loop. -/
import Derived.Test.YtgiemhcpilkfaaaGreatDoorKValG

namespace Go.Ab.Prog
open Go Go.Ab
set_option linter.unusedSimpArgs false
set_option linter.unusedVariables false
set_option maxHeartbeats 8000000

def RegsOk (c : Corp) : Prop := ∀ r ∈ c.regs, (r.typ = ⟨#[]⟩ ∧ r.keys = []) ∨ RgOk r
theorem RegsOk.name {c : Corp} (h : RegsOk c) {r : Rg} (hr : r ∈ c.regs) : NameAns r.typ := by
  rcases h r hr with ⟨h1, _⟩ | ⟨h1, _⟩
  · rw [h1]; exact ⟨false, callV_iff.2 ⟨40, nm8⟩⟩
  · exact name_types h1
theorem RegsOk.keys {c : Corp} (h : RegsOk c) {r : Rg} (hr : r ∈ c.regs) : callV prog 140 [.list (r.keys.map prEnc)] = some (I 0, []) := by
  rcases h r hr with ⟨_, h2⟩ | ⟨_, h2⟩
  · exact keys_val (.inl h2)
  · exact keys_val h2
theorem RegsOk.kok {c : Corp} (h : RegsOk c) {r : Rg} (hr : r ∈ c.regs) : KeysOk r := by
  rcases h r hr with ⟨_, h2⟩ | ⟨_, h2 | ⟨p, _, h2⟩⟩ <;> simp [KeysOk, h2]

theorem rg_out {c : Corp} (hc : RegsOk c) (hn : c.regs.length ≤ 100) (ht : c.texts.length ≤ 100) : ∀ (d i : Nat), i + d = c.regs.length →
    (∃ b d' : Int, evV prog ic116_1 ⟨tm [(1, .ptr 100 0), (15, .list (c.regs.map Rg.enc)), (16, I c.regs.length), (17, I i)], hp [(100, some (.box c.cells))]⟩
      = some (.ret, ⟨tm [(2, I b), (3, I d')], hp []⟩)) ∨
    evV prog ic116_1 ⟨tm [(1, .ptr 100 0), (15, .list (c.regs.map Rg.enc)), (16, I c.regs.length), (17, I i)], hp [(100, some (.box c.cells))]⟩
      = some (.exit 0, ⟨tm [], hp []⟩) := by
  intro d
  induction d with
  | zero =>
    intro i hi
    right
    have : ¬ i < c.regs.length := by omega
    rw [ic116_1_eq]
    simp [ic116_1_b, this, Corp.cells]
  | succ d ih =>
    intro i hi
    have hlt : i < c.regs.length := by omega
    have hle : i + 1 ≤ c.regs.length := by omega
    have hle' : (i : Int) + 1 ≤ (c.regs.length : Int) := by omega
    have hw : IntKind.i64.wrap ((i : Int) + 1) = i + 1 := wrap64 (by omega) (by omega)
    have hm : c.regs[i] ∈ c.regs := List.getElem_mem _
    obtain ⟨nb, hnm⟩ := hc.name hm
    obtain ⟨w, hwi⟩ := within_ans c c.regs[i].b c.regs[i].e ht
    have hpr := hc.keys hm
    have hkk := fun (k : Nat) (hk : k < c.regs.length) => cmp_spec c.regs[k] c.regs[i] (hc.kok (List.getElem_mem _))
    have hin := rg_in (c := c) (x := c.regs[i]) hlt hn (i + 1) 0 0 (by omega) (by omega)
    have hnext := ih (i + 1) (by omega)
    generalize hx : c.regs[i] = x at *
    simp [Corp.cells, Rg.enc] at hin hnext hwi hkk
    cases nb
    · left
      refine ⟨i, 4, ?_⟩
      rw [ic116_1_eq]
      simp [ic116_1_b, hlt, hle, hle', Corp.cells, Rg.enc, hw, hx, hnm, hwi, hpr]
    cases w
    · left
      refine ⟨i, 8, ?_⟩
      rw [ic116_1_eq]
      simp [ic116_1_b, hlt, hle, hle', Corp.cells, Rg.enc, hw, hx, hnm, hwi, hpr]
    by_cases h0 : i = 0
    · subst h0
      have hw10 : IntKind.i64.wrap 1 = 1 := wrap64 (by omega) (by omega)
      have hl1 : 1 ≤ c.regs.length := hlt
      simp at hin
      rcases hin with ⟨b, d', hin⟩ | ⟨d', hin⟩
      · left
        refine ⟨b, d', ?_⟩
        rw [ic116_1_eq]
        simp [ic116_1_b, hlt, hle, hle', hw10, hl1, Corp.cells, Rg.enc, hw, hx, hnm, hwi, hpr, hin, List.map_take]
      · by_cases hf : (40 : Int) < (d' : Int)
        rotate_left
        · rcases hnext with ⟨b, e, hnext⟩ | hnext
          · left
            refine ⟨b, e, ?_⟩
            rw [ic116_1_eq]
            simp [ic116_1_b, hlt, hle, hle', hw10, hl1, Corp.cells, Rg.enc, hw, hx, hnm, hwi, hpr, hf, hin, List.map_take]
            simpa using hnext
          · right
            rw [ic116_1_eq]
            simp [ic116_1_b, hlt, hle, hle', hw10, hl1, Corp.cells, Rg.enc, hw, hx, hnm, hwi, hpr, hf, hin, List.map_take]
            simpa using hnext
        · left
          refine ⟨0, 2, ?_⟩
          rw [ic116_1_eq]
          simp [ic116_1_b, hlt, hle, hle', hw10, hl1, Corp.cells, Rg.enc, hw, hx, hnm, hwi, hpr, hf, hin, List.map_take]
    · obtain ⟨k, hki⟩ : ∃ k, i = k + 1 := ⟨i - 1, by omega⟩
      have hkl : k < c.regs.length := by omega
      have hk := hkk k hkl
      have hwk : IntKind.i64.wrap ((i : Int) - 1) = k := by rw [hki]; exact wrap64 (by omega) (by omega) |>.trans (by omega)
      have hkp : 0 < i := by omega
      have h0i : (0 : Int) ≤ (i : Int) + 1 := by omega
      have htn : ((i : Int) + 1).toNat = i + 1 := by omega
      by_cases hq : 0 < cmp c.regs[k] x
      rotate_left
      · rcases hin with ⟨b, d', hin⟩ | ⟨d', hin⟩
        · left
          refine ⟨b, d', ?_⟩
          rw [ic116_1_eq]
          simp [ic116_1_b, hlt, hle, hle', Corp.cells, Rg.enc, hw, hx, hnm, hwi, hpr, hk, hkl, hwk, hkp, h0i, htn, hq, hin, List.map_take]
        · by_cases hf : (40 : Int) < (d' : Int)
          rotate_left
          · rcases hnext with ⟨b, e, hnext⟩ | hnext
            · left
              refine ⟨b, e, ?_⟩
              rw [ic116_1_eq]
              simp [ic116_1_b, hlt, hle, hle', Corp.cells, Rg.enc, hw, hx, hnm, hwi, hpr, hk, hkl, hwk, hkp, h0i, htn, hq, hf, hin, List.map_take]
              simpa using hnext
            · right
              rw [ic116_1_eq]
              simp [ic116_1_b, hlt, hle, hle', Corp.cells, Rg.enc, hw, hx, hnm, hwi, hpr, hk, hkl, hwk, hkp, h0i, htn, hq, hf, hin, List.map_take]
              simpa using hnext
          · left
            refine ⟨i, 2, ?_⟩
            rw [ic116_1_eq]
            simp [ic116_1_b, hlt, hle, hle', Corp.cells, Rg.enc, hw, hx, hnm, hwi, hpr, hk, hkl, hwk, hkp, h0i, htn, hq, hf, hin, List.map_take]
      · left
        refine ⟨i, 6, ?_⟩
        rw [ic116_1_eq]
        simp [ic116_1_b, hlt, hle, hle', Corp.cells, Rg.enc, hw, hx, hnm, hwi, hpr, hk, hkl, hwk, hkp, h0i, htn, hq]

end Go.Ab.Prog
