/- The heads above a token. -/
import Derived.Test.YtgiemhcpilkfaaaGreatDoorKTree

namespace Go.Ab.Prog
open Go Go.Ab
set_option linter.unusedSimpArgs false
set_option maxHeartbeats 4000000

def upF (c : Corp) : Nat → Int → List Nat
  | 0, _ => []
  | f + 1, h => if 0 ≤ h then h.toNat :: upF c f (hd c h.toNat) else []

theorem up_loop (c : Corp) (hn : c.toks.length ≤ 100) : ∀ (f : Nat) (h : Int) (out : List Nat), out.length + f = c.toks.length →
    evV prog ic21_0 ⟨tm [(1, I h), (2, .ptr 101 0), (5, .arr 100 out.length 0 out.length)], hp [(100, some (.arr 1 (out.map IN) false)), (101, some (.box c.cells))]⟩
      = some (.exit 0, ⟨tm [(5, .arr 100 (out ++ upF c f h).length 0 (out ++ upF c f h).length)], hp [(100, some (.arr 1 ((out ++ upF c f h).map IN) false))]⟩) := by
  intro f
  induction f with
  | zero =>
    intro h out hl
    have h1 : ¬ out.length < c.toks.length := by omega
    rw [ic21_0_eq]
    by_cases h0 : 0 ≤ h
    · simp [ic21_0_b, Corp.cells, upF, h0, h1]
    · simp [ic21_0_b, Corp.cells, upF, h0]
  | succ f ih =>
    intro h out hl
    have h1 : out.length < c.toks.length := by omega
    rw [ic21_0_eq]
    by_cases h0 : 0 ≤ h
    · obtain ⟨i, rfl⟩ := Int.eq_ofNat_of_zero_le h0
      have m1 : (out.length + 1) * 8 ≤ room := by unfold room; omega
      have m2 : out.length + 1 ≤ room := by unfold room; omega
      have hh := head_spec c i
      have hi := ih (hd c i) (out ++ [i]) (by simp; omega)
      simp [Corp.cells] at hh hi
      simp [ic21_0_b, Corp.cells, upF, h1, m1, m2, hh]
      simpa [Nat.add_assoc, Nat.add_comm, Nat.add_left_comm] using hi
    · simp [ic21_0_b, Corp.cells, upF, h0]

def up (c : Corp) (i : Int) : List Nat := if isTok c i then upF c c.toks.length (hd c i.toNat) else []

theorem up_spec (c : Corp) (hn : c.toks.length ≤ 100) (i : Int) : callV prog 21 [.agg c.cells, I i] = some (.list ((up c i).map IN), []) := by
  refine callV_fn (body := ic21) rfl rfl ?_
  have ht := token_spec c i
  cases h1 : isTok c i
  · rw [h1] at ht
    simp [Corp.cells] at ht
    simp [ic21, Corp.cells, up, h1, ht]
  · have h0 : 0 ≤ i := by simp [isTok] at h1; omega
    rw [h1] at ht
    obtain ⟨k, rfl⟩ := Int.eq_ofNat_of_zero_le h0
    have hh := head_spec c k
    have hl := up_loop c hn c.toks.length (hd c k) [] (by simp)
    simp [Corp.cells] at ht hh hl
    simp [ic21, Corp.cells, up, h1, ht, hh, hl]

end Go.Ab.Prog
