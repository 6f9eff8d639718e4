/- Validate answers something, if its parts do. -/
import Derived.Test.YtgiemhcpilkfaaaGreatDoorKKnown
import Derived.KernelRfl

namespace Go.Ab.Prog
open Go Go.Ab
set_option linter.unusedSimpArgs false
set_option maxHeartbeats 4000000

/-- A part's check answers a place and an error. -/
def Ans (f : Nat) (args : List PV) : Prop := ∃ i e : Int, callV prog f args = some (.tuple [I i, I e], [])

theorem validate_of {c : Corp} (h1 : Ans 113 [.list attrs]) (h2 : Ans 114 [.agg c.cells]) (h3 : Ans 115 [.agg c.cells]) (h4 : Ans 116 [.agg c.cells]) (h5 : Ans 117 [.list (c.nodes.map Nd.enc), .agg c.cells]) (h6 : Ans 118 [.agg c.cells]) :
    ∃ a b e : Int, callV prog 86 [.agg c.cells] = some (.tuple [I a, I b, I e], []) := by
  obtain ⟨i1, e1, h1⟩ := h1
  obtain ⟨i2, e2, h2⟩ := h2
  obtain ⟨i3, e3, h3⟩ := h3
  obtain ⟨i4, e4, h4⟩ := h4
  obtain ⟨i5, e5, h5⟩ := h5
  obtain ⟨i6, e6, h6⟩ := h6
  simp [Corp.cells] at h2 h3 h4 h5 h6
  by_cases k1 : e1 = 0
  · by_cases k2 : e2 = 0
    · by_cases k3 : e3 = 0
      · by_cases k4 : e4 = 0
        · by_cases k5 : e5 = 0
          · by_cases k6 : e6 = 0
            · exact ⟨0, 0, 0, callV_fn (body := ic86) rfl rfl (by simp [ic86, Corp.cells, h1, h2, h3, h4, h5, h6, k1, k2, k3, k4, k5, k6])⟩
            · exact ⟨6, i6, e6, callV_fn (body := ic86) rfl rfl (by simp [ic86, Corp.cells, h1, h2, h3, h4, h5, h6, k1, k2, k3, k4, k5, k6])⟩
          · exact ⟨5, i5, e5, callV_fn (body := ic86) rfl rfl (by simp [ic86, Corp.cells, h1, h2, h3, h4, h5, k1, k2, k3, k4, k5])⟩
        · exact ⟨4, i4, e4, callV_fn (body := ic86) rfl rfl (by simp [ic86, Corp.cells, h1, h2, h3, h4, k1, k2, k3, k4])⟩
      · exact ⟨3, i3, e3, callV_fn (body := ic86) rfl rfl (by simp [ic86, Corp.cells, h1, h2, h3, k1, k2, k3])⟩
    · exact ⟨2, i2, e2, callV_fn (body := ic86) rfl rfl (by simp [ic86, Corp.cells, h1, h2, k1, k2])⟩
  · exact ⟨1, i1, e1, callV_fn (body := ic86) rfl rfl (by simp [ic86, Corp.cells, h1, k1])⟩

theorem attrs_run : callN prog 40 113 [.list attrs] = some (.tuple [I 0, I 0], []) := by kernel_rfl
theorem attrs_ans : Ans 113 [.list attrs] := ⟨0, 0, callV_iff.2 ⟨40, attrs_run⟩⟩

end Go.Ab.Prog
