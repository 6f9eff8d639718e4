/- Names answer. -/
import Derived.Test.YtgiemhcpilkfaaaGreatDoorKValD

namespace Go.Ab.Prog
open Go Go.Ab
set_option linter.unusedSimpArgs false

def names : List ByteArray := [⟨#[116, 48]⟩, ⟨#[116, 49]⟩, ⟨#[116, 50]⟩]
def NameAns (s : ByteArray) : Prop := ∃ b : Bool, callV prog 138 [.str s] = some (.bool b, [])

theorem nm0 : callN prog 40 138 [.str ⟨#[115]⟩] = some (.bool true, []) := by kernel_rfl
theorem nm1 : callN prog 40 138 [.str ⟨#[110, 112]⟩] = some (.bool true, []) := by kernel_rfl
theorem nm2 : callN prog 40 138 [.str ⟨#[116]⟩] = some (.bool true, []) := by kernel_rfl
theorem name_types {s : ByteArray} (h : s ∈ types) : NameAns s := by
  simp only [types, List.mem_cons, List.not_mem_nil, or_false] at h
  rcases h with rfl | rfl | rfl
  · exact ⟨true, callV_iff.2 ⟨40, nm0⟩⟩
  · exact ⟨true, callV_iff.2 ⟨40, nm1⟩⟩
  · exact ⟨true, callV_iff.2 ⟨40, nm2⟩⟩
theorem nm3 : callN prog 40 138 [.str ⟨#[83]⟩] = some (.bool true, []) := by kernel_rfl
theorem nm4 : callN prog 40 138 [.str ⟨#[78, 80]⟩] = some (.bool true, []) := by kernel_rfl
theorem nm5 : callN prog 40 138 [.str ⟨#[86, 80]⟩] = some (.bool true, []) := by kernel_rfl
theorem name_labels {s : ByteArray} (h : s ∈ labels) : NameAns s := by
  simp only [labels, List.mem_cons, List.not_mem_nil, or_false] at h
  rcases h with rfl | rfl | rfl
  · exact ⟨true, callV_iff.2 ⟨40, nm3⟩⟩
  · exact ⟨true, callV_iff.2 ⟨40, nm4⟩⟩
  · exact ⟨true, callV_iff.2 ⟨40, nm5⟩⟩
theorem nm6 : callN prog 40 138 [.str ⟨#[111, 98, 106]⟩] = some (.bool true, []) := by kernel_rfl
theorem nm7 : callN prog 40 138 [.str ⟨#[100, 101, 116]⟩] = some (.bool true, []) := by kernel_rfl
theorem nm8 : callN prog 40 138 [.str ⟨#[]⟩] = some (.bool false, []) := by kernel_rfl
theorem name_relNames {s : ByteArray} (h : s ∈ relNames) : NameAns s := by
  simp only [relNames, List.mem_cons, List.not_mem_nil, or_false] at h
  rcases h with rfl | rfl | rfl
  · exact ⟨true, callV_iff.2 ⟨40, nm6⟩⟩
  · exact ⟨true, callV_iff.2 ⟨40, nm7⟩⟩
  · exact ⟨false, callV_iff.2 ⟨40, nm8⟩⟩
theorem nm9 : callN prog 40 138 [.str ⟨#[116, 48]⟩] = some (.bool true, []) := by kernel_rfl
theorem nm10 : callN prog 40 138 [.str ⟨#[116, 49]⟩] = some (.bool true, []) := by kernel_rfl
theorem nm11 : callN prog 40 138 [.str ⟨#[116, 50]⟩] = some (.bool true, []) := by kernel_rfl
theorem name_names {s : ByteArray} (h : s ∈ names) : NameAns s := by
  simp only [names, List.mem_cons, List.not_mem_nil, or_false] at h
  rcases h with rfl | rfl | rfl
  · exact ⟨true, callV_iff.2 ⟨40, nm9⟩⟩
  · exact ⟨true, callV_iff.2 ⟨40, nm10⟩⟩
  · exact ⟨true, callV_iff.2 ⟨40, nm11⟩⟩

end Go.Ab.Prog
