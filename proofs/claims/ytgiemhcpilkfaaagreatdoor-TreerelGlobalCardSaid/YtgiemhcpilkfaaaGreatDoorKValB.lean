/- The tokens' check answers. -/
import Derived.Test.YtgiemhcpilkfaaaGreatDoorKVal
import Derived.KernelRfl

namespace Go.Ab.Prog
open Go Go.Ab
set_option linter.unusedSimpArgs false
set_option maxHeartbeats 4000000

theorem val0 : callN prog 40 139 [.agg [.str ⟨#[119, 111, 114, 100]⟩, .bool false], .str ⟨#[97]⟩] = some (I 0, []) := by kernel_rfl
theorem val1 : callN prog 40 139 [.agg [.str ⟨#[119, 111, 114, 100]⟩, .bool false], .str ⟨#[98]⟩] = some (I 0, []) := by kernel_rfl
theorem val2 : callN prog 40 139 [.agg [.str ⟨#[119, 111, 114, 100]⟩, .bool false], .str ⟨#[99]⟩] = some (I 0, []) := by kernel_rfl
theorem val3 : callN prog 40 139 [.agg [.str ⟨#[119, 111, 114, 100]⟩, .bool false], .str ⟨#[65]⟩] = some (I 0, []) := by kernel_rfl
theorem val4 : callN prog 40 139 [.agg [.str ⟨#[119, 111, 114, 100]⟩, .bool false], .str ⟨#[97, 98]⟩] = some (I 0, []) := by kernel_rfl
theorem val5 : callN prog 40 139 [.agg [.str ⟨#[119, 111, 114, 100]⟩, .bool false], .str ⟨#[]⟩] = some (I 0, []) := by kernel_rfl
theorem val_word {s : ByteArray} (h : s ∈ words) : callV prog 139 [.agg [.str ⟨#[119, 111, 114, 100]⟩, .bool false], .str s] = some (I 0, []) := by
  simp only [words, List.mem_cons, List.not_mem_nil, or_false] at h
  rcases h with rfl | rfl | rfl | rfl | rfl | rfl
  · exact callV_iff.2 ⟨40, val0⟩
  · exact callV_iff.2 ⟨40, val1⟩
  · exact callV_iff.2 ⟨40, val2⟩
  · exact callV_iff.2 ⟨40, val3⟩
  · exact callV_iff.2 ⟨40, val4⟩
  · exact callV_iff.2 ⟨40, val5⟩
theorem val6 : callN prog 40 139 [.agg [.str ⟨#[116, 97, 103]⟩, .bool false], .str ⟨#[88]⟩] = some (I 0, []) := by kernel_rfl
theorem val7 : callN prog 40 139 [.agg [.str ⟨#[116, 97, 103]⟩, .bool false], .str ⟨#[89]⟩] = some (I 0, []) := by kernel_rfl
theorem val_tag {s : ByteArray} (h : s ∈ tags) : callV prog 139 [.agg [.str ⟨#[116, 97, 103]⟩, .bool false], .str s] = some (I 0, []) := by
  simp only [tags, List.mem_cons, List.not_mem_nil, or_false] at h
  rcases h with rfl | rfl
  · exact callV_iff.2 ⟨40, val6⟩
  · exact callV_iff.2 ⟨40, val7⟩
theorem val8 : callN prog 40 139 [.agg [.str ⟨#[102, 101, 97, 116]⟩, .bool true], .str ⟨#[124]⟩] = some (I 0, []) := by kernel_rfl
theorem val9 : callN prog 40 139 [.agg [.str ⟨#[102, 101, 97, 116]⟩, .bool true], .str ⟨#[124, 112, 124]⟩] = some (I 0, []) := by kernel_rfl
theorem val10 : callN prog 40 139 [.agg [.str ⟨#[102, 101, 97, 116]⟩, .bool true], .str ⟨#[124, 112, 124, 113, 124]⟩] = some (I 0, []) := by kernel_rfl
theorem val11 : callN prog 40 139 [.agg [.str ⟨#[102, 101, 97, 116]⟩, .bool true], .str ⟨#[124, 113, 124]⟩] = some (I 0, []) := by kernel_rfl
theorem val_feat {s : ByteArray} (h : s ∈ feats) : callV prog 139 [.agg [.str ⟨#[102, 101, 97, 116]⟩, .bool true], .str s] = some (I 0, []) := by
  simp only [feats, List.mem_cons, List.not_mem_nil, or_false] at h
  rcases h with rfl | rfl | rfl | rfl
  · exact callV_iff.2 ⟨40, val8⟩
  · exact callV_iff.2 ⟨40, val9⟩
  · exact callV_iff.2 ⟨40, val10⟩
  · exact callV_iff.2 ⟨40, val11⟩

end Go.Ab.Prog
