/- The small functions that make documents. -/
import Derived.Test.YtgiemhcpilkfaaaGreatDoorKSorted
import Derived.Test.YtgiemhcpilkfaaaGreatDoorKHeads
import Derived.Test.YtgiemhcpilkfaaaGreatDoorKNodes

namespace Go.Ab.Prog
open Go Go.Ab
set_option linter.unusedSimpArgs false
set_option maxHeartbeats 4000000

def attrs : List PV := [.agg [.str ⟨#[119, 111, 114, 100]⟩, .bool false], .agg [.str ⟨#[116, 97, 103]⟩, .bool false], .agg [.str ⟨#[102, 101, 97, 116]⟩, .bool true]]
@[simp] theorem attrs_spec : callV prog 46 [] = some (.list attrs, []) := by
  refine callV_fn (body := ic46) rfl rfl ?_
  simp [ic46, attrs]

def words : List ByteArray := [⟨#[97]⟩, ⟨#[98]⟩, ⟨#[99]⟩, ⟨#[65]⟩, ⟨#[97, 98]⟩, ⟨#[]⟩]
def tags : List ByteArray := [⟨#[88]⟩, ⟨#[89]⟩]
def feats : List ByteArray := [⟨#[124]⟩, ⟨#[124, 112, 124]⟩, ⟨#[124, 112, 124, 113, 124]⟩, ⟨#[124, 113, 124]⟩]
def types : List ByteArray := [⟨#[115]⟩, ⟨#[110, 112]⟩, ⟨#[116]⟩]

theorem word_ex {n : Int} (h0 : 0 ≤ n) (h1 : n < 6) : ∃ s ∈ words, callV prog 47 [I n] = some (.str s, []) := by
  have : n = 0 ∨ n = 1 ∨ n = 2 ∨ n = 3 ∨ n = 4 ∨ n = 5 := by omega
  rcases this with rfl | rfl | rfl | rfl | rfl | rfl
  · exact ⟨⟨#[97]⟩, by simp [words], by refine callV_fn (body := ic47) rfl rfl ?_; simp [ic47]⟩
  · exact ⟨⟨#[98]⟩, by simp [words], by refine callV_fn (body := ic47) rfl rfl ?_; simp [ic47]⟩
  · exact ⟨⟨#[99]⟩, by simp [words], by refine callV_fn (body := ic47) rfl rfl ?_; simp [ic47]⟩
  · exact ⟨⟨#[65]⟩, by simp [words], by refine callV_fn (body := ic47) rfl rfl ?_; simp [ic47]⟩
  · exact ⟨⟨#[97, 98]⟩, by simp [words], by refine callV_fn (body := ic47) rfl rfl ?_; simp [ic47]⟩
  · exact ⟨⟨#[]⟩, by simp [words], by refine callV_fn (body := ic47) rfl rfl ?_; simp [ic47]⟩
theorem tag_ex {n : Int} (h0 : 0 ≤ n) (h1 : n < 2) : ∃ s ∈ tags, callV prog 48 [I n] = some (.str s, []) := by
  have : n = 0 ∨ n = 1 := by omega
  rcases this with rfl | rfl
  · exact ⟨⟨#[88]⟩, by simp [tags], by refine callV_fn (body := ic48) rfl rfl ?_; simp [ic48]⟩
  · exact ⟨⟨#[89]⟩, by simp [tags], by refine callV_fn (body := ic48) rfl rfl ?_; simp [ic48]⟩
theorem feat_ex {n : Int} (h0 : 0 ≤ n) (h1 : n < 4) : ∃ s ∈ feats, callV prog 49 [I n] = some (.str s, []) := by
  have : n = 0 ∨ n = 1 ∨ n = 2 ∨ n = 3 := by omega
  rcases this with rfl | rfl | rfl | rfl
  · exact ⟨⟨#[124]⟩, by simp [feats], by refine callV_fn (body := ic49) rfl rfl ?_; simp [ic49]⟩
  · exact ⟨⟨#[124, 112, 124]⟩, by simp [feats], by refine callV_fn (body := ic49) rfl rfl ?_; simp [ic49]⟩
  · exact ⟨⟨#[124, 112, 124, 113, 124]⟩, by simp [feats], by refine callV_fn (body := ic49) rfl rfl ?_; simp [ic49]⟩
  · exact ⟨⟨#[124, 113, 124]⟩, by simp [feats], by refine callV_fn (body := ic49) rfl rfl ?_; simp [ic49]⟩
theorem type_ex {n : Int} (h0 : 0 ≤ n) (h1 : n < 3) : ∃ s ∈ types, callV prog 28 [I n] = some (.str s, []) := by
  have : n = 0 ∨ n = 1 ∨ n = 2 := by omega
  rcases this with rfl | rfl | rfl
  · exact ⟨⟨#[115]⟩, by simp [types], by refine callV_fn (body := ic28) rfl rfl ?_; simp [ic28, mod]⟩
  · exact ⟨⟨#[110, 112]⟩, by simp [types], by refine callV_fn (body := ic28) rfl rfl ?_; simp [ic28, mod]⟩
  · exact ⟨⟨#[116]⟩, by simp [types], by refine callV_fn (body := ic28) rfl rfl ?_; simp [ic28, mod]⟩

end Go.Ab.Prog
