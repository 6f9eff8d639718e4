/- Pairs and names answer. -/
import Derived.Test.YtgiemhcpilkfaaaGreatDoorKValC

namespace Go.Ab.Prog
open Go Go.Ab
set_option linter.unusedSimpArgs false
set_option maxHeartbeats 4000000

theorem pr0 : callN prog 40 140 [.list []] = some (I 0, []) := by kernel_rfl
theorem pr1 : callN prog 40 140 [.list [.agg [.str ⟨#[110]⟩, .str ⟨#[49]⟩]]] = some (I 0, []) := by kernel_rfl
theorem pr2 : callN prog 40 140 [.list [.agg [.str ⟨#[110]⟩, .str ⟨#[50]⟩]]] = some (I 0, []) := by kernel_rfl
theorem pr3 : callN prog 40 140 [.list [.agg [.str ⟨#[121, 101, 97, 114]⟩, .str ⟨#[49]⟩]]] = some (I 0, []) := by kernel_rfl
theorem pr4 : callN prog 40 140 [.list [.agg [.str ⟨#[121, 101, 97, 114]⟩, .str ⟨#[50]⟩]]] = some (I 0, []) := by kernel_rfl
theorem pr5 : callN prog 40 140 [.list [.agg [.str ⟨#[121, 101, 97, 114]⟩, .str ⟨#[]⟩]]] = some (I 0, []) := by kernel_rfl

theorem keys_val {ks : List Pr} (h : ks = [] ∨ ∃ p, PrOk p ∧ ks = [p]) : callV prog 140 [.list (ks.map prEnc)] = some (I 0, []) := by
  rcases h with rfl | ⟨⟨a, b⟩, ⟨h1, h2⟩, rfl⟩
  · exact callV_iff.2 ⟨40, pr0⟩
  · simp only at h1 h2
    subst h1
    rcases h2 with rfl | rfl
    · exact callV_iff.2 ⟨40, pr1⟩
    · exact callV_iff.2 ⟨40, pr2⟩
theorem info_val {ks : List Pr} (h : ks = [] ∨ ∃ p, InfoOk p ∧ ks = [p]) : callV prog 140 [.list (ks.map prEnc)] = some (I 0, []) := by
  rcases h with rfl | ⟨⟨a, b⟩, ⟨h1, h2⟩, rfl⟩
  · exact callV_iff.2 ⟨40, pr0⟩
  · simp only at h1 h2
    subst h1
    rcases h2 with rfl | rfl | rfl
    · exact callV_iff.2 ⟨40, pr3⟩
    · exact callV_iff.2 ⟨40, pr4⟩
    · exact callV_iff.2 ⟨40, pr5⟩

end Go.Ab.Prog
