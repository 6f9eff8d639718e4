/- Is a number in a list? -/
import Derived.Test.YtgiemhcpilkfaaaGreatDoorKRDown

namespace Go.Ab.Prog
open Go Go.Ab
set_option linter.unusedSimpArgs false
set_option maxHeartbeats 4000000

def has (l : List Nat) (x : Int) : Bool := l.any (fun y => decide (x = (y : Int)))

theorem idx_loop (l : List Nat) (x : Int) (hl : l.length ≤ 1000) : ∀ (m i : Nat), i + m = l.length →
    (has (l.drop i) x = false ∧ evV prog ic110_0 ⟨tm [(0, .list (l.map IN)), (1, I x), (7, I l.length), (8, I i)], hp []⟩ = some (.exit 0, ⟨tm [], hp []⟩)) ∨
    (has (l.drop i) x = true ∧ ∃ j : Nat, evV prog ic110_0 ⟨tm [(0, .list (l.map IN)), (1, I x), (7, I l.length), (8, I i)], hp []⟩ = some (.ret, ⟨tm [(4, I j)], hp []⟩)) := by
  intro m
  induction m with
  | zero =>
    intro i hi
    have h1 : ¬ i < l.length := by omega
    have h2 : l.drop i = [] := List.drop_eq_nil_of_le (by omega)
    left
    refine ⟨by simp [h2, has], ?_⟩
    rw [ic110_0_eq]
    simp [ic110_0_b, h1]
  | succ m ih =>
    intro i hi
    have hlt : i < l.length := by omega
    have hw : IntKind.i64.wrap ((i : Int) + 1) = i + 1 := wrap64 (by omega) (by omega)
    have hd : has (l.drop i) x = (decide (x = ((l[i] : Nat) : Int)) || has (l.drop (i + 1)) x) := by rw [List.drop_eq_getElem_cons hlt]; rfl
    by_cases hx : x = ((l[i] : Nat) : Int)
    · right
      refine ⟨by rw [hd]; simp [hx], i, ?_⟩
      rw [ic110_0_eq]
      simp [ic110_0_b, hlt, ← hx]
    · have step : ∀ r, evV prog ic110_0 ⟨tm [(0, .list (l.map IN)), (1, I x), (7, I l.length), (8, I (i + 1 : Nat))], hp []⟩ = r → evV prog ic110_0 ⟨tm [(0, .list (l.map IN)), (1, I x), (7, I l.length), (8, I i)], hp []⟩ = r := fun r hr => by
        rw [ic110_0_eq]
        simp [ic110_0_b, hlt, hw, hx]
        simpa using hr
      rcases ih (i + 1) (by omega) with ⟨h1, h2⟩ | ⟨h1, j, h2⟩
      · left; exact ⟨by rw [hd]; simp [hx, h1], step _ h2⟩
      · right; exact ⟨by rw [hd]; simp [h1], j, step _ h2⟩

theorem idx_spec (l : List Nat) (x : Int) (hl : l.length ≤ 1000) : ∃ j : Int, callV prog 110 [.list (l.map IN), I x] = some (I j, []) ∧ decide (0 ≤ j) = has l x := by
  rcases idx_loop l x hl l.length 0 (by omega) with ⟨h1, h2⟩ | ⟨h1, j, h2⟩
  · refine ⟨-1, callV_fn (body := ic110) rfl rfl ?_, by simp at h1; simp [h1]⟩
    simp at h2
    simp [ic110, h2]
  · refine ⟨j, callV_fn (body := ic110) rfl rfl ?_, by simp at h1; simp [h1]⟩
    simp at h2
    simp [ic110, h2]

theorem contains_spec (l : List Nat) (x : Int) (hl : l.length ≤ 1000) : callV prog 84 [.list (l.map IN), I x] = some (.bool (has l x), []) := by
  obtain ⟨j, h1, h2⟩ := idx_spec l x hl
  refine callV_fn (body := ic84) rfl rfl ?_
  simp [ic84, h1, h2]

end Go.Ab.Prog
