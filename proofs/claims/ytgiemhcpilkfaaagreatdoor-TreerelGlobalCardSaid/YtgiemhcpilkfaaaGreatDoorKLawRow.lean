/- From the evaluator's answer to the calls of a law: a slice of whole numbers and whole numbers come in, true comes out, and nothing that was there has turned. -/
import Derived.Test.YtgiemhcpilkfaaaGreatDoorKFit
import Derived.Test.YtgiemhcpilkfaaaGreatDoorKLim
import Derived.Test.YtgiemhcpilkfaaaGreatDoorK2
import Derived.Below
import Derived.WalkKit
import Derived.ProofKit

namespace Go.Ab.Prog
open Go Go.Ab Go.RowKit Go.Proofs

def IsRow (w : World) (a : Option Addr) (len cap : Nat) (zs : List Int) : Prop :=
  (a = none ∧ len = 0 ∧ cap = 0 ∧ zs = []) ∨
  ∃ x, a = some x ∧ len ≤ cap ∧ cap ≤ maxLen ∧ zs.length = cap ∧ (∀ i, i < zs.length → w.cell? (x.add i) = some (.int .i64 (zs.getD i 0))) ∧ ∀ n ∈ zs, (Lit.int .i64 n).wf = true

def rowGhost (w : World) (b o n : Nat) : Ghost := fun y => if y.block = b ∧ y.spot = none ∧ o ≤ y.off ∧ y.off < o + n then w.cell? y else none
theorem rowGhost_holds (w : World) (b o n : Nat) : Holds (rowGhost w b o n) w := by
  intro x v h
  unfold rowGhost at h
  split at h
  · exact h
  · cases h

theorem cell_spot {w : World} {x : Addr} {v : Value} (h : w.cell? x = some v) : x.spot = none := by
  unfold World.cell? at h
  split at h
  · split at h
    · cases h
    · rename_i hs; simpa using hs
  · cases h

theorem IsRow.rep {w : World} {a : Option Addr} {len cap : Nat} {zs : List Int} (h : IsRow w a len cap zs) :
    ∃ (l : List Int) (G : Ghost), l.length < 9223372036854775808 ∧ Holds G w ∧ RepC G (.list (l.map (fun n => PV.int .i64 n))) (.slice a len cap) := by
  rcases h with ⟨rfl, rfl, rfl, rfl⟩ | ⟨x, rfl, h1, h2, h3, h4, _⟩
  · refine ⟨[], fun _ => none, by simp, (fun x v h => by cases h), ?_⟩
    exact .list [] none 0 0 0 0 1 (fun _ _ => .bool false) rfl (by simp) (.inl rfl) (by simp) (by simp) (by simp)
  · refine ⟨zs.take len, rowGhost w x.block x.off len, ?_, rowGhost_holds _ _ _ _, ?_⟩
    · have : maxLen < 9223372036854775808 := by decide
      simp; omega
    · have hl : (zs.take len).length = len := by simp; omega
      refine .list _ (some x) len cap x.block x.off 1 (fun j _ => .int .i64 (zs.getD j 0)) (by simp; omega) (by simp; omega) ?_ ?_ ?_ ?_
      · by_cases h0 : len = 0
        · left; subst h0; simp
        · right
          have := cell_spot (h4 0 (by omega))
          rw [show x.add 0 = x from rfl] at this
          rw [← this]
      · intro j e he
        rw [List.getElem?_map] at he
        cases hz : (zs.take len)[j]? with
        | none => rw [hz] at he; cases he
        | some n => rw [hz] at he; cases he; rfl
      · intro j e i c he hc
        rw [List.getElem?_map] at he
        cases hz : (zs.take len)[j]? with
        | none => rw [hz] at he; cases he
        | some n =>
          rw [hz] at he
          cases he
          have hj : j < len := by
            have := (List.getElem?_eq_some_iff.1 hz).1
            omega
          have hi : i = 0 := by
            cases i with
            | zero => rfl
            | succ i => simp [PV.cells] at hc
          subst hi
          have hc4 := h4 j (by omega)
          unfold rowGhost
          rw [if_pos ⟨rfl, rfl, by show x.off ≤ x.off + j * 1 + 0; omega, by show x.off + j * 1 + 0 < x.off + len; omega⟩]
          rw [← hc4]
          by_cases hj0 : j = 0
          · subst hj0
            have := cell_spot hc4
            rw [show x.add 0 = x from rfl] at this ⊢
            rw [← this]; rfl
          · simp [Addr.add, hj0]
      · intro j e i c he hc
        rw [List.getElem?_map] at he
        cases hz : (zs.take len)[j]? with
        | none => rw [hz] at he; cases he
        | some n =>
          rw [hz] at he
          cases he
          have hi : i = 0 := by
            cases i with
            | zero => rfl
            | succ i => simp [PV.cells] at hc
          subst hi
          simp [PV.cells] at hc
          subst hc
          have h5 := List.getElem?_eq_some_iff.1 hz
          have h6 : zs.getD j 0 = n := by
            obtain ⟨h6, h7⟩ := h5
            simp at h6 h7
            rw [List.getD_eq_getElem?_getD, List.getElem?_eq_getElem (by omega), h7]; rfl
          rw [h6]
          exact .int _ _

theorem args_ints {G : Ghost} {w : World} : ∀ (ks : List Int), ArgsRep G w (ks.map (fun n => PV.int .i64 n)) (ks.map (fun n => Value.int .i64 n)) []
  | [] => .nil
  | k :: ks => .plain _ _ _ _ _ (.one (.int _ _)) (args_ints ks)

/-- The walk of a law. -/
theorem law_walk {f : Nat} {ks : List Int} {vals : Array Value} {a : Option Addr} {len cap : Nat} {zs : List Int} {w : World} (hrow : IsRow w a len cap zs)
    (hv : vals.toList = .slice a len cap :: ks.map (fun n => Value.int .i64 n))
    (h : ∀ l : List Int, l.length < 9223372036854775808 → callV prog f (.list (l.map (fun n => PV.int .i64 n)) :: ks.map (fun n => PV.int .i64 n)) = some (.bool true, [])) :
    Calls Tryz.prog f vals w fun e w' => e = .returned (.bool true) ∧ Below w.heap.size w w' := by
  obtain ⟨l, G, hl, hG, hr⟩ := hrow.rep
  obtain ⟨n, hn⟩ := callV_iff.1 (h l hl)
  have hc := callN_sound fits n f _ _ _ hn w G vals [] hG (by rw [hv]; exact .plain _ _ _ _ _ (.one hr) (args_ints ks)) List.nodup_nil
  refine hc.mono ?_
  rintro e w' ⟨v, G', rfl, hp⟩
  have hres := hp.res
  refine ⟨?_, ⟨hp.os, hp.tape, hp.output, hp.size, fun k hk => hp.fr k hk (by simp)⟩⟩
  cases hres with
  | plain _ _ h => cases h with | one h => cases h with | bool b => rfl

end Go.Ab.Prog
