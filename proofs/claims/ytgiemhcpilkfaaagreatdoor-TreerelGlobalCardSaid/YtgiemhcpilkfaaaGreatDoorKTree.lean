/- Tokens and heads of a corpus. -/
import Derived.Test.YtgiemhcpilkfaaaGreatDoorKDocE

namespace Go.Ab.Prog
open Go Go.Ab
set_option linter.unusedSimpArgs false
set_option maxHeartbeats 4000000

def isTok (c : Corp) (i : Int) : Bool := decide (0 ≤ i ∧ i < c.toks.length)

@[simp] theorem token_spec (c : Corp) (i : Int) : callV prog 39 [.agg c.cells, I i] = some (.bool (isTok c i), []) := by
  refine callV_fn (body := ic39) rfl rfl ?_
  by_cases h0 : 0 ≤ i
  · simp [ic39, Corp.cells, isTok, h0]
  · simp [ic39, Corp.cells, isTok, h0]

def hd (c : Corp) (i : Nat) : Int := match c.heads[i]? with
  | some h => if isTok c h then h else -1
  | none => -1

@[simp] theorem head_spec (c : Corp) (i : Nat) : callV prog 40 [.agg c.cells, I i] = some (I (hd c i), []) := by
  refine callV_fn (body := ic40) rfl rfl ?_
  by_cases h0 : i < c.heads.length
  · have e : c.heads[i]? = some c.heads[i] := List.getElem?_eq_getElem _
    have ht := token_spec c c.heads[i]
    cases h1 : isTok c c.heads[i]
    · rw [h1] at ht
      simp [Corp.cells] at ht
      simp [ic40, Corp.cells, hd, h0, e, ht, h1]
    · rw [h1] at ht
      simp [Corp.cells] at ht
      simp [ic40, Corp.cells, hd, h0, e, ht, h1]
  · have e : c.heads[i]? = none := List.getElem?_eq_none (by omega)
    simp [ic40, Corp.cells, hd, h0, e]

def rhd (c : Corp) (i : Nat) : Int × ByteArray := if c.heads.length = 0 then (-1, ⟨#[]⟩) else (c.heads[i]?.getD 0, c.rels[i]?.getD ⟨#[]⟩)

end Go.Ab.Prog
