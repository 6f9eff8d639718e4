/- The heads above a token, as the reference walks. -/
import Derived.Test.YtgiemhcpilkfaaaGreatDoorKUp

namespace Go.Ab.Prog
open Go Go.Ab
set_option linter.unusedSimpArgs false
set_option maxHeartbeats 4000000

/-- Heads and relations of a corpus: none, or one each for every token, and no way leads round. -/
structure HeadsOk (c : Corp) (rk : Nat → Nat) : Prop where
  len : (c.heads = [] ∧ c.rels = []) ∨ (c.heads.length = c.toks.length ∧ c.rels.length = c.toks.length)
  rk : ∀ i h, c.heads[i]? = some h → rk i < c.toks.length ∧ (h = -1 ∨ ∃ j : Nat, h = (j : Int) ∧ j < c.toks.length ∧ rk j < rk i)

theorem HeadsOk.look {c : Corp} {rk : Nat → Nat} (h : HeadsOk c rk) {i : Nat} (hi : i < c.toks.length) : c.heads.length = 0 ∨ (i < c.heads.length ∧ i < c.rels.length) := by
  rcases h.len with ⟨h1, _⟩ | ⟨h1, h2⟩
  · left; simp [h1]
  · right; omega

theorem HeadsOk.hd {c : Corp} {rk : Nat → Nat} (h : HeadsOk c rk) {i : Nat} (hi : i < c.toks.length) : (rhd c i).1 = hd c i := by
  unfold rhd Prog.hd
  rcases h.len with ⟨h1, _⟩ | ⟨h1, h2⟩
  · simp [h1]
  · have h3 : ¬ c.heads.length = 0 := by omega
    have h4 : i < c.heads.length := by omega
    have e : c.heads[i]? = some c.heads[i] := List.getElem?_eq_getElem _
    rw [if_neg h3, e]
    rcases (h.rk i _ e).2 with h5 | ⟨j, h5, h6, _⟩
    · rw [h5]; simp [isTok]
    · rw [h5]; simp [isTok, h6]

theorem HeadsOk.next {c : Corp} {rk : Nat → Nat} (h : HeadsOk c rk) {i : Nat} (hi : i < c.toks.length) : Prog.hd c i = -1 ∨ ∃ j : Nat, Prog.hd c i = (j : Int) ∧ j < c.toks.length ∧ rk j < rk i := by
  unfold Prog.hd
  cases e : c.heads[i]? with
  | none => simp
  | some v =>
    rcases (h.rk i _ e).2 with h5 | ⟨j, h5, h6, h7⟩
    · left; rw [h5]; simp [isTok]
    · right; exact ⟨j, by simp [h5, isTok, h6], h6, h7⟩

end Go.Ab.Prog
