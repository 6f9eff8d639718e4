/- The heads above a token, as the reference walks. -/
import Derived.Test.YtomajljeecmpoaaKUp

namespace Go.Ab.Prog
open Go Go.Ab
set_option linter.unusedSimpArgs false
set_option maxHeartbeats 4000000

/-- Heads and relations of a corpus: none, or one each for every token, and no way leads round. -/
structure HeadsOk (c : Corp) (rk : Nat → Nat) : Prop where
  len : (c.heads = [] ∧ c.rels = []) ∨ (c.heads.length = c.toks.length ∧ c.rels.length = c.toks.length)
  rk : ∀ i h, c.heads[i]? = some h → rk i < c.toks.length ∧ (h = -1 ∨ ∃ j : Nat, h = (j : Int) ∧ j < c.toks.length ∧ rk j < rk i)

theorem HeadsOk.look {c : Corp} {rk : Nat → Nat} (h : HeadsOk c rk) {i : Nat} (hi : i < c.toks.length) : c.heads.length = 0 ∨ (i < c.heads.length ∧ i < c.rels.length) := by
  rcases h.len with ⟨h1, _⟩ | ⟨h1, h2⟩
  · left; simp [h1]
  · right; omega

theorem HeadsOk.hd {c : Corp} {rk : Nat → Nat} (h : HeadsOk c rk) {i : Nat} (hi : i < c.toks.length) : (rhd c i).1 = hd c i := by
  unfold rhd Prog.hd
  rcases h.len with ⟨h1, _⟩ | ⟨h1, h2⟩
  · simp [h1]
  · have h3 : ¬ c.heads.length = 0 := by omega
    have h4 : i < c.heads.length := by omega
    have e : c.heads[i]? = some c.heads[i] := List.getElem?_eq_getElem _
    rw [if_neg h3, e]
    rcases (h.rk i _ e).2 with h5 | ⟨j, h5, h6, _⟩
    · rw [h5]; simp [isTok]
    · rw [h5]; simp [isTok, h6]

theorem HeadsOk.next {c : Corp} {rk : Nat → Nat} (h : HeadsOk c rk) {i : Nat} (hi : i < c.toks.length) : Prog.hd c i = -1 ∨ ∃ j : Nat, Prog.hd c i = (j : Int) ∧ j < c.toks.length ∧ rk j < rk i := by
  unfold Prog.hd
  cases e : c.heads[i]? with
  | none => simp
  | some v =>
    rcases (h.rk i _ e).2 with h5 | ⟨j, h5, h6, h7⟩
    · left; rw [h5]; simp [isTok]
    · right; exact ⟨j, by simp [h5, isTok, h6], h6, h7⟩

theorem rup_loop {c : Corp} {rk : Nat → Nat} (hc : HeadsOk c rk) (hn : c.toks.length ≤ 100) : ∀ (r : Nat) (h : Int) (out : List Nat), (h = -1 ∨ ∃ j : Nat, h = (j : Int) ∧ j < c.toks.length ∧ rk j < r) → out.length + r ≤ 200 →
    evV prog ic16_0 ⟨tm [(2, .ptr 101 0), (5, .arr 100 out.length 0 out.length), (6, I h)], hp [(100, some (.arr 1 (out.map IN) false)), (101, some (.box c.cells))]⟩
      = some (.exit 0, ⟨tm [(5, .arr 100 (out ++ upF c r h).length 0 (out ++ upF c r h).length)], hp [(100, some (.arr 1 ((out ++ upF c r h).map IN) false))]⟩) := by
  intro r
  induction r with
  | zero =>
    intro h out hh _
    rcases hh with rfl | ⟨j, _, _, h3⟩
    · rw [ic16_0_eq]
      simp [ic16_0_b, Corp.cells, upF]
    · omega
  | succ r ih =>
    intro h out hh hl
    rcases hh with rfl | ⟨j, rfl, hj, hr⟩
    · rw [ic16_0_eq]
      simp [ic16_0_b, Corp.cells, upF]
    · have m1 : (out.length + 1) * 8 ≤ room := by unfold room; omega
      have m2 : out.length + 1 ≤ room := by unfold room; omega
      have hne : ¬ ((j : Nat) : Int) = -1 := by omega
      have hh := rhead_spec c j (hc.look hj)
      rw [hc.hd hj] at hh
      have hx : Prog.hd c j = -1 ∨ ∃ k : Nat, Prog.hd c j = (k : Int) ∧ k < c.toks.length ∧ rk k < r := by
        rcases hc.next hj with h | ⟨k, h1, h2, h3⟩
        · exact .inl h
        · exact .inr ⟨k, h1, h2, by omega⟩
      have hi := ih (Prog.hd c j) (out ++ [j]) hx (by simp; omega)
      rw [ic16_0_eq]
      simp [Corp.cells] at hh hi
      simp [ic16_0_b, Corp.cells, upF, m1, m2, hh, hne]
      simpa [Nat.add_assoc, Nat.add_comm, Nat.add_left_comm] using hi

theorem rup_spec {c : Corp} {rk : Nat → Nat} (hc : HeadsOk c rk) (hn : c.toks.length ≤ 100) (i : Int) : callV prog 16 [.agg c.cells, I i] = some (.list ((up c i).map IN), []) := by
  refine callV_fn (body := ic16) rfl rfl ?_
  have ht := rtoken_spec c i
  cases h1 : isTok c i
  · rw [h1] at ht
    simp [Corp.cells] at ht
    simp [ic16, Corp.cells, up, h1, ht]
  · have h0 : 0 ≤ i ∧ i < c.toks.length := by simpa [isTok] using h1
    rw [h1] at ht
    obtain ⟨k, rfl⟩ := Int.eq_ofNat_of_zero_le h0.1
    have hk : k < c.toks.length := by omega
    have hh := rhead_spec c k (hc.look hk)
    rw [hc.hd hk] at hh
    have hx : Prog.hd c k = -1 ∨ ∃ j : Nat, Prog.hd c k = (j : Int) ∧ j < c.toks.length ∧ rk j < c.toks.length := by
      rcases hc.next hk with h | ⟨j, h1, h2, h3⟩
      · exact .inl h
      · refine .inr ⟨j, h1, h2, ?_⟩
        have : rk k < c.toks.length := by
          cases e : c.heads[k]? with
          | none => rw [Prog.hd, e] at h1; simp at h1
          | some v => exact (hc.rk k v e).1
        omega
    have hl := rup_loop hc hn c.toks.length (Prog.hd c k) [] hx (by simp; omega)
    simp [Corp.cells] at ht hh hl
    simp [ic16, Corp.cells, up, h1, ht, hh, hl]

end Go.Ab.Prog
