/- A good corpus: Valid, FindText and allHeads answer. -/
import Derived.Test.YtgiemhcpilkfaaaGreatDoorKValK
import Derived.KernelRfl

namespace Go.Ab.Prog
open Go Go.Ab
set_option linter.unusedSimpArgs false
set_option linter.unusedVariables false
set_option maxHeartbeats 8000000

theorem nodes_ans {c : Corp} (hb : Back c.nodes) (hL : ∀ x ∈ c.nodes, x.label ∈ labels) (hn : c.nodes.length ≤ 100) (ht : c.texts.length ≤ 100) : Ans 117 [.list (c.nodes.map Nd.enc), .agg c.cells] := by
  have h1 : ¬ (2048 : Int) < c.nodes.length := by omega
  have m1 : c.nodes.length * 8 ≤ room := by unfold room; omega
  have m2 : c.nodes.length ≤ room := by unfold room; omega
  have m3 : (c.nodes.length : Int) ≤ (room : Int) := by unfold room; omega
  rcases nd_loop hb hL hn ht c.nodes.length 0 (List.replicate c.nodes.length 0) (by omega) (by simp) with ⟨b, e, h⟩ | h
  · refine ⟨b, e, callV_fn (body := ic117) rfl rfl ?_⟩
    simp [Corp.cells] at h
    simp [ic117, Corp.cells, h1, m1, m2, m3, h]
  · refine ⟨0, 0, callV_fn (body := ic117) rfl rfl ?_⟩
    simp [Corp.cells] at h
    simp [ic117, Corp.cells, h1, m1, m2, m3, h]

/-- A good corpus of k documents. -/
structure Okc (k : Nat) (c : Corp) : Prop where
  n1 : 1 ≤ c.toks.length
  n7 : c.toks.length ≤ 7 * k
  toks : ∀ t ∈ c.toks, TokOk t
  texts : 1 ≤ c.texts.length ∧ c.texts.length ≤ k ∧ ∀ x ∈ c.texts, x.name ∈ names ∧ InfosOk x
  regs : c.regs.length ≤ 4 * k ∧ RegsOk c
  nodes : c.nodes.length ≤ 6 * k ∧ (∀ x ∈ c.nodes, x.label ∈ labels) ∧ ∃ z, z ≤ (c.toks.length : Int) ∧ Tops 0 0 c.nodes z
  rels : ∀ r ∈ c.rels, r ∈ relNames
  heads : ∃ rk, HeadsOk c rk

theorem Tops.back {a : Int} {i : Nat} {l : List Nd} {z : Int} (h : Tops a i l z) : ∀ (j : Nat) (hj : j < l.length), l[j].p = -1 ∨ ∃ q : Nat, i ≤ q ∧ q < i + j ∧ l[j].p = (q : Int) := by
  induction h with
  | nil => intro j hj; simp at hj
  | one h1 h2 hr ih =>
    intro j hj
    cases j with
    | zero => left; rfl
    | succ j =>
      rcases ih j (by simpa using hj) with h | ⟨q, k1, k2, k3⟩
      · left; simpa using h
      · right; exact ⟨q, by omega, by omega, by simpa using k3⟩
  | two h1 h2 h3 h4 h5 hr ih =>
    rename_i a b e i s l z t b' e'
    intro j hj
    cases j with
    | zero => left; rfl
    | succ j =>
      cases j with
      | zero => right; exact ⟨i, by omega, by omega, rfl⟩
      | succ j =>
        rcases ih j (by simpa using hj) with h | ⟨q, k1, k2, k3⟩
        · left; simpa using h
        · right; exact ⟨q, by omega, by omega, by simpa using k3⟩

theorem Okc.back {k : Nat} {c : Corp} (h : Okc k c) : Back c.nodes := by
  obtain ⟨_, _, z, _, hT⟩ := h.nodes
  intro i hi
  rcases hT.back i hi with h | ⟨q, k1, k2, k3⟩
  · exact .inl h
  · exact .inr ⟨q, by omega, k3⟩

theorem Okc.validate {k : Nat} {c : Corp} (h : Okc k c) (hk : k ≤ 3) : ∃ a b e : Int, callV prog 86 [.agg c.cells] = some (.tuple [I a, I b, I e], []) := by
  have n7 := h.n7
  have t := h.texts
  have r := h.regs
  have nd := h.nodes
  obtain ⟨rk, hh⟩ := h.heads
  exact validate_of attrs_ans (tokens_ans h.toks (by omega)) (texts_ans (fun x hx => ⟨name_names (t.2.2 x hx).1, (t.2.2 x hx).2⟩) (by omega) ⟨h.n1, by omega⟩)
    (regs_ans r.2 (by omega) (by omega)) (nodes_ans h.back nd.2.1 (by omega) (by omega)) (heads_ans hh.len h.rels (by omega) (by omega))

theorem Okc.valid {k : Nat} {c : Corp} (h : Okc k c) (hk : k ≤ 3) : ∃ b : Bool, callV prog 53 [.agg c.cells] = some (.bool b, []) := by
  obtain ⟨a, b, e, hv⟩ := h.validate hk
  refine ⟨decide (e = 0), callV_fn (body := ic53) rfl rfl ?_⟩
  simp [Corp.cells] at hv
  simp [ic53, Corp.cells, hv]

theorem same_run : callN prog 40 54 [.list attrs, .list attrs] = some (.bool true, []) := by kernel_rfl
theorem same_spec : callV prog 54 [.list attrs, .list attrs] = some (.bool true, []) := callV_iff.2 ⟨40, same_run⟩

theorem find_loop {c : Corp} {s : ByteArray} (hn : c.texts.length ≤ 100) : ∀ (d j : Nat), j + d = c.texts.length →
    (∃ b : Int, evV prog ic55_0 ⟨tm [(1, .str s), (8, .list (c.texts.map Tx.enc)), (9, I c.texts.length), (10, I j)], hp []⟩ = some (.ret, ⟨tm [(4, I b)], hp []⟩)) ∨
    evV prog ic55_0 ⟨tm [(1, .str s), (8, .list (c.texts.map Tx.enc)), (9, I c.texts.length), (10, I j)], hp []⟩ = some (.exit 0, ⟨tm [], hp []⟩) := by
  intro d
  induction d with
  | zero =>
    intro j hj
    right
    have : ¬ j < c.texts.length := by omega
    rw [ic55_0_eq]
    simp [ic55_0_b, this]
  | succ d ih =>
    intro j hj
    have hlt : j < c.texts.length := by omega
    have hw : IntKind.i64.wrap ((j : Int) + 1) = j + 1 := wrap64 (by omega) (by omega)
    have hi := ih (j + 1) (by omega)
    generalize hy : c.texts[j] = y at *
    cases A : y.name.toList == s.toList
    · rcases hi with ⟨b, hi⟩ | hi
      · left
        refine ⟨b, ?_⟩
        rw [ic55_0_eq]
        simp [ic55_0_b, hlt, hw, hy, Tx.enc, A]
        simpa [Tx.enc] using hi
      · right
        rw [ic55_0_eq]
        simp [ic55_0_b, hlt, hw, hy, Tx.enc, A]
        simpa [Tx.enc] using hi
    · left
      refine ⟨j, ?_⟩
      rw [ic55_0_eq]
      simp [ic55_0_b, hlt, hw, hy, Tx.enc, A]

theorem find_ex (c : Corp) (s : ByteArray) (hn : c.texts.length ≤ 100) : ∃ r : Int, callV prog 55 [.agg c.cells, .str s] = some (I r, []) := by
  rcases find_loop (c := c) (s := s) hn c.texts.length 0 (by omega) with ⟨b, h⟩ | h
  · refine ⟨b, callV_fn (body := ic55) rfl rfl ?_⟩
    simp [Corp.cells] at h
    simp [ic55, Corp.cells, h]
  · refine ⟨-1, callV_fn (body := ic55) rfl rfl ?_⟩
    simp [Corp.cells] at h
    simp [ic55, Corp.cells, h]

def allH (c : Corp) : List Int := if c.heads.length = 0 then List.replicate c.toks.length (-1) else c.heads
def allR (c : Corp) : List ByteArray := if c.heads.length = 0 then List.replicate c.toks.length ⟨#[]⟩ else c.rels

theorem set_rep {l : List Int} {j d : Nat} (h : j + (d + 1) = l.length) (hp : ∀ i : Nat, i < j → l[i]? = some (-1)) : ∀ i : Nat, i < j + 1 → (l.set j (-1))[i]? = some (-1) := by
  intro i hi
  rw [List.getElem?_set]
  by_cases e : j = i
  · subst e; simp; omega
  · rw [if_neg e]; exact hp i (by omega)

theorem allh_loop {c : Corp} (hn : c.toks.length ≤ 100) : ∀ (d j : Nat) (l : List Int), l.length = c.toks.length → j + d = c.toks.length → (∀ i : Nat, i < j → l[i]? = some (-1)) →
    evV prog ic56_0 ⟨tm [(1, .ptr 103 0), (4, .arr 100 c.toks.length 0 c.toks.length), (19, I c.toks.length), (20, I j)], hp [(100, some (.arr 1 (l.map I) false)), (103, some (.box c.cells))]⟩
      = some (.exit 0, ⟨tm [(1, .ptr 103 0), (4, .arr 100 c.toks.length 0 c.toks.length)], hp [(100, some (.arr 1 ((List.replicate c.toks.length (-1)).map I) false)), (103, some (.box c.cells))]⟩) := by
  intro d
  induction d with
  | zero =>
    intro j l hl hj hp
    have : ¬ j < c.toks.length := by omega
    have e : l = List.replicate c.toks.length (-1) := by
      apply List.ext_getElem?
      intro i
      by_cases h : i < c.toks.length
      · rw [hp i (by omega)]; simp [h]
      · rw [List.getElem?_eq_none (by omega)]; simp; omega
    subst e
    rw [ic56_0_eq]
    simp [ic56_0_b, this, Corp.cells]
  | succ d ih =>
    intro j l hl hj hp
    have hlt : j < c.toks.length := by omega
    have hlt' : j < l.length := by omega
    have hw : IntKind.i64.wrap ((j : Int) + 1) = j + 1 := wrap64 (by omega) (by omega)
    have hi := ih (j + 1) (l.set j (-1)) (by simp [hl]) (by omega) (set_rep (d := d) (by omega) hp)
    rw [ic56_0_eq]
    simp [Corp.cells] at hi
    simp [ic56_0_b, hlt, hlt', hl, hw, Corp.cells]
    simpa [List.map_set] using hi

theorem allh_spec {c : Corp} (hn : c.toks.length ≤ 100) : callV prog 56 [.agg c.cells] = some (.tuple [.list ((allH c).map I), .list ((allR c).map .str)], []) := by
  refine callV_fn (body := ic56) rfl rfl ?_
  by_cases h0 : c.heads.length = 0
  · have e0 : c.heads = [] := List.length_eq_zero_iff.1 h0
    have m1 : c.toks.length * 8 ≤ room := by unfold room; omega
    have m2 : c.toks.length ≤ room := by unfold room; omega
    have m3 : (c.toks.length : Int) ≤ (room : Int) := by unfold room; omega
    have m4 : c.toks.length * 16 ≤ room := by unfold room; omega
    have h := allh_loop hn c.toks.length 0 (List.replicate c.toks.length 0) (by simp) (by omega) (fun i hi => by omega)
    simp [Corp.cells, e0] at h
    simp [ic56, Corp.cells, allH, allR, e0, m1, m2, m3, m4, h]
  · have hp : 0 < c.heads.length := by omega
    have hne : ¬ c.heads = [] := fun e => h0 (by simp [e])
    simp [ic56, Corp.cells, allH, allR, h0, hp, hne]

end Go.Ab.Prog
