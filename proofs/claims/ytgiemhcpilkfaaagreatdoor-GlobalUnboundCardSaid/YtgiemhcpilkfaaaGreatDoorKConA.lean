/- A good corpus: Valid, FindText and allHeads answer. And what follows from it, part by part. -/
import Derived.Test.YtgiemhcpilkfaaaGreatDoorKValI
import Derived.KernelRfl

/- Part ConA. -/
namespace Go.Ab.Prog
open Go Go.Ab
set_option linter.unusedSimpArgs false
set_option linter.unusedVariables false
set_option maxHeartbeats 8000000

theorem nodes_ans {c : Corp} (hb : Back c.nodes) (hL : ∀ x ∈ c.nodes, x.label ∈ labels) (hn : c.nodes.length ≤ 100) (ht : c.texts.length ≤ 100) : Ans 117 [.list (c.nodes.map Nd.enc), .agg c.cells] := by
  have h1 : ¬ (2048 : Int) < c.nodes.length := by omega
  have m1 : c.nodes.length * 8 ≤ room := by unfold room; omega
  have m2 : c.nodes.length ≤ room := by unfold room; omega
  have m3 : (c.nodes.length : Int) ≤ (room : Int) := by unfold room; omega
  rcases nd_loop hb hL hn ht c.nodes.length 0 (List.replicate c.nodes.length 0) (by omega) (by simp) with ⟨b, e, h⟩ | h
  · refine ⟨b, e, callV_fn (body := ic117) rfl rfl ?_⟩
    simp [Corp.cells] at h
    simp [ic117, Corp.cells, h1, m1, m2, m3, h]
  · refine ⟨0, 0, callV_fn (body := ic117) rfl rfl ?_⟩
    simp [Corp.cells] at h
    simp [ic117, Corp.cells, h1, m1, m2, m3, h]

/-- A good corpus of k documents. -/
structure Okc (k : Nat) (c : Corp) : Prop where
  n1 : 1 ≤ c.toks.length
  n7 : c.toks.length ≤ 7 * k
  toks : ∀ t ∈ c.toks, TokOk t
  texts : 1 ≤ c.texts.length ∧ c.texts.length ≤ k ∧ ∀ x ∈ c.texts, x.name ∈ names ∧ InfosOk x
  regs : c.regs.length ≤ 4 * k ∧ RegsOk c
  nodes : c.nodes.length ≤ 6 * k ∧ (∀ x ∈ c.nodes, x.label ∈ labels) ∧ ∃ z, z ≤ (c.toks.length : Int) ∧ Tops 0 0 c.nodes z
  rels : ∀ r ∈ c.rels, r ∈ relNames
  heads : ∃ rk, HeadsOk c rk

theorem Tops.back {a : Int} {i : Nat} {l : List Nd} {z : Int} (h : Tops a i l z) : ∀ (j : Nat) (hj : j < l.length), l[j].p = -1 ∨ ∃ q : Nat, i ≤ q ∧ q < i + j ∧ l[j].p = (q : Int) := by
  induction h with
  | nil => intro j hj; simp at hj
  | one h1 h2 hr ih =>
    intro j hj
    cases j with
    | zero => left; rfl
    | succ j =>
      rcases ih j (by simpa using hj) with h | ⟨q, k1, k2, k3⟩
      · left; simpa using h
      · right; exact ⟨q, by omega, by omega, by simpa using k3⟩
  | two h1 h2 h3 h4 h5 hr ih =>
    rename_i a b e i s l z t b' e'
    intro j hj
    cases j with
    | zero => left; rfl
    | succ j =>
      cases j with
      | zero => right; exact ⟨i, by omega, by omega, rfl⟩
      | succ j =>
        rcases ih j (by simpa using hj) with h | ⟨q, k1, k2, k3⟩
        · left; simpa using h
        · right; exact ⟨q, by omega, by omega, by simpa using k3⟩

theorem Okc.back {k : Nat} {c : Corp} (h : Okc k c) : Back c.nodes := by
  obtain ⟨_, _, z, _, hT⟩ := h.nodes
  intro i hi
  rcases hT.back i hi with h | ⟨q, k1, k2, k3⟩
  · exact .inl h
  · exact .inr ⟨q, by omega, k3⟩

theorem Okc.validate {k : Nat} {c : Corp} (h : Okc k c) (hk : k ≤ 3) : ∃ a b e : Int, callV prog 86 [.agg c.cells] = some (.tuple [I a, I b, I e], []) := by
  have n7 := h.n7
  have t := h.texts
  have r := h.regs
  have nd := h.nodes
  obtain ⟨rk, hh⟩ := h.heads
  exact validate_of attrs_ans (tokens_ans h.toks (by omega)) (texts_ans (fun x hx => ⟨name_names (t.2.2 x hx).1, (t.2.2 x hx).2⟩) (by omega) ⟨h.n1, by omega⟩)
    (regs_ans r.2 (by omega) (by omega)) (nodes_ans h.back nd.2.1 (by omega) (by omega)) (heads_ans hh.len h.rels (by omega) (by omega))

theorem Okc.valid {k : Nat} {c : Corp} (h : Okc k c) (hk : k ≤ 3) : ∃ b : Bool, callV prog 53 [.agg c.cells] = some (.bool b, []) := by
  obtain ⟨a, b, e, hv⟩ := h.validate hk
  refine ⟨decide (e = 0), callV_fn (body := ic53) rfl rfl ?_⟩
  simp [Corp.cells] at hv
  simp [ic53, Corp.cells, hv]

theorem same_run : callN prog 40 54 [.list attrs, .list attrs] = some (.bool true, []) := by kernel_rfl
theorem same_spec : callV prog 54 [.list attrs, .list attrs] = some (.bool true, []) := callV_iff.2 ⟨40, same_run⟩

theorem find_loop {c : Corp} {s : ByteArray} (hn : c.texts.length ≤ 100) : ∀ (d j : Nat), j + d = c.texts.length →
    (∃ b : Int, evV prog ic55_0 ⟨tm [(1, .str s), (8, .list (c.texts.map Tx.enc)), (9, I c.texts.length), (10, I j)], hp []⟩ = some (.ret, ⟨tm [(4, I b)], hp []⟩)) ∨
    evV prog ic55_0 ⟨tm [(1, .str s), (8, .list (c.texts.map Tx.enc)), (9, I c.texts.length), (10, I j)], hp []⟩ = some (.exit 0, ⟨tm [], hp []⟩) := by
  intro d
  induction d with
  | zero =>
    intro j hj
    right
    have : ¬ j < c.texts.length := by omega
    rw [ic55_0_eq]
    simp [ic55_0_b, this]
  | succ d ih =>
    intro j hj
    have hlt : j < c.texts.length := by omega
    have hw : IntKind.i64.wrap ((j : Int) + 1) = j + 1 := wrap64 (by omega) (by omega)
    have hi := ih (j + 1) (by omega)
    generalize hy : c.texts[j] = y at *
    cases A : y.name.toList == s.toList
    · rcases hi with ⟨b, hi⟩ | hi
      · left
        refine ⟨b, ?_⟩
        rw [ic55_0_eq]
        simp [ic55_0_b, hlt, hw, hy, Tx.enc, A]
        simpa [Tx.enc] using hi
      · right
        rw [ic55_0_eq]
        simp [ic55_0_b, hlt, hw, hy, Tx.enc, A]
        simpa [Tx.enc] using hi
    · left
      refine ⟨j, ?_⟩
      rw [ic55_0_eq]
      simp [ic55_0_b, hlt, hw, hy, Tx.enc, A]

theorem find_ex (c : Corp) (s : ByteArray) (hn : c.texts.length ≤ 100) : ∃ r : Int, callV prog 55 [.agg c.cells, .str s] = some (I r, []) := by
  rcases find_loop (c := c) (s := s) hn c.texts.length 0 (by omega) with ⟨b, h⟩ | h
  · refine ⟨b, callV_fn (body := ic55) rfl rfl ?_⟩
    simp [Corp.cells] at h
    simp [ic55, Corp.cells, h]
  · refine ⟨-1, callV_fn (body := ic55) rfl rfl ?_⟩
    simp [Corp.cells] at h
    simp [ic55, Corp.cells, h]

def allH (c : Corp) : List Int := if c.heads.length = 0 then List.replicate c.toks.length (-1) else c.heads
def allR (c : Corp) : List ByteArray := if c.heads.length = 0 then List.replicate c.toks.length ⟨#[]⟩ else c.rels

theorem set_rep {l : List Int} {j d : Nat} (h : j + (d + 1) = l.length) (hp : ∀ i : Nat, i < j → l[i]? = some (-1)) : ∀ i : Nat, i < j + 1 → (l.set j (-1))[i]? = some (-1) := by
  intro i hi
  rw [List.getElem?_set]
  by_cases e : j = i
  · subst e; simp; omega
  · rw [if_neg e]; exact hp i (by omega)

theorem allh_loop {c : Corp} (hn : c.toks.length ≤ 100) : ∀ (d j : Nat) (l : List Int), l.length = c.toks.length → j + d = c.toks.length → (∀ i : Nat, i < j → l[i]? = some (-1)) →
    evV prog ic56_0 ⟨tm [(1, .ptr 103 0), (4, .arr 100 c.toks.length 0 c.toks.length), (19, I c.toks.length), (20, I j)], hp [(100, some (.arr 1 (l.map I) false)), (103, some (.box c.cells))]⟩
      = some (.exit 0, ⟨tm [(1, .ptr 103 0), (4, .arr 100 c.toks.length 0 c.toks.length)], hp [(100, some (.arr 1 ((List.replicate c.toks.length (-1)).map I) false)), (103, some (.box c.cells))]⟩) := by
  intro d
  induction d with
  | zero =>
    intro j l hl hj hp
    have : ¬ j < c.toks.length := by omega
    have e : l = List.replicate c.toks.length (-1) := by
      apply List.ext_getElem?
      intro i
      by_cases h : i < c.toks.length
      · rw [hp i (by omega)]; simp [h]
      · rw [List.getElem?_eq_none (by omega)]; simp; omega
    subst e
    rw [ic56_0_eq]
    simp [ic56_0_b, this, Corp.cells]
  | succ d ih =>
    intro j l hl hj hp
    have hlt : j < c.toks.length := by omega
    have hlt' : j < l.length := by omega
    have hw : IntKind.i64.wrap ((j : Int) + 1) = j + 1 := wrap64 (by omega) (by omega)
    have hi := ih (j + 1) (l.set j (-1)) (by simp [hl]) (by omega) (set_rep (d := d) (by omega) hp)
    rw [ic56_0_eq]
    simp [Corp.cells] at hi
    simp [ic56_0_b, hlt, hlt', hl, hw, Corp.cells]
    simpa [List.map_set] using hi

theorem allh_spec {c : Corp} (hn : c.toks.length ≤ 100) : callV prog 56 [.agg c.cells] = some (.tuple [.list ((allH c).map I), .list ((allR c).map .str)], []) := by
  refine callV_fn (body := ic56) rfl rfl ?_
  by_cases h0 : c.heads.length = 0
  · have e0 : c.heads = [] := List.length_eq_zero_iff.1 h0
    have m1 : c.toks.length * 8 ≤ room := by unfold room; omega
    have m2 : c.toks.length ≤ room := by unfold room; omega
    have m3 : (c.toks.length : Int) ≤ (room : Int) := by unfold room; omega
    have m4 : c.toks.length * 16 ≤ room := by unfold room; omega
    have h := allh_loop hn c.toks.length 0 (List.replicate c.toks.length 0) (by simp) (by omega) (fun i hi => by omega)
    simp [Corp.cells, e0] at h
    simp [ic56, Corp.cells, allH, allR, e0, m1, m2, m3, m4, h]
  · have hp : 0 < c.heads.length := by omega
    have hne : ¬ c.heads = [] := fun e => h0 (by simp [e])
    simp [ic56, Corp.cells, allH, allR, h0, hp, hne]

end Go.Ab.Prog

/- Part ConB. -/
namespace Go.Ab.Prog
open Go Go.Ab
set_option linter.unusedSimpArgs false
set_option linter.unusedVariables false
set_option maxHeartbeats 8000000

def w64 (n : Int) : Int := IntKind.i64.wrap n
def shTx (n : Int) (x : Tx) : Tx := ⟨x.name, w64 (x.b + n), w64 (x.e + n), x.info⟩
def shRg (n : Int) (x : Rg) : Rg := ⟨x.typ, w64 (x.b + n), w64 (x.e + n), x.keys⟩
def shNd (n m : Int) (x : Nd) : Nd := ⟨x.label, w64 (x.b + n), w64 (x.e + n), if 0 ≤ x.p then w64 (x.p + m) else x.p⟩
def nil7 : List PV := [.nil, .nil, .nil, .nil, .nil, .nil, .nil]

theorem tk {α : Type} {L : List α} {i : Nat} {x x' : α} {B : List α} (h : i + (B.length + 1) = L.length) (hB : ∀ j, j < B.length + 1 → L[i + j]? = (x :: B)[j]?) :
    L[i]? = some x ∧ (∀ j, j < B.length → (L.set i x')[i + 1 + j]? = B[j]?) ∧ ∀ M, (L.set i x').take (i + 1) ++ M = L.take i ++ x' :: M := by
  refine ⟨by simpa using hB 0 (by omega), fun j hj => ?_, fun M => ?_⟩
  · rw [List.getElem?_set_ne (by omega)]
    have := hB (j + 1) (by omega)
    simpa [Nat.add_assoc, Nat.add_comm 1 j] using this
  · rw [List.take_set, List.take_succ_eq_append_getElem (by omega), List.set_append_right _ _ (by simp; omega)]
    simp
    rw [Nat.min_eq_left (by omega)]
    simp

@[simp] theorem Tx.cells (x : Tx) : x.enc.cells = [.str x.name, I x.b, I x.e, .list (x.info.map prEnc)] := rfl

theorem con_texts {a b : Corp} {n m : Int} {TS : List PV} : ∀ (B : List Tx) (i : Nat) (L : List Tx), L.length ≤ 1000 → i + B.length = L.length → (∀ j, j < B.length → L[i + j]? = B[j]?) →
    evV prog ic27_1 ⟨tm [(2, .ptr 111 0), (3, .ptr 112 0), (4, .ptr 113 0), (8, I n), (9, I m), (10, .ptr 115 0), (11, I i)], hp [(104, some (.arr 2 attrs false)), (105, some (.arr 1 TS false)), (106, some (.arr 4 (L.map Tx.enc) false)), (107, none), (108, none), (109, none), (110, none), (111, some (.box a.cells)), (112, some (.box b.cells)), (113, some (.box nil7)), (115, some (.box [.arr 104 3 0 3, .arr 105 TS.length 0 TS.length, .arr 106 L.length 0 L.length, .nil, .nil, .nil, .nil]))]⟩
      = some (.exit 2, ⟨tm [(2, .ptr 111 0), (3, .ptr 112 0), (4, .ptr 113 0), (8, I n), (9, I m), (10, .ptr 115 0)], hp [(104, some (.arr 2 attrs false)), (105, some (.arr 1 TS false)), (106, some (.arr 4 ((L.take i ++ B.map (shTx n)).map Tx.enc) false)), (107, none), (108, none), (109, none), (110, none), (111, some (.box a.cells)), (112, some (.box b.cells)), (113, some (.box nil7)), (115, some (.box [.arr 104 3 0 3, .arr 105 TS.length 0 TS.length, .arr 106 (L.take i ++ B.map (shTx n)).length 0 (L.take i ++ B.map (shTx n)).length, .nil, .nil, .nil, .nil]))]⟩) := by
  intro B
  induction B with
  | nil =>
    intro i L hL hi _
    have h1 : ¬ i < L.length := by simp at hi; omega
    have h2 : L.take i = L := List.take_of_length_le (by simp at hi; omega)
    rw [ic27_1_eq]
    simp [ic27_1_b, h1, h2, Corp.cells, nil7]
  | cons x B ih =>
    intro i L hL hi hB
    have hlt : i < L.length := by simp at hi; omega
    have hw : IntKind.i64.wrap ((i : Int) + 1) = i + 1 := wrap64 (by omega) (by omega)
    obtain ⟨k1, k2, k3⟩ := tk (x' := shTx n x) hi hB
    have hx : L[i] = x := by rw [List.getElem?_eq_getElem hlt] at k1; exact Option.some.inj k1
    have hn := ih (i + 1) (L.set i (shTx n x)) (by simpa using hL) (by simp at hi ⊢; omega) k2
    rw [k3] at hn
    rw [ic27_1_eq]
    simp [Corp.cells, nil7] at hn
    simp [ic27_1_b, hlt, hw, hx, Corp.cells, nil7, Tx.enc, shTx, w64, rowSet]
    simpa [List.map_set, Tx.enc, shTx, w64] using hn

theorem con_regs {a b : Corp} {n m : Int} {TS : List PV} {XS : List PV} : ∀ (B : List Rg) (i : Nat) (L : List Rg), L.length ≤ 1000 → i + B.length = L.length → (∀ j, j < B.length → L[i + j]? = B[j]?) →
    evV prog ic27_2 ⟨tm [(2, .ptr 111 0), (3, .ptr 112 0), (4, .ptr 113 0), (8, I n), (9, I m), (10, .ptr 115 0), (12, I i)], hp [(104, some (.arr 2 attrs false)), (105, some (.arr 1 TS false)), (106, some (.arr 4 XS false)), (107, some (.arr 4 (L.map Rg.enc) false)), (108, none), (109, none), (110, none), (111, some (.box a.cells)), (112, some (.box b.cells)), (113, some (.box nil7)), (115, some (.box [.arr 104 3 0 3, .arr 105 TS.length 0 TS.length, .arr 106 XS.length 0 XS.length, .arr 107 L.length 0 L.length, .nil, .nil, .nil]))]⟩
      = some (.exit 4, ⟨tm [(2, .ptr 111 0), (3, .ptr 112 0), (4, .ptr 113 0), (8, I n), (9, I m), (10, .ptr 115 0)], hp [(104, some (.arr 2 attrs false)), (105, some (.arr 1 TS false)), (106, some (.arr 4 XS false)), (107, some (.arr 4 ((L.take i ++ B.map (shRg n)).map Rg.enc) false)), (108, none), (109, none), (110, none), (111, some (.box a.cells)), (112, some (.box b.cells)), (113, some (.box nil7)), (115, some (.box [.arr 104 3 0 3, .arr 105 TS.length 0 TS.length, .arr 106 XS.length 0 XS.length, .arr 107 (L.take i ++ B.map (shRg n)).length 0 (L.take i ++ B.map (shRg n)).length, .nil, .nil, .nil]))]⟩) := by
  intro B
  induction B with
  | nil =>
    intro i L hL hi _
    have h1 : ¬ i < L.length := by simp at hi; omega
    have h2 : L.take i = L := List.take_of_length_le (by simp at hi; omega)
    rw [ic27_2_eq]
    simp [ic27_2_b, h1, h2, Corp.cells, nil7]
  | cons x B ih =>
    intro i L hL hi hB
    have hlt : i < L.length := by simp at hi; omega
    have hw : IntKind.i64.wrap ((i : Int) + 1) = i + 1 := wrap64 (by omega) (by omega)
    obtain ⟨k1, k2, k3⟩ := tk (x' := shRg n x) hi hB
    have hx : L[i] = x := by rw [List.getElem?_eq_getElem hlt] at k1; exact Option.some.inj k1
    have hn := ih (i + 1) (L.set i (shRg n x)) (by simpa using hL) (by simp at hi ⊢; omega) k2
    rw [k3] at hn
    rw [ic27_2_eq]
    simp [Corp.cells, nil7] at hn
    simp [ic27_2_b, hlt, hw, hx, Corp.cells, nil7, Rg.enc, shRg, w64, rowSet]
    simpa [List.map_set, Rg.enc, shRg, w64] using hn

theorem con_nodes {a b : Corp} {n m : Int} {TS : List PV} {XS RS : List PV} : ∀ (B : List Nd) (i : Nat) (L : List Nd), L.length ≤ 1000 → i + B.length = L.length → (∀ j, j < B.length → L[i + j]? = B[j]?) →
    evV prog ic27_3 ⟨tm [(2, .ptr 111 0), (3, .ptr 112 0), (4, .ptr 113 0), (8, I n), (9, I m), (10, .ptr 115 0), (13, I i)], hp [(104, some (.arr 2 attrs false)), (105, some (.arr 1 TS false)), (106, some (.arr 4 XS false)), (107, some (.arr 4 RS false)), (108, some (.arr 4 (L.map Nd.enc) false)), (109, none), (110, none), (111, some (.box a.cells)), (112, some (.box b.cells)), (113, some (.box nil7)), (115, some (.box [.arr 104 3 0 3, .arr 105 TS.length 0 TS.length, .arr 106 XS.length 0 XS.length, .arr 107 RS.length 0 RS.length, .arr 108 L.length 0 L.length, .nil, .nil]))]⟩
      = some (.exit 6, ⟨tm [(2, .ptr 111 0), (3, .ptr 112 0), (4, .ptr 113 0), (8, I n), (10, .ptr 115 0)], hp [(104, some (.arr 2 attrs false)), (105, some (.arr 1 TS false)), (106, some (.arr 4 XS false)), (107, some (.arr 4 RS false)), (108, some (.arr 4 ((L.take i ++ B.map (shNd n m)).map Nd.enc) false)), (109, none), (110, none), (111, some (.box a.cells)), (112, some (.box b.cells)), (113, some (.box nil7)), (115, some (.box [.arr 104 3 0 3, .arr 105 TS.length 0 TS.length, .arr 106 XS.length 0 XS.length, .arr 107 RS.length 0 RS.length, .arr 108 (L.take i ++ B.map (shNd n m)).length 0 (L.take i ++ B.map (shNd n m)).length, .nil, .nil]))]⟩) := by
  intro B
  induction B with
  | nil =>
    intro i L hL hi _
    have h1 : ¬ i < L.length := by simp at hi; omega
    have h2 : L.take i = L := List.take_of_length_le (by simp at hi; omega)
    rw [ic27_3_eq]
    simp [ic27_3_b, h1, h2, Corp.cells, nil7]
  | cons x B ih =>
    intro i L hL hi hB
    have hlt : i < L.length := by simp at hi; omega
    have hw : IntKind.i64.wrap ((i : Int) + 1) = i + 1 := wrap64 (by omega) (by omega)
    obtain ⟨k1, k2, k3⟩ := tk (x' := shNd n m x) hi hB
    have hx : L[i] = x := by rw [List.getElem?_eq_getElem hlt] at k1; exact Option.some.inj k1
    have hn := ih (i + 1) (L.set i (shNd n m x)) (by simpa using hL) (by simp at hi ⊢; omega) k2
    rw [k3] at hn
    by_cases hp : 0 ≤ x.p
    · rw [ic27_3_eq]
      simp [Corp.cells, nil7] at hn
      simp [ic27_3_b, hlt, hw, hx, Corp.cells, nil7, Nd.enc, shNd, w64, rowSet, hp]
      simpa [List.map_set, Nd.enc, shNd, w64, hp] using hn
    · rw [ic27_3_eq]
      simp [Corp.cells, nil7] at hn
      simp [ic27_3_b, hlt, hw, hx, Corp.cells, nil7, Nd.enc, shNd, w64, rowSet, hp]
      simpa [List.map_set, Nd.enc, shNd, w64, hp] using hn

end Go.Ab.Prog

/- Part ConC. -/
namespace Go.Ab.Prog
open Go Go.Ab
set_option linter.unusedSimpArgs false
set_option linter.unusedVariables false
set_option maxHeartbeats 8000000

theorem con_names {a b : Corp} (ha : a.texts.length ≤ 100) (hb : b.texts.length ≤ 100) : ∀ (d j : Nat), j + d = b.texts.length →
    evV prog ic27_0 ⟨tm [(2, .ptr 111 0), (3, .ptr 112 0), (4, .ptr 113 0), (37, .list (b.texts.map Tx.enc)), (38, I b.texts.length), (39, I j)], hp [(104, none), (105, none), (106, none), (107, none), (108, none), (109, none), (110, none), (111, some (.box a.cells)), (112, some (.box b.cells)), (113, some (.box nil7))]⟩
      = some (.ret, ⟨tm [(4, .ptr 113 0), (5, I 5)], hp [(104, none), (105, none), (106, none), (107, none), (108, none), (109, none), (110, none), (113, some (.box nil7))]⟩) ∨
    evV prog ic27_0 ⟨tm [(2, .ptr 111 0), (3, .ptr 112 0), (4, .ptr 113 0), (37, .list (b.texts.map Tx.enc)), (38, I b.texts.length), (39, I j)], hp [(104, none), (105, none), (106, none), (107, none), (108, none), (109, none), (110, none), (111, some (.box a.cells)), (112, some (.box b.cells)), (113, some (.box nil7))]⟩
      = some (.exit 0, ⟨tm [(2, .ptr 111 0), (3, .ptr 112 0), (4, .ptr 113 0)], hp [(104, none), (105, none), (106, none), (107, none), (108, none), (109, none), (110, none), (111, some (.box a.cells)), (112, some (.box b.cells)), (113, some (.box nil7))]⟩) := by
  intro d
  induction d with
  | zero =>
    intro j hj
    right
    have : ¬ j < b.texts.length := by omega
    rw [ic27_0_eq]
    simp [ic27_0_b, this, Corp.cells, nil7]
  | succ d ih =>
    intro j hj
    have hlt : j < b.texts.length := by omega
    have hw : IntKind.i64.wrap ((j : Int) + 1) = j + 1 := wrap64 (by omega) (by omega)
    have hi := ih (j + 1) (by omega)
    generalize hy : b.texts[j] = y at *
    obtain ⟨r, hr⟩ := find_ex a y.name ha
    simp [Corp.cells, nil7] at hi hr
    by_cases h0 : 0 ≤ r
    · left
      rw [ic27_0_eq]
      simp [ic27_0_b, hlt, hw, hy, Tx.enc, Corp.cells, nil7, hr, h0]
    · rcases hi with hi | hi
      · left
        rw [ic27_0_eq]
        simp [ic27_0_b, hlt, hw, hy, Tx.enc, Corp.cells, nil7, hr, h0]
        simpa [Tx.enc] using hi
      · right
        rw [ic27_0_eq]
        simp [ic27_0_b, hlt, hw, hy, Tx.enc, Corp.cells, nil7, hr, h0]
        simpa [Tx.enc] using hi

def shH (n : Int) (h : Int) : Int := if 0 ≤ h then w64 (h + n) else h

theorem con_heads {n : Int} {TS XS RS NS LS : List PV} {K : List Int} (hK : K.length ≤ 1000) : ∀ (d j : Nat) (H : List Int), j + d = K.length → H.length ≤ 1000 + j →
    evV prog ic27_4 ⟨tm [(4, .ptr 113 0), (8, I n), (10, .ptr 115 0), (254, .list (K.map I)), (255, I K.length), (256, I j)], hp [(104, some (.arr 2 attrs false)), (105, some (.arr 1 TS false)), (106, some (.arr 4 XS false)), (107, some (.arr 4 RS false)), (108, some (.arr 4 NS false)), (109, some (.arr 1 (H.map I) false)), (110, some (.arr 1 LS false)), (113, some (.box nil7)), (115, some (.box [.arr 104 3 0 3, .arr 105 TS.length 0 TS.length, .arr 106 XS.length 0 XS.length, .arr 107 RS.length 0 RS.length, .arr 108 NS.length 0 NS.length, .arr 109 H.length 0 H.length, .arr 110 LS.length 0 LS.length]))]⟩
      = some (.exit 8, ⟨tm [(4, .ptr 113 0), (10, .ptr 115 0)], hp [(104, some (.arr 2 attrs false)), (105, some (.arr 1 TS false)), (106, some (.arr 4 XS false)), (107, some (.arr 4 RS false)), (108, some (.arr 4 NS false)), (109, some (.arr 1 ((H ++ (K.drop j).map (shH n)).map I) false)), (110, some (.arr 1 LS false)), (113, some (.box nil7)), (115, some (.box [.arr 104 3 0 3, .arr 105 TS.length 0 TS.length, .arr 106 XS.length 0 XS.length, .arr 107 RS.length 0 RS.length, .arr 108 NS.length 0 NS.length, .arr 109 (H ++ (K.drop j).map (shH n)).length 0 (H ++ (K.drop j).map (shH n)).length, .arr 110 LS.length 0 LS.length]))]⟩) := by
  intro d
  induction d with
  | zero =>
    intro j H hj hH
    have h1 : ¬ j < K.length := by omega
    have h2 : K.drop j = [] := List.drop_eq_nil_of_le (by omega)
    rw [ic27_4_eq]
    simp [ic27_4_b, h1, h2, nil7]
  | succ d ih =>
    intro j H hj hH
    have hlt : j < K.length := by omega
    have hw : IntKind.i64.wrap ((j : Int) + 1) = j + 1 := wrap64 (by omega) (by omega)
    have m1 : (H.length + 1) * 8 ≤ room := by unfold room; omega
    have m2 : H.length + 1 ≤ room := by unfold room; omega
    have hi := ih (j + 1) (H ++ [shH n K[j]]) (by omega) (by simp; omega)
    rw [List.drop_eq_getElem_cons hlt]
    generalize hy : K[j] = y at *
    simp [nil7] at hi
    by_cases h0 : 0 ≤ y
    · rw [ic27_4_eq]
      simp [ic27_4_b, hlt, hw, hy, nil7, h0, m1, m2, shH, w64]
      simpa [shH, w64, h0] using hi
    · rw [ic27_4_eq]
      simp [ic27_4_b, hlt, hw, hy, nil7, h0, m1, m2, shH, w64]
      simpa [shH, w64, h0] using hi

end Go.Ab.Prog

/- Part ConD. -/
namespace Go.Ab.Prog
open Go Go.Ab
set_option linter.unusedSimpArgs false
set_option linter.unusedVariables false
set_option maxHeartbeats 16000000

def cat (a b : Corp) : Corp :=
  ⟨a.toks ++ b.toks, a.texts ++ b.texts.map (shTx a.toks.length), a.regs ++ b.regs.map (shRg a.toks.length), a.nodes ++ b.nodes.map (shNd a.toks.length a.nodes.length),
   if a.heads.length + b.heads.length = 0 then [] else allH a ++ (allH b).map (shH a.toks.length),
   if a.heads.length + b.heads.length = 0 then [] else allR a ++ allR b⟩

theorem rooms {x y z : Nat} (h : x + y ≤ 100) (hz : z ≤ 56) : x * z ≤ room ∧ (x + y) * z ≤ room := by
  have h1 : x * z ≤ 100 * 56 := Nat.mul_le_mul (by omega) hz
  have h2 : (x + y) * z ≤ 100 * 56 := Nat.mul_le_mul (by omega) hz
  unfold room; omega
@[simp] theorem attrs_len : attrs.length = 3 := rfl
@[simp] theorem attrs_szs : szs 2 attrs = true := rfl
theorem roomn {x y : Nat} (h : x + y ≤ 100) : x ≤ room ∧ x + y ≤ room := by unfold room; omega
theorem wsum {x y : Nat} (h : x + y ≤ 100) : IntKind.i64.wrap ((x : Int) + y) = (x : Int) + y := wrap64 (by omega) (by omega)
theorem nat_lt {x y : Nat} {c : Int} (h : x + y ≤ 100) (hc : 100 ≤ c) : ¬ c < (x : Int) + y := by omega
theorem drops {α : Type} (f : α → α) (a b : List α) : ∀ j, j < b.length → (a ++ b)[a.length + j]? = b[j]? := by
  intro j _
  rw [List.getElem?_append_right (by omega)]
  simp

theorem allh_len {k : Nat} {c : Corp} (h : Okc k c) : (allH c).length = c.toks.length ∧ (allR c).length = c.toks.length ∧ c.heads.length ≤ c.toks.length ∧ c.rels.length ≤ c.toks.length := by
  obtain ⟨rk, hh⟩ := h.heads
  unfold allH allR
  rcases hh.len with ⟨h1, h2⟩ | ⟨h1, h2⟩
  · simp [h1, h2]
  · by_cases h0 : c.heads.length = 0
    · simp [h0]; omega
    · simp [h0]; omega

theorem concat_spec {a b : Corp} {k : Nat} (ha : Okc k a) (hb : Okc 1 b) (hk : k ≤ 2) :
    (∃ e : Int, e ≠ 0 ∧ callV prog 27 [.agg a.cells, .agg b.cells] = some (.tuple [.agg (List.replicate 7 (.list [])), I e], [])) ∨
    callV prog 27 [.agg a.cells, .agg b.cells] = some (.tuple [.agg (cat a b).cells, I 0], []) := by
  obtain ⟨va, hva⟩ := ha.valid (by omega)
  obtain ⟨vb, hvb⟩ := hb.valid (by omega)
  have hs := same_spec
  have a1 := ha.n7
  have b1 := hb.n7
  have a2 := ha.texts
  have b2 := hb.texts
  have a3 := ha.regs.1
  have b3 := hb.regs.1
  have a4 := ha.nodes.1
  have b4 := hb.nodes.1
  have ta : a.texts.length ≤ 100 := by omega
  have tb : b.texts.length ≤ 100 := by omega
  have hnm := con_names (a := a) (b := b) ta tb b.texts.length 0 (by omega)
  simp [Corp.cells, nil7] at hva hvb hnm
  cases va
  · left
    refine ⟨1, by decide, callV_fn (body := ic27) rfl rfl ?_⟩
    simp [ic27, List.replicate, Corp.cells, nil7, hva]
  cases vb
  · left
    refine ⟨1, by decide, callV_fn (body := ic27) rfl rfl ?_⟩
    simp [ic27, List.replicate, Corp.cells, nil7, hva, hvb]
  rcases hnm with hnm | hnm
  · left
    refine ⟨5, by decide, callV_fn (body := ic27) rfl rfl ?_⟩
    simp [ic27, List.replicate, Corp.cells, nil7, hva, hvb, hs, hnm]
  right
  have l1 : a.toks.length + b.toks.length ≤ 100 := by omega
  have l2 : a.texts.length + b.texts.length ≤ 100 := by omega
  have l3 : a.regs.length + b.regs.length ≤ 100 := by omega
  have l4 : a.nodes.length + b.nodes.length ≤ 100 := by omega
  obtain ⟨r1, r2⟩ := rooms (z := 24) l1 (by omega)
  obtain ⟨r3, r4⟩ := rooms (z := 56) l2 (by omega)
  obtain ⟨r5, r6⟩ := rooms (z := 56) l3 (by omega)
  obtain ⟨r7, r8⟩ := rooms (z := 40) l4 (by omega)
  obtain ⟨q1, q2⟩ := roomn l1
  obtain ⟨q3, q4⟩ := roomn l2
  obtain ⟨q5, q6⟩ := roomn l3
  obtain ⟨q7, q8⟩ := roomn l4
  have w1 := wsum l1
  have w2 := wsum l2
  have w3 := wsum l3
  have w4 := wsum l4
  have n1 := nat_lt (c := 4096) l1 (by decide)
  have n2 := nat_lt (c := 64) l2
  have n2 : ¬ (64 : Int) < (a.texts.length : Int) + b.texts.length := by omega
  have n3 := nat_lt (c := 1024) l3 (by decide)
  have n4 := nat_lt (c := 2048) l4 (by decide)
  have rr : 3 * 24 ≤ room := by unfold room; omega
  have rr2 : 3 ≤ room := by unfold room; omega
  have hT := con_texts (a := a) (b := b) (n := a.toks.length) (m := a.nodes.length) (TS := (a.toks ++ b.toks).map tokEnc) b.texts a.texts.length (a.texts ++ b.texts) (by simp; omega) (by simp) (drops id _ _)
  have hG := con_regs (a := a) (b := b) (n := a.toks.length) (m := a.nodes.length) (TS := (a.toks ++ b.toks).map tokEnc) (XS := (a.texts ++ b.texts.map (shTx a.toks.length)).map Tx.enc) b.regs a.regs.length (a.regs ++ b.regs) (by simp; omega) (by simp) (drops id _ _)
  have hN := con_nodes (a := a) (b := b) (n := a.toks.length) (m := a.nodes.length) (TS := (a.toks ++ b.toks).map tokEnc) (XS := (a.texts ++ b.texts.map (shTx a.toks.length)).map Tx.enc) (RS := (a.regs ++ b.regs.map (shRg a.toks.length)).map Rg.enc) b.nodes a.nodes.length (a.nodes ++ b.nodes) (by simp; omega) (by simp) (drops id _ _)
  simp [Corp.cells, nil7] at hT hG hN
  refine callV_fn (body := ic27) rfl rfl ?_
  by_cases h0 : a.heads.length + b.heads.length = 0
  · have e1 : a.heads = [] := List.length_eq_zero_iff.1 (by omega)
    have e2 : b.heads = [] := List.length_eq_zero_iff.1 (by omega)
    simp [e1, e2] at hT hG hN hva hvb hnm
    have w0 : IntKind.i64.wrap 0 = 0 := wrap64 (by omega) (by omega)
    simp [ic27, Corp.cells, nil7, attrs_len, e1, e2, w0, hva, hvb, hs, hnm, r1, r2, r3, r4, r5, r6, r7, r8, q1, q2, q3, q4, q5, q6, q7, q8, w1, w2, w3, w4, n1, n2, n3, n4, rr, rr2, hT, hG, hN, cat]
  · have ja := allh_spec (c := a) (by omega)
    have jb := allh_spec (c := b) (by omega)
    obtain ⟨ka, kb, kc, kd⟩ := allh_len ha
    obtain ⟨ka', kb', kc', kd'⟩ := allh_len hb
    have l5 : (allH a).length + 0 ≤ 100 := by omega
    have l6 : (allR a).length + (allR b).length ≤ 100 := by omega
    have l7 : a.heads.length + b.heads.length ≤ 100 := by omega
    obtain ⟨s1, s2⟩ := rooms (z := 8) l5 (by omega)
    obtain ⟨s3, s4⟩ := rooms (z := 16) l6 (by omega)
    obtain ⟨s5, s6⟩ := roomn l5
    obtain ⟨s7, s8⟩ := roomn l6
    have w5 := wsum l7
    have hp : (0 : Int) < (a.heads.length : Int) + b.heads.length := by omega
    have hH := con_heads (n := a.toks.length) (TS := (a.toks ++ b.toks).map tokEnc) (XS := (a.texts ++ b.texts.map (shTx a.toks.length)).map Tx.enc) (RS := (a.regs ++ b.regs.map (shRg a.toks.length)).map Rg.enc)
      (NS := (a.nodes ++ b.nodes.map (shNd a.toks.length a.nodes.length)).map Nd.enc) (LS := (allR a ++ allR b).map .str) (K := allH b) (by omega) (allH b).length 0 (allH a) (by omega) (by omega)
    have h0' : ¬ (a.heads = [] ∧ b.heads = []) := fun ⟨e1, e2⟩ => h0 (by simp [e1, e2])
    simp [Corp.cells, nil7] at ja jb hH
    simp [ic27, Corp.cells, nil7, attrs_len, hva, hvb, hs, hnm, r1, r2, r3, r4, r5, r6, r7, r8, q1, q2, q3, q4, q5, q6, q7, q8, w1, w2, w3, w4, n1, n2, n3, n4, rr, rr2, hT, hG, hN, cat, w5, hp, h0, h0', ja, jb, s1, s3, s4, s5, s7, s8, hH]

end Go.Ab.Prog

/- Part ConE. -/
namespace Go.Ab.Prog
open Go Go.Ab
set_option linter.unusedSimpArgs false
set_option linter.unusedVariables false
set_option maxHeartbeats 4000000

theorem Okc.mono {k k' : Nat} {c : Corp} (h : Okc k c) (hk : k ≤ k') : Okc k' c :=
  ⟨h.n1, Nat.le_trans h.n7 (by omega), h.toks, ⟨h.texts.1, Nat.le_trans h.texts.2.1 hk, h.texts.2.2⟩, ⟨Nat.le_trans h.regs.1 (by omega), h.regs.2⟩,
    ⟨Nat.le_trans h.nodes.1 (by omega), h.nodes.2⟩, h.rels, h.heads⟩

theorem Forest.rank {ord : List Nat} {hs : List Int} {n : Nat} (hp : ord.Perm (List.range n)) (hf : Forest ord hs n) :
    ∃ rk : Nat → Nat, ∀ i h, i < n → hs[i]? = some h → rk i < n ∧ (h = -1 ∨ ∃ j : Nat, h = (j : Int) ∧ j < n ∧ rk j < rk i) := by
  have hlen : ord.length = n := by simpa using hp.length_eq
  have hd : ord.Nodup := hp.nodup_iff.2 List.nodup_range
  have hex : ∀ i : Nat, ∃ p : Nat, i < n → ord[p]? = some i := by
    intro i
    by_cases hi : i < n
    · have : i ∈ ord := hp.mem_iff.2 (by simpa using hi)
      obtain ⟨p, hp1, hp2⟩ := List.getElem_of_mem this
      exact ⟨p, fun _ => by rw [List.getElem?_eq_getElem hp1, hp2]⟩
    · exact ⟨0, fun h => absurd h hi⟩
  refine ⟨fun i => (hex i).choose, fun i h hi hh => ?_⟩
  have h1 := (hex i).choose_spec hi
  obtain ⟨h2, _⟩ := List.getElem?_eq_some_iff.1 h1
  refine ⟨by show (hex i).choose < n; omega, ?_⟩
  rcases hf _ i (by omega) h1 with h3 | ⟨q, y, h3, h4, h5⟩
  · left; rw [hh] at h3; exact Option.some.inj h3
  · right
    rw [hh] at h5
    have hy : y < n := by
      have : y ∈ List.range n := hp.mem_iff.1 (List.mem_of_getElem? h4)
      simpa using this
    refine ⟨y, Option.some.inj h5, hy, ?_⟩
    have h6 := (hex y).choose_spec hy
    obtain ⟨h7, _⟩ := List.getElem?_eq_some_iff.1 h6
    have : (hex y).choose = q := (List.getElem?_inj h7 hd).1 (h6.trans h4.symm)
    show (hex y).choose < (hex i).choose
    omega

theorem DocOk.okc {name : ByteArray} {c : Corp} (hn : name ∈ names) (h : DocOk name c) : Okc 1 c := by
  obtain ⟨info, ht, hi⟩ := h.texts
  obtain ⟨z, hz, hT⟩ := h.nodes.2.2
  refine ⟨h.n1, by have := h.n7; omega, h.toks, ?_, ⟨h.regs.1, ?_⟩, ⟨h.nodes.1, h.nodes.2.1, z, hz, hT⟩, ?_, ?_⟩
  · rw [ht]
    refine ⟨by simp, by simp, fun x hx => ?_⟩
    rw [List.mem_singleton.1 hx]
    exact ⟨hn, hi⟩
  · intro r hr
    rcases h.regs.2 r hr with rfl | h
    · exact .inl ⟨rfl, rfl⟩
    · exact .inr h
  · rcases h.heads with ⟨_, h2⟩ | ⟨_, _, h3, _⟩
    · simp [h2]
    · exact h3
  · rcases h.heads with ⟨h1, h2⟩ | ⟨h1, h2, h3, ord, hp, hf⟩
    · exact ⟨fun _ => 0, .inl ⟨h1, h2⟩, by simp [h1]⟩
    · obtain ⟨rk, hr⟩ := hf.rank hp
      refine ⟨rk, .inr ⟨h1, h2⟩, fun i v hv => hr i v ?_ hv⟩
      obtain ⟨h4, _⟩ := List.getElem?_eq_some_iff.1 hv
      omega

theorem w64_id {x : Int} (h1 : 0 ≤ x) (h2 : x ≤ 1000) : w64 x = x := wrap64 (by omega) (by omega)

theorem Tops.le {a : Int} {i : Nat} {l : List Nd} {z : Int} (h : Tops a i l z) : a ≤ z := by
  induction h <;> omega

theorem Tops.shift {a : Int} {i : Nat} {l : List Nd} {z : Int} (h : Tops a i l z) {n : Int} {m : Nat} (h0 : 0 ≤ a) (hn : 0 ≤ n) (hz : z + n ≤ 1000) (hm : i + l.length + m ≤ 1000) :
    Tops (a + n) (i + m) (l.map (shNd n m)) (z + n) := by
  induction h with
  | nil => exact .nil
  | one h1 h2 hr ih =>
    rename_i a b e i s l z
    have hle := hr.le
    have e1 : w64 (b + n) = b + n := w64_id (by omega) (by omega)
    have e2 : w64 (e + n) = e + n := w64_id (by omega) (by omega)
    have k := ih (by omega) hz (by simp at hm; omega)
    simp [shNd, e1, e2]
    exact .one (by omega) (by omega) (by rw [show i + m + 1 = i + 1 + m by omega]; exact k)
  | two h1 h2 h3 h4 h5 hr ih =>
    rename_i a b e i s l z t b' e'
    have hle := hr.le
    have e1 : w64 (b + n) = b + n := w64_id (by omega) (by omega)
    have e2 : w64 (e + n) = e + n := w64_id (by omega) (by omega)
    have e3 : w64 (b' + n) = b' + n := w64_id (by omega) (by omega)
    have e4 : w64 (e' + n) = e' + n := w64_id (by omega) (by omega)
    have e5 : w64 ((i : Int) + m) = ((i + m : Nat) : Int) := by rw [w64_id (by omega) (by simp at hm; omega)]; omega
    have k := ih (by omega) hz (by simp at hm; omega)
    simp [shNd, e1, e2, e3, e4]
    rw [e5]
    exact .two (by omega) (by omega) (by omega) (by omega) (by omega) (by rw [show i + m + 2 = i + 2 + m by omega]; exact k)

theorem Tops.weak {a a' : Int} {i : Nat} {l : List Nd} {z : Int} (h : Tops a i l z) (ha : a' ≤ a) : ∃ z', z' ≤ z ∧ Tops a' i l z' := by
  cases h with
  | nil => exact ⟨a', ha, .nil⟩
  | one h1 h2 hr => exact ⟨z, by omega, .one (by omega) h2 hr⟩
  | two h1 h2 h3 h4 h5 hr => exact ⟨z, by omega, .two (by omega) h2 h3 h4 h5 hr⟩

theorem Tops.append {a : Int} {i : Nat} {l : List Nd} {z : Int} (h : Tops a i l z) {n : Int} {l' : List Nd} {z' : Int} (h' : Tops n (i + l.length) l' z') (hz : z ≤ n) : ∃ z'', z'' ≤ z' ∧ Tops a i (l ++ l') z'' := by
  induction h with
  | nil => exact h'.weak hz
  | one h1 h2 hr ih =>
    rename_i a b e i s l z
    obtain ⟨z'', k1, k2⟩ := ih (by simpa [Nat.add_assoc, Nat.add_comm, Nat.add_left_comm] using h') hz
    exact ⟨z'', k1, .one h1 h2 k2⟩
  | two h1 h2 h3 h4 h5 hr ih =>
    rename_i a b e i s l z t b' e'
    obtain ⟨z'', k1, k2⟩ := ih (by
      have : i + (⟨s, b, e, -1⟩ :: ⟨t, b', e', (i : Int)⟩ :: l : List Nd).length = i + 2 + l.length := by simp; omega
      rw [← this]; exact h') hz
    exact ⟨z'', k1, .two h1 h2 h3 h4 h5 k2⟩

/-- The heads of a good corpus, with -1 where there are none. -/
theorem Okc.all {k : Nat} {c : Corp} (h : Okc k c) : ∃ rk : Nat → Nat, ∀ i v, (allH c)[i]? = some v → rk i < c.toks.length ∧ (v = -1 ∨ ∃ j : Nat, v = (j : Int) ∧ j < c.toks.length ∧ rk j < rk i) := by
  obtain ⟨rk, hh⟩ := h.heads
  have n1 := h.n1
  by_cases h0 : c.heads.length = 0
  · refine ⟨fun _ => 0, fun i v hv => ⟨by show 0 < c.toks.length; omega, .inl ?_⟩⟩
    unfold allH at hv
    rw [if_pos h0, List.getElem?_replicate] at hv
    split at hv
    · exact (Option.some.inj hv).symm
    · cases hv
  · refine ⟨rk, fun i v hv => hh.rk i v ?_⟩
    unfold allH at hv
    rwa [if_neg h0] at hv

theorem allR_mem {k : Nat} {c : Corp} (h : Okc k c) : ∀ r ∈ allR c, r ∈ relNames := by
  intro r hr
  unfold allR at hr
  split at hr
  · rw [(List.mem_replicate.1 hr).2]; simp [relNames]
  · exact h.rels r hr

theorem cat_heads {k : Nat} {a b : Corp} (ha : Okc k a) (hb : Okc 1 b) (hk : k ≤ 2) : ∃ rk, HeadsOk (cat a b) rk := by
  obtain ⟨ka, kb, _, _⟩ := allh_len ha
  obtain ⟨ka', kb', _, _⟩ := allh_len hb
  obtain ⟨ra, hra⟩ := ha.all
  obtain ⟨rb, hrb⟩ := hb.all
  have na := ha.n7
  have nb := hb.n7
  refine ⟨fun i => if i < a.toks.length then ra i else a.toks.length + rb (i - a.toks.length), ?_, ?_⟩
  · by_cases h0 : a.heads.length + b.heads.length = 0
    · left; simp [cat, h0]
    · right; simp only [cat, if_neg h0]; simp [ka, kb, ka', kb']
  · intro i v hv
    by_cases h0 : a.heads.length + b.heads.length = 0
    · simp [cat, h0] at hv
    have hv : (allH a ++ (allH b).map (shH a.toks.length))[i]? = some v := by
      simp only [cat, if_neg h0] at hv; exact hv
    have hl : (cat a b).toks.length = a.toks.length + b.toks.length := by simp [cat]
    rw [hl]
    by_cases hi : i < a.toks.length
    · rw [List.getElem?_append_left (by omega)] at hv
      obtain ⟨h1, h2⟩ := hra i v hv
      rw [if_pos hi]
      refine ⟨by omega, ?_⟩
      rcases h2 with h2 | ⟨j, h2, h3, h4⟩
      · exact .inl h2
      · exact .inr ⟨j, h2, by omega, by rw [if_pos h3]; exact h4⟩
    · rw [List.getElem?_append_right (by omega), List.getElem?_map, ka] at hv
      cases e : (allH b)[i - a.toks.length]? with
      | none => rw [e] at hv; cases hv
      | some w =>
        rw [e] at hv
        have hv := Option.some.inj hv
        obtain ⟨h1, h2⟩ := hrb _ w e
        rw [if_neg hi]
        refine ⟨by omega, ?_⟩
        rcases h2 with h2 | ⟨j, h2, h3, h4⟩
        · left
          rw [← hv, h2]
          simp [shH]
        · right
          refine ⟨a.toks.length + j, ?_, by omega, ?_⟩
          · rw [← hv, h2]
            simp only [shH]
            rw [if_pos (by omega), w64_id (by omega) (by omega)]
            omega
          · rw [if_neg (by omega), show a.toks.length + j - a.toks.length = j by omega]
            omega

theorem cat_okc {k : Nat} {a b : Corp} (ha : Okc k a) (hb : Okc 1 b) (hk : k ≤ 2) : Okc (k + 1) (cat a b) := by
  have a1 := ha.n1
  have a2 := ha.n7
  have b1 := hb.n1
  have b2 := hb.n7
  have a3 := ha.texts
  have b3 := hb.texts
  have a4 := ha.regs
  have b4 := hb.regs
  have a5 := ha.nodes
  have b5 := hb.nodes
  obtain ⟨za, hza, hTa⟩ := a5.2.2
  obtain ⟨zb, hzb, hTb⟩ := b5.2.2
  refine ⟨?_, ?_, ?_, ⟨?_, ?_, ?_⟩, ⟨?_, ?_⟩, ⟨?_, ?_, ?_⟩, ?_, cat_heads ha hb hk⟩
  · simp [cat]; omega
  · simp [cat]; omega
  · intro t ht
    rcases List.mem_append.1 ht with h | h
    · exact ha.toks t h
    · exact hb.toks t h
  · simp [cat]; omega
  · simp [cat]; omega
  · intro x hx
    rcases List.mem_append.1 hx with h | h
    · exact a3.2.2 x h
    · obtain ⟨y, hy, rfl⟩ := List.mem_map.1 h
      exact b3.2.2 y hy
  · simp [cat]; omega
  · intro r hr
    rcases List.mem_append.1 hr with h | h
    · exact a4.2 r h
    · obtain ⟨y, hy, rfl⟩ := List.mem_map.1 h
      exact b4.2 y hy
  · simp [cat]; omega
  · intro x hx
    rcases List.mem_append.1 hx with h | h
    · exact a5.2.1 x h
    · obtain ⟨y, hy, rfl⟩ := List.mem_map.1 h
      exact b5.2.1 y hy
  · have k1 := hTb.shift (n := (a.toks.length : Int)) (m := a.nodes.length) (by omega) (by omega) (by omega) (by omega)
    obtain ⟨z, hz, hT⟩ := hTa.append (l' := b.nodes.map (shNd a.toks.length a.nodes.length)) (n := (a.toks.length : Int)) (z' := zb + a.toks.length) (by simpa using k1) (by omega)
    refine ⟨z, ?_, hT⟩
    simp [cat]; omega
  · intro r hr
    have hr : r ∈ (if a.heads.length + b.heads.length = 0 then [] else allR a ++ allR b) := hr
    split at hr
    · cases hr
    · rcases List.mem_append.1 hr with h | h
      · exact allR_mem ha r h
      · exact allR_mem hb r h

end Go.Ab.Prog

/- Part ConF. -/
namespace Go.Ab.Prog
open Go Go.Ab
set_option linter.unusedSimpArgs false
set_option linter.unusedVariables false
set_option maxHeartbeats 8000000

theorem cor_loop {l : List Int} (hl : small l) {most : Int} (hm : 1 ≤ most ∧ most ≤ 7) : ∀ (n a : Nat) (c : Corp), n ≤ 2 → Okc (3 - n) c →
    ∃ (a' : Nat) (c' : Corp), Okc 3 c' ∧
      evV prog ic10_0 ⟨tm [(0, .ptr 0 0), (1, I most), (4, .ptr 100 0), (5, .ptr 101 0), (6, I n)], hp [(0, some (.box (tape l a))), (100, some (.box nil7)), (101, some (.box c.cells))]⟩
        = some (.exit 0, ⟨tm [(4, .ptr 100 0), (5, .ptr 101 0)], hp [(0, some (.box (tape l a'))), (100, some (.box nil7)), (101, some (.box c'.cells))]⟩) := by
  intro n
  induction n with
  | zero =>
    intro a c _ hc
    refine ⟨a, c, hc, ?_⟩
    rw [ic10_0_eq]
    simp [ic10_0_b, Corp.cells, nil7]
  | succ n ih =>
    intro a c hn hc
    have w0 : IntKind.i64.wrap 0 = 0 := wrap64 (by omega) (by omega)
    have w1 : IntKind.i64.wrap 1 = 1 := wrap64 (by omega) (by omega)
    have hn2 : n = 0 ∨ n = 1 := by omega
    rcases hn2 with rfl | rfl
    · obtain ⟨a1, d, hd, hdc⟩ := doc_spec hl a ⟨#[116, 49]⟩ hm
      have hdk := hd.okc (by simp [names])
      have hcat := cat_okc hc hdk (by omega)
      simp only [Nat.reduceSub] at ih
      rcases concat_spec hc hdk (by omega) with ⟨e, he, hcc⟩ | hcc
      · obtain ⟨a', c', h5, h6⟩ := ih a1 c (by omega) (hc.mono (by omega))
        refine ⟨a', c', h5, ?_⟩
        rw [ic10_0_eq]
        simp [Corp.cells, nil7] at hdc hcc h6
        simp [ic10_0_b, Corp.cells, nil7, w0, w1, hdc, hcc, he]
        simpa using h6
      · obtain ⟨a', c', h5, h6⟩ := ih a1 (cat c d) (by omega) hcat
        refine ⟨a', c', h5, ?_⟩
        rw [ic10_0_eq]
        simp only [Corp.cells, nil7] at hdc hcc h6
        simp [ic10_0_b, Corp.cells, nil7, w0, w1, hdc, hcc]
        simpa using h6
    · obtain ⟨a1, d, hd, hdc⟩ := doc_spec hl a ⟨#[116, 50]⟩ hm
      have hdk := hd.okc (by simp [names])
      have hcat := cat_okc hc hdk (by omega)
      simp only [Nat.reduceSub] at ih
      rcases concat_spec hc hdk (by omega) with ⟨e, he, hcc⟩ | hcc
      · obtain ⟨a', c', h5, h6⟩ := ih a1 c (by omega) (hc.mono (by omega))
        refine ⟨a', c', h5, ?_⟩
        rw [ic10_0_eq]
        simp [Corp.cells, nil7] at hdc hcc h6
        simp [ic10_0_b, Corp.cells, nil7, w0, w1, hdc, hcc, he]
        simpa using h6
      · obtain ⟨a', c', h5, h6⟩ := ih a1 (cat c d) (by omega) hcat
        refine ⟨a', c', h5, ?_⟩
        rw [ic10_0_eq]
        simp only [Corp.cells, nil7] at hdc hcc h6
        simp [ic10_0_b, Corp.cells, nil7, w0, w1, hdc, hcc]
        simpa using h6

theorem corpus_spec {l : List Int} (hl : small l) (a : Nat) {most : Int} (hm : 1 ≤ most ∧ most ≤ 7) :
    ∃ (a' : Nat) (c : Corp), Okc 3 c ∧ callV prog 10 [.boxed (tape l a), I most] = some (.agg c.cells, [tape l a']) := by
  obtain ⟨a1, d, hd, hdc⟩ := doc_spec hl a ⟨#[116, 48]⟩ hm
  have hdk := hd.okc (by simp [names])
  have n0 := next_nonneg l a1 3
  have n1 := next_lt l a1 (n := 3) (by omega)
  obtain ⟨n, hn⟩ : ∃ n : Nat, next l a1 3 = n := ⟨(next l a1 3).toNat, by omega⟩
  obtain ⟨a', c, hc, hl2⟩ := cor_loop hl hm n (adv l a1) d (by omega) (hdk.mono (by omega))
  refine ⟨a', c, hc, callV_fn (body := ic10) rfl rfl ?_⟩
  simp [Corp.cells, nil7] at hdc hl2
  simp [ic10, Corp.cells, nil7, hdc, hl, hn, hl2]

end Go.Ab.Prog
