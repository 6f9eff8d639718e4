/- Searches with a function, matches that fit, the token of a label, the way up as the package global walks. -/
import Derived.Test.YtgiemhcpilkfaaaGreatDoorKRouteA
import Derived.Test.YtgiemhcpilkfaaaGreatDoorKKids
import Derived.Test.YtgiemhcpilkfaaaGreatDoorKGlobA
import Derived.KernelRfl

namespace Go.Ab.Prog
open Go Go.Ab
set_option linter.unusedSimpArgs false
set_option linter.unusedVariables false
set_option maxHeartbeats 8000000

theorem find92_loop (l : List Int) (cs : List PV) (P : Int → Bool) (hl : l.length ≤ 1000) (hP : ∀ z ∈ l, callV prog 66 [I z, .rptr cs] = some (.bool (P z), [])) : ∀ (m i : Nat), i + m = l.length →
    ((l.drop i).any P = false ∧ evV prog ic92_0 ⟨tm [(0, .list (l.map I)), (1, .clo 66 [] [.rptr cs]), (7, I l.length), (8, I i)], hp []⟩ = some (.exit 0, ⟨tm [], hp []⟩)) ∨
    ((l.drop i).any P = true ∧ ∃ j : Nat, evV prog ic92_0 ⟨tm [(0, .list (l.map I)), (1, .clo 66 [] [.rptr cs]), (7, I l.length), (8, I i)], hp []⟩ = some (.ret, ⟨tm [(4, I j)], hp []⟩)) := by
  intro m
  induction m with
  | zero =>
    intro i hi
    have h1 : ¬ i < l.length := by omega
    have h2 : l.drop i = [] := List.drop_eq_nil_of_le (by omega)
    left
    refine ⟨by simp [h2], ?_⟩
    rw [ic92_0_eq]
    simp [ic92_0_b, h1]
  | succ m ih =>
    intro i hi
    have hlt : i < l.length := by omega
    have hw : IntKind.i64.wrap ((i : Int) + 1) = i + 1 := wrap64 (by omega) (by omega)
    have hd : (l.drop i).any P = (P l[i] || (l.drop (i + 1)).any P) := by rw [List.drop_eq_getElem_cons hlt]; rfl
    have hq := hP l[i] (List.getElem_mem hlt)
    skip
    cases hx : P l[i]
    · rw [hx] at hq hd
      have step : ∀ r, evV prog ic92_0 ⟨tm [(0, .list (l.map I)), (1, .clo 66 [] [.rptr cs]), (7, I l.length), (8, I (i + 1 : Nat))], hp []⟩ = r → evV prog ic92_0 ⟨tm [(0, .list (l.map I)), (1, .clo 66 [] [.rptr cs]), (7, I l.length), (8, I i)], hp []⟩ = r := fun r hr => by
        rw [ic92_0_eq]
        simp [ic92_0_b, hlt, hw, hq]
        simpa using hr
      rcases ih (i + 1) (by omega) with ⟨h1, h2⟩ | ⟨h1, j, h2⟩
      · left; exact ⟨by rw [hd]; simp [h1], step _ h2⟩
      · right; exact ⟨by rw [hd]; simp [h1], j, step _ h2⟩
    · rw [hx] at hq hd
      right
      refine ⟨by rw [hd]; simp, i, ?_⟩
      rw [ic92_0_eq]
      simp [ic92_0_b, hlt, hq]

theorem any65_spec (l : List Int) (cs : List PV) (P : Int → Bool) (hl : l.length ≤ 1000) (hP : ∀ z ∈ l, callV prog 66 [I z, .rptr cs] = some (.bool (P z), [])) :
    callV prog 65 [.list (l.map I), .clo 66 [] [.rptr cs]] = some (.bool (l.any P), []) := by
  have h92 : ∃ j : Int, callV prog 92 [.list (l.map I), .clo 66 [] [.rptr cs]] = some (I j, []) ∧ decide (0 ≤ j) = l.any P := by
    rcases find92_loop l cs P hl hP l.length 0 (by omega) with ⟨h1, h2⟩ | ⟨h1, j, h2⟩
    · refine ⟨-1, callV_fn (body := ic92) rfl rfl ?_, by simp only [List.drop_zero] at h1; simp [h1]⟩
      simp at h2
      simp [ic92, h2]
    · refine ⟨j, callV_fn (body := ic92) rfl rfl ?_, by simp only [List.drop_zero] at h1; simp [h1]⟩
      simp at h2
      simp [ic92, h2]
  obtain ⟨j, h1, h2⟩ := h92
  refine callV_fn (body := ic65) rfl rfl ?_
  rw [← h2]
  simp [ic65, h1]

theorem find157_loop (l : List Nd) (cs : List PV) (P : Nd → Bool) (hl : l.length ≤ 1000) (hP : ∀ z ∈ l, callV prog 130 [Nd.enc z, .rptr cs] = some (.bool (P z), [])) : ∀ (m i : Nat), i + m = l.length →
    ((l.drop i).any P = false ∧ evV prog ic157_0 ⟨tm [(0, .list (l.map Nd.enc)), (1, .clo 130 [] [.rptr cs]), (7, I l.length), (8, I i)], hp []⟩ = some (.exit 0, ⟨tm [], hp []⟩)) ∨
    ((l.drop i).any P = true ∧ ∃ j : Nat, evV prog ic157_0 ⟨tm [(0, .list (l.map Nd.enc)), (1, .clo 130 [] [.rptr cs]), (7, I l.length), (8, I i)], hp []⟩ = some (.ret, ⟨tm [(4, I j)], hp []⟩)) := by
  intro m
  induction m with
  | zero =>
    intro i hi
    have h1 : ¬ i < l.length := by omega
    have h2 : l.drop i = [] := List.drop_eq_nil_of_le (by omega)
    left
    refine ⟨by simp [h2], ?_⟩
    rw [ic157_0_eq]
    simp [ic157_0_b, h1]
  | succ m ih =>
    intro i hi
    have hlt : i < l.length := by omega
    have hw : IntKind.i64.wrap ((i : Int) + 1) = i + 1 := wrap64 (by omega) (by omega)
    have hd : (l.drop i).any P = (P l[i] || (l.drop (i + 1)).any P) := by rw [List.drop_eq_getElem_cons hlt]; rfl
    have hq := hP l[i] (List.getElem_mem hlt)
    simp only [Nd.enc] at hq
    cases hx : P l[i]
    · rw [hx] at hq hd
      have step : ∀ r, evV prog ic157_0 ⟨tm [(0, .list (l.map Nd.enc)), (1, .clo 130 [] [.rptr cs]), (7, I l.length), (8, I (i + 1 : Nat))], hp []⟩ = r → evV prog ic157_0 ⟨tm [(0, .list (l.map Nd.enc)), (1, .clo 130 [] [.rptr cs]), (7, I l.length), (8, I i)], hp []⟩ = r := fun r hr => by
        rw [ic157_0_eq]
        simp [ic157_0_b, hlt, hw, Nd.enc, hq]
        simpa using hr
      rcases ih (i + 1) (by omega) with ⟨h1, h2⟩ | ⟨h1, j, h2⟩
      · left; exact ⟨by rw [hd]; simp [h1], step _ h2⟩
      · right; exact ⟨by rw [hd]; simp [h1], j, step _ h2⟩
    · rw [hx] at hq hd
      right
      refine ⟨by rw [hd]; simp, i, ?_⟩
      rw [ic157_0_eq]
      simp [ic157_0_b, hlt, Nd.enc, hq]

theorem any129_spec (l : List Nd) (cs : List PV) (P : Nd → Bool) (hl : l.length ≤ 1000) (hP : ∀ z ∈ l, callV prog 130 [Nd.enc z, .rptr cs] = some (.bool (P z), [])) :
    callV prog 129 [.list (l.map Nd.enc), .clo 130 [] [.rptr cs]] = some (.bool (l.any P), []) := by
  have h157 : ∃ j : Int, callV prog 157 [.list (l.map Nd.enc), .clo 130 [] [.rptr cs]] = some (I j, []) ∧ decide (0 ≤ j) = l.any P := by
    rcases find157_loop l cs P hl hP l.length 0 (by omega) with ⟨h1, h2⟩ | ⟨h1, j, h2⟩
    · refine ⟨-1, callV_fn (body := ic157) rfl rfl ?_, by simp only [List.drop_zero] at h1; simp [h1]⟩
      simp at h2
      simp [ic157, h2]
    · refine ⟨j, callV_fn (body := ic157) rfl rfl ?_, by simp only [List.drop_zero] at h1; simp [h1]⟩
      simp at h2
      simp [ic157, h2]
  obtain ⟨j, h1, h2⟩ := h157
  refine callV_fn (body := ic129) rfl rfl ?_
  rw [← h2]
  simp [ic129, h1]

def inC (c : Corp) (t : Int) : Bool := decide (-1 ≤ t) && decide (t < c.toks.length)
theorem fits1_spec (c : Corp) (t : Int) : callV prog 66 [I t, .rptr c.cells] = some (.bool (!inC c t), []) := by
  refine callV_fn (body := ic66) rfl rfl ?_
  by_cases h1 : t < -1
  · have h2 : ¬ -1 ≤ t := by omega
    simp [ic66, inC, h1, h2]
  · have h2 : -1 ≤ t := by omega
    by_cases h3 : t < c.toks.length
    · have h4 : ¬ (c.toks.length : Int) ≤ t := by omega
      simp [ic66, inC, h1, h2, h3, h4, Corp.cells]
    · have h4 : (c.toks.length : Int) ≤ t := by omega
      simp [ic66, inC, h1, h2, h3, h4, Corp.cells]

abbrev sx : ByteArray := ⟨#[120]⟩
abbrev sy : ByteArray := ⟨#[121]⟩
abbrev labs : List PV := [.str sx, .str sy]
def mc (b e p q : Int) : List PV := [I b, I e, .list [I p, I q]]

theorem fits_spec (c : Corp) (b e p q : Int) : callV prog 31 [.agg c.cells, .list labs, .agg (mc b e p q)] = some (.bool (inC c p && inC c q), []) := by
  have h := any65_spec [p, q] c.cells (fun t => !inC c t) (by simp) (fun z _ => fits1_spec c z)
  simp [Corp.cells] at h
  refine callV_fn (body := ic31) rfl rfl ?_
  simp [ic31, mc, Corp.cells, h]

theorem idx_x : callV prog 93 [.list labs, .str sx] = some (I 0, []) := callV_iff.2 ⟨20, by kernel_rfl⟩
theorem idx_y : callV prog 93 [.list labs, .str sy] = some (I 1, []) := callV_iff.2 ⟨20, by kernel_rfl⟩
theorem token_x (b e p q : Int) : callV prog 69 [.list labs, .agg (mc b e p q), .str sx] = some (I p, []) := by
  have h := idx_x
  refine callV_fn (body := ic69) rfl rfl ?_
  simp [ic69, mc, h]
theorem token_y (b e p q : Int) : callV prog 69 [.list labs, .agg (mc b e p q), .str sy] = some (I q, []) := by
  have h := idx_y
  refine callV_fn (body := ic69) rfl rfl ?_
  simp [ic69, mc, h]

/-- The relations on the way up. -/
def ur (c : Corp) (i : Nat) (w : List Nat) : List ByteArray := ((i :: w).take w.length).map (relAt c)
theorem ur_nil (c : Corp) (i : Nat) : ur c i [] = [] := rfl
theorem ur_cons (c : Corp) (i j : Nat) (w : List Nat) : ur c i (j :: w) = relAt c i :: ur c j w := rfl
theorem ur_len (c : Corp) (i : Nat) (w : List Nat) : (ur c i w).length = w.length := by simp [ur]

theorem gup_loop {c : Corp} {rk : Nat → Nat} (hc : HeadsOk c rk) (hn : c.toks.length ≤ 100) : ∀ (f i : Nat) (out : List Nat) (ro : List ByteArray), i < c.toks.length → out.length + f = c.toks.length → ro.length = out.length →
    evV prog ic72_0 ⟨tm [(1, I i), (2, .ptr 102 0), (6, .arr 100 out.length 0 out.length), (7, .arr 101 ro.length 0 ro.length)], hp [(100, some (.arr 1 (out.map IN) false)), (101, some (.arr 1 (ro.map .str) false)), (102, some (.box c.cells))]⟩
      = some (.exit 0, ⟨tm [(6, .arr 100 (out ++ upF c f (hd c i)).length 0 (out ++ upF c f (hd c i)).length), (7, .arr 101 (ro ++ ur c i (upF c f (hd c i))).length 0 (ro ++ ur c i (upF c f (hd c i))).length)],
        hp [(100, some (.arr 1 ((out ++ upF c f (hd c i)).map IN) false)), (101, some (.arr 1 ((ro ++ ur c i (upF c f (hd c i))).map .str) false))]⟩) := by
  intro f
  induction f with
  | zero =>
    intro i out ro hi hl hr
    have h1 : ¬ out.length < c.toks.length := by omega
    rw [ic72_0_eq]
    rcases hc.len with ⟨e1, e2⟩ | ⟨e1, e2⟩
    · have h0 : ¬ (i : Int) < 0 := by omega
      simp [ic72_0_b, Corp.cells, upF, ur_nil, e1, e2, h1, h0]
    · have h2 : i < c.heads.length := by omega
      have h3 : i < c.rels.length := by omega
      simp [ic72_0_b, Corp.cells, upF, ur_nil, h1, h2, h3]
  | succ f ih =>
    intro i out ro hi hl hr
    rcases hc.len with ⟨e1, e2⟩ | ⟨e1, e2⟩
    · have hh : hd c i = -1 := by simp [Prog.hd, e1]
      rw [hh, ic72_0_eq]
      have h0 : ¬ (i : Int) < 0 := by omega
      simp [ic72_0_b, Corp.cells, upF, ur_nil, e1, e2, h0]
    · have h2 : i < c.heads.length := by omega
      have h3 : i < c.rels.length := by omega
      have h4 : out.length < c.toks.length := by omega
      have eg : c.heads[i]? = some c.heads[i] := List.getElem?_eq_getElem _
      have er : relAt c i = c.rels[i] := by simp [relAt, h3]
      rcases (hc.rk i _ eg).2 with h5 | ⟨j, h5, h6, h7⟩
      · have hh : hd c i = -1 := by simp [Prog.hd, eg, h5, isTok]
        rw [hh, ic72_0_eq]
        simp [ic72_0_b, Corp.cells, upF, ur_nil, h2, h3, h4, h5]
      · have hh : hd c i = j := by simp [Prog.hd, eg, h5, isTok, h6]
        have m1 : (out.length + 1) * 8 ≤ room := by unfold room; omega
        have m2 : out.length + 1 ≤ room := by unfold room; omega
        have m3 : (ro.length + 1) * 16 ≤ room := by unfold room; omega
        have m4 : ro.length + 1 ≤ room := by unfold room; omega
        have n1 : ¬ (c.toks.length : Int) ≤ j := by omega
        have n2 : ¬ c.toks.length ≤ j := by omega
        have n0 : ¬ (j : Int) < 0 := by omega
        have hi' := ih j (out ++ [j]) (ro ++ [c.rels[i]]) h6 (by simp; omega) (by simp; omega)
        have hu : upF c (f + 1) (j : Int) = j :: upF c f (hd c j) := by simp [upF]
        rw [hh, hu, ur_cons, er, ic72_0_eq]
        simp [Corp.cells] at hi'
        simp [ic72_0_b, Corp.cells, h2, h3, h4, h5, m1, m2, m3, m4, n0, n1, n2]
        simpa [Nat.add_assoc, Nat.add_comm, Nat.add_left_comm] using hi'

theorem up_nat (c : Corp) {i : Nat} (hi : i < c.toks.length) : up c i = upF c c.toks.length (hd c i) := by
  unfold up
  rw [if_pos (by simp [isTok]; omega)]
  rfl

theorem gup_spec {c : Corp} {rk : Nat → Nat} (hc : HeadsOk c rk) (hn : c.toks.length ≤ 100) {i : Nat} (hi : i < c.toks.length) :
    callV prog 72 [.agg c.cells, I i] = some (.tuple [.list ((up c i).map IN), .list ((ur c i (up c i)).map .str)], []) := by
  have hl := gup_loop hc hn c.toks.length i [] [] hi (by simp) rfl
  rw [← up_nat c hi] at hl
  refine callV_fn (body := ic72) rfl rfl ?_
  simp [Corp.cells] at hl
  simp [ic72, Corp.cells, hl]

end Go.Ab.Prog
