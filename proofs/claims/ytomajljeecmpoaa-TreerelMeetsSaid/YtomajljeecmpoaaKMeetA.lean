/- Where two ways meet, as both packages walk them. -/
import Derived.Test.YtomajljeecmpoaaKRouteB

namespace Go.Ab.Prog
open Go Go.Ab
set_option linter.unusedSimpArgs false
set_option linter.unusedVariables false
set_option maxHeartbeats 8000000

def firstIn (w v : List Nat) : Int := match w.find? (fun (x : Nat) => has v (x : Int)) with
  | some m => m
  | none => -1
def meet (c : Corp) (a b : Int) : Int := if isTok c a && isTok c b then firstIn (way c a.toNat) (way c b.toNat) else -1

theorem firstIn_cons (x : Nat) (w v : List Nat) : firstIn (x :: w) v = if has v (x : Int) then (x : Int) else firstIn w v := by
  unfold firstIn
  rw [List.find?_cons]
  cases h : has v (x : Int) <;> simp

theorem meet_in {v : List Nat} (hv : v.length ≤ 1000) {x : Nat} {n k : Nat} {rows : List PV} : ∀ (m j : Nat), j + m = v.length →
    evV prog ic26_0 ⟨tm [(7, I (-1)), (8, .list (v.map IN)), (10, I x), (34, .arr 101 n 0 n), (35, I n), (36, I k), (40, .list (v.map IN)), (41, I v.length), (42, I j)], hp [(101, some (.arr 1 rows false))]⟩
      = if has (v.drop j) x then some (.exit 0, ⟨tm [(7, I x)], hp []⟩)
        else some (.exit 2, ⟨tm [(7, I (-1)), (8, .list (v.map IN)), (34, .arr 101 n 0 n), (35, I n), (36, I k)], hp [(101, some (.arr 1 rows false))]⟩) := by
  intro m
  induction m with
  | zero =>
    intro j hj
    have h1 : ¬ j < v.length := by omega
    have h2 : v.drop j = [] := List.drop_eq_nil_of_le (by omega)
    rw [ic26_0_eq, h2]
    simp [ic26_0_b, h1, has]
  | succ m ih =>
    intro j hj
    have hlt : j < v.length := by omega
    have hw : IntKind.i64.wrap ((j : Int) + 1) = j + 1 := wrap64 (by omega) (by omega)
    have hd : v.drop j = v[j] :: v.drop (j + 1) := List.drop_eq_getElem_cons hlt
    have hi := ih (j + 1) (by omega)
    rw [hd, has_cons]
    generalize hy : v[j] = y at *
    by_cases hx : (x : Int) = (y : Int)
    · have hx2 : x = y := by omega
      subst hx2
      rw [ic26_0_eq]
      simp [ic26_0_b, hlt, hy]
    · have hx2 : ¬ x = y := by omega
      rw [ic26_0_eq]
      simp [ic26_0_b, hlt, hy, hx, hx2, hw]
      simpa using hi

theorem meet_out {v w : List Nat} (hv : v.length ≤ 1000) (hwl : w.length ≤ 1000) : ∀ (m k : Nat), k + m = w.length →
    evV prog ic26_1 ⟨tm [(7, I (-1)), (8, .list (v.map IN)), (34, .arr 101 w.length 0 w.length), (35, I w.length), (36, I k)], hp [(101, some (.arr 1 (w.map IN) false))]⟩
      = some (.exit 0, ⟨tm [(7, I (firstIn (w.drop k) v))], hp []⟩) := by
  intro m
  induction m with
  | zero =>
    intro k hk
    have h1 : ¬ k < w.length := by omega
    have h2 : w.drop k = [] := List.drop_eq_nil_of_le (by omega)
    rw [ic26_1_eq, h2]
    simp [ic26_1_b, h1, firstIn]
  | succ m ih =>
    intro k hk
    have hlt : k < w.length := by omega
    have hw : IntKind.i64.wrap ((k : Int) + 1) = k + 1 := wrap64 (by omega) (by omega)
    have hd : w.drop k = w[k] :: w.drop (k + 1) := List.drop_eq_getElem_cons hlt
    have hi := ih (k + 1) (by omega)
    rw [hd, firstIn_cons]
    generalize hy : w[k] = y at *
    have hin := meet_in hv (x := y) (n := w.length) (k := k) (rows := w.map IN) v.length 0 (by omega)
    simp at hin
    cases hx : has v (y : Int)
    · simp [hx] at hin
      rw [ic26_1_eq]
      simp [ic26_1_b, hlt, hy, hin, hw]
      simpa using hi
    · simp [hx] at hin
      rw [ic26_1_eq]
      simp [ic26_1_b, hlt, hy, hin]

theorem meet_spec (c : Corp) (hn : c.toks.length ≤ 100) (a b : Int) : callV prog 26 [.agg c.cells, I a, I b] = some (I (meet c a b), []) := by
  refine callV_fn (body := ic26) rfl rfl ?_
  have t1 := token_spec c a
  have t2 := token_spec c b
  simp [Corp.cells] at t1 t2
  cases h1 : isTok c a
  · rw [h1] at t1
    simp [ic26, Corp.cells, meet, h1, t1]
  · rw [h1] at t1
    cases h2 : isTok c b
    · rw [h2] at t2
      simp [ic26, Corp.cells, meet, h1, h2, t1, t2]
    · rw [h2] at t2
      have b1 : 0 ≤ a ∧ a < c.toks.length := by simpa [isTok] using h1
      have b2 : 0 ≤ b ∧ b < c.toks.length := by simpa [isTok] using h2
      obtain ⟨i, rfl⟩ := Int.eq_ofNat_of_zero_le b1.1
      obtain ⟨j, rfl⟩ := Int.eq_ofNat_of_zero_le b2.1
      have hu := up_spec c hn i
      have hv := up_spec c hn j
      have hul := up_len c (i : Int)
      have hvl := up_len c (j : Int)
      have m1 : 1 * 8 ≤ room := by unfold room; omega
      have m2 : 1 ≤ room := by unfold room; omega
      have m5 : ((up c i).length + 1) * 8 ≤ room := by unfold room; omega
      have m6 : (up c i).length + 1 ≤ room := by unfold room; omega
      have m7 : ((up c j).length + 1) * 8 ≤ room := by unfold room; omega
      have m8 : (up c j).length + 1 ≤ room := by unfold room; omega
      have hcm : 1 + (up c i).length = (up c i).length + 1 := Nat.add_comm _ _
      have hcm2 : 1 + (up c j).length = (up c j).length + 1 := Nat.add_comm _ _
      have hl := meet_out (v := way c j) (w := way c i) (by simp [way]; omega) (by simp [way]; omega) (way c i).length 0 (by omega)
      have e : List.map IN (way c i) = IN i :: List.map IN (up c i) := rfl
      have e2 : (way c i).length = (up c i).length + 1 := rfl
      have e3 : List.map IN (way c j) = IN j :: List.map IN (up c j) := rfl
      have hm : meet c i j = firstIn (way c i) (way c j) := by simp [meet, h1, h2]
      rw [hm]
      simp only [List.drop_zero] at hl
      generalize firstIn (way c i) (way c j) = r at *
      rw [e, e2, e3] at hl
      simp [Corp.cells] at hu hv hl
      simp [ic26, Corp.cells, t1, t2, hu, hv, m1, m2, m5, m6, m7, m8, hcm, hcm2, hl]

theorem rmeet_loop {v w : List Nat} (hv : v.length ≤ 1000) (hwl : w.length ≤ 1000) : ∀ (m k : Nat), k + m = w.length →
    (firstIn (w.drop k) v = -1 ∧ evV prog ic27_0 ⟨tm [(7, .list (v.map IN)), (31, .arr 101 w.length 0 w.length), (32, I w.length), (33, I k)], hp [(101, some (.arr 1 (w.map IN) false))]⟩ = some (.exit 0, ⟨tm [], hp []⟩)) ∨
    evV prog ic27_0 ⟨tm [(7, .list (v.map IN)), (31, .arr 101 w.length 0 w.length), (32, I w.length), (33, I k)], hp [(101, some (.arr 1 (w.map IN) false))]⟩
      = some (.ret, ⟨tm [(6, I (firstIn (w.drop k) v))], hp []⟩) := by
  intro m
  induction m with
  | zero =>
    intro k hk
    left
    have h1 : ¬ k < w.length := by omega
    have h2 : w.drop k = [] := List.drop_eq_nil_of_le (by omega)
    rw [ic27_0_eq, h2]
    simp [ic27_0_b, h1, firstIn]
  | succ m ih =>
    intro k hk
    have hlt : k < w.length := by omega
    have hw : IntKind.i64.wrap ((k : Int) + 1) = k + 1 := wrap64 (by omega) (by omega)
    have hd : w.drop k = w[k] :: w.drop (k + 1) := List.drop_eq_getElem_cons hlt
    have hi := ih (k + 1) (by omega)
    rw [hd, firstIn_cons]
    generalize hy : w[k] = y at *
    have hin := in_spec v y hv
    cases hx : has v (y : Int)
    · rw [hx] at hin
      rcases hi with ⟨h0, hi⟩ | hi
      · left
        refine ⟨by simpa using h0, ?_⟩
        rw [ic27_0_eq]
        simp [ic27_0_b, hlt, hy, hin, hw]
        simpa using hi
      · right
        rw [ic27_0_eq]
        simp [ic27_0_b, hlt, hy, hin, hw]
        simpa using hi
    · rw [hx] at hin
      right
      rw [ic27_0_eq]
      simp [ic27_0_b, hlt, hy, hin]

theorem rmeet_spec {c : Corp} {rk : Nat → Nat} (hh : HeadsOk c rk) (hn : c.toks.length ≤ 100) (a b : Int) : callV prog 27 [.agg c.cells, I a, I b] = some (I (meet c a b), []) := by
  refine callV_fn (body := ic27) rfl rfl ?_
  have t1 := rtoken_spec c a
  have t2 := rtoken_spec c b
  simp [Corp.cells] at t1 t2
  cases h1 : isTok c a
  · rw [h1] at t1
    simp [ic27, Corp.cells, meet, h1, t1]
  · rw [h1] at t1
    cases h2 : isTok c b
    · rw [h2] at t2
      simp [ic27, Corp.cells, meet, h1, h2, t1, t2]
    · rw [h2] at t2
      have b1 : 0 ≤ a ∧ a < c.toks.length := by simpa [isTok] using h1
      have b2 : 0 ≤ b ∧ b < c.toks.length := by simpa [isTok] using h2
      obtain ⟨i, rfl⟩ := Int.eq_ofNat_of_zero_le b1.1
      obtain ⟨j, rfl⟩ := Int.eq_ofNat_of_zero_le b2.1
      have hu := rup_spec hh hn i
      have hv := rup_spec hh hn j
      have hul := up_len c (i : Int)
      have hvl := up_len c (j : Int)
      have m1 : 1 * 8 ≤ room := by unfold room; omega
      have m2 : 1 ≤ room := by unfold room; omega
      have m5 : ((up c i).length + 1) * 8 ≤ room := by unfold room; omega
      have m6 : (up c i).length + 1 ≤ room := by unfold room; omega
      have m7 : ((up c j).length + 1) * 8 ≤ room := by unfold room; omega
      have m8 : (up c j).length + 1 ≤ room := by unfold room; omega
      have hcm : 1 + (up c i).length = (up c i).length + 1 := Nat.add_comm _ _
      have hcm2 : 1 + (up c j).length = (up c j).length + 1 := Nat.add_comm _ _
      have hl := rmeet_loop (v := way c j) (w := way c i) (by simp [way]; omega) (by simp [way]; omega) (way c i).length 0 (by omega)
      have e : List.map IN (way c i) = IN i :: List.map IN (up c i) := rfl
      have e2 : (way c i).length = (up c i).length + 1 := rfl
      have e3 : List.map IN (way c j) = IN j :: List.map IN (up c j) := rfl
      have hm : meet c i j = firstIn (way c i) (way c j) := by simp [meet, h1, h2]
      rw [hm]
      simp only [List.drop_zero] at hl
      generalize firstIn (way c i) (way c j) = r at *
      rw [e, e2, e3] at hl
      simp [Corp.cells] at hu hv hl
      rcases hl with ⟨h0, hl⟩ | hl
      · rw [h0]
        simp [ic27, Corp.cells, t1, t2, hu, hv, m1, m2, m5, m6, m7, m8, hcm, hcm2, hl]
      · simp [ic27, Corp.cells, t1, t2, hu, hv, m1, m2, m5, m6, m7, m8, hcm, hcm2, hl]

end Go.Ab.Prog
