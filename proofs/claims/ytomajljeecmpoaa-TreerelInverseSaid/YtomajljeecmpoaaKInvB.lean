/- TreerelInverse answers true, whatever the tape. -/
import Derived.Test.YtomajljeecmpoaaKInvA
import Derived.Test.YtomajljeecmpoaaKLawA

namespace Go.Ab.Prog
open Go Go.Ab
set_option linter.unusedSimpArgs false
set_option linter.unusedVariables false
set_option maxHeartbeats 8000000

theorem inv_in {c : Corp} {u : List Nat} (hu : u.length ≤ 1000) {i at_ n j : Int} {D : List PV} : ∀ (m k : Nat) (es : List (Int × Bool)), k + m = u.length →
    evV prog ic4_0 ⟨tm [(1, I i), (5, .ptr 101 0), (6, .list D), (7, .map 102), (8, I at_), (33, I n), (34, I j), (69, .list (u.map IN)), (70, I u.length), (71, I k)], hp [(101, some (.box c.cells)), (102, some (.map es))]⟩
      = some (.exit 2, ⟨tm [(1, I i), (5, .ptr 101 0), (6, .list D), (7, .map 102), (8, I at_), (33, I n), (34, I j)], hp [(101, some (.box c.cells)), (102, some (.map (putAll es (u.drop k))))]⟩) := by
  intro m
  induction m with
  | zero =>
    intro k es hk
    have h1 : ¬ k < u.length := by omega
    have h2 : u.drop k = [] := List.drop_eq_nil_of_le (by omega)
    rw [ic4_0_eq, h2]
    simp [ic4_0_b, h1, Corp.cells, putAll]
  | succ m ih =>
    intro k es hk
    have hlt : k < u.length := by omega
    have hw : IntKind.i64.wrap ((k : Int) + 1) = k + 1 := wrap64 (by omega) (by omega)
    have hd : u.drop k = u[k] :: u.drop (k + 1) := List.drop_eq_getElem_cons hlt
    have hi := ih (k + 1) (mapPut es (u[k] : Nat) true) (by omega)
    rw [hd]
    have e : putAll es (u[k] :: u.drop (k + 1)) = putAll (mapPut es (u[k] : Nat) true) (u.drop (k + 1)) := rfl
    rw [e]
    generalize hx : u[k] = x at *
    rw [ic4_0_eq]
    simp [Corp.cells] at hi
    simp [ic4_0_b, hlt, hw, hx, Corp.cells]
    simpa using hi

def dnF (c : Corp) (i : Nat) (j : Nat) : List Nat := (List.range j).filter (fun k => decide (hd c k = (i : Int)))

theorem inv_loop {c : Corp} {i : Nat} (hn : c.toks.length ≤ 100) (hi : i < c.toks.length) : ∀ (m j : Nat), j + m = c.toks.length →
    evV prog ic4_1 ⟨tm [(1, I i), (5, .ptr 101 0), (6, .list ((dnF c i c.toks.length).map IN)), (7, .map 102), (8, I (dnF c i j).length), (33, I c.toks.length), (34, I j)], hp [(101, some (.box c.cells)), (102, some (.map (esAt c i j)))]⟩
      = some (.exit 0, ⟨tm [(1, I i), (5, .ptr 101 0), (6, .list ((dnF c i c.toks.length).map IN)), (7, .map 102), (8, I (dnF c i c.toks.length).length)], hp [(101, some (.box c.cells)), (102, some (.map (esAt c i c.toks.length)))]⟩) := by
  intro m
  induction m with
  | zero =>
    intro j hj
    have h1 : ¬ j < c.toks.length := by omega
    have h2 : j = c.toks.length := by omega
    subst h2
    rw [ic4_1_eq]
    simp [ic4_1_b, Corp.cells]
  | succ m ih =>
    intro j hj
    have hlt : j < c.toks.length := by omega
    have hw : IntKind.i64.wrap ((j : Int) + 1) = j + 1 := wrap64 (by omega) (by omega)
    have hup := up_spec c hn j
    have hund := under_spec c hn j
    have hul := under_len c (j : Int)
    have hdl : (dnF c i j).length ≤ j := filter_len
    have hw2 : IntKind.i64.wrap (((dnF c i j).length : Int) + 1) = (dnF c i j).length + 1 := wrap64 (by omega) (by omega)
    have hnext := ih (j + 1) (by omega)
    have hin := inv_in (c := c) (u := under c j) (by omega) (i := i) (at_ := (dnF c i j).length + 1) (n := c.toks.length) (j := j) (D := (dnF c i c.toks.length).map IN) (under c j).length 0 (esAt c i j) (by omega)
    have hfirst := up_first (c := c) hlt
    have hes : esAt c i (j + 1) = if hd c j = (i : Int) then putAll (esAt c i j) (under c j) else esAt c i j := rfl
    have hdn : dnF c i (j + 1) = dnF c i j ++ if decide (hd c j = (i : Int)) then [j] else [] := filter_succ
    have hat : hd c j = (i : Int) → (dnF c i c.toks.length)[(dnF c i j).length]? = some j := fun h => filter_at hlt (by simpa using h)
    have hno : ¬ hd c j = (i : Int) → ∀ m, (dnF c i c.toks.length)[m]? ≠ some j := fun h m => filter_not (by simpa using h)
    by_cases hc : hd c j = (i : Int)
    · have hat := hat hc
      obtain ⟨hal, hav⟩ := List.getElem?_eq_some_iff.1 hat
      rw [if_pos hc] at hes
      rw [hc] at hfirst
      simp only [hc, decide_true, if_true] at hdn
      rw [if_pos (by omega)] at hfirst
      simp only [Int.toNat_natCast] at hfirst
      rw [hfirst] at hup
      rw [hes, hdn] at hnext
      simp only [List.length_append, List.length_cons, List.length_nil, Nat.zero_add] at hnext
      rw [ic4_1_eq]
      simp [Corp.cells] at hup hund hnext hin
      simp [ic4_1_b, hlt, hw, hw2, Corp.cells, hup, hund, hal, hav, hin]
      simpa using hnext
    · have hno := hno hc
      rw [if_neg hc] at hes
      simp only [hc, decide_false, Bool.false_eq_true, if_false, List.append_nil] at hdn
      rw [hes, hdn] at hnext
      have hu : up c j = [] ∨ ∃ (h : Nat) (t : List Nat), up c j = h :: t ∧ ¬ (h : Int) = (i : Int) := by
        rw [hfirst]
        split
        · right
          refine ⟨_, _, rfl, ?_⟩
          omega
        · left; rfl
      by_cases hal : (dnF c i j).length < (dnF c i c.toks.length).length
      · have hav : ¬ ((dnF c i c.toks.length)[(dnF c i j).length] : Int) = (j : Int) := by
          intro e
          apply hno (dnF c i j).length
          rw [List.getElem?_eq_getElem hal]
          congr 1; omega
        have hav' : ¬ (dnF c i c.toks.length)[(dnF c i j).length] = j := by omega
        rcases hu with hu | ⟨h, t, hu, hne⟩
        · rw [hu] at hup
          rw [ic4_1_eq]
          simp [Corp.cells] at hup hnext
          simp [ic4_1_b, hlt, hw, Corp.cells, hup, hal, hav, hav']
          simpa using hnext
        · rw [hu] at hup
          have hne' : ¬ h = i := by omega
          rw [ic4_1_eq]
          simp [Corp.cells] at hup hnext
          simp [ic4_1_b, hlt, hw, Corp.cells, hup, hal, hav, hav', hne, hne']
          simpa using hnext
      · rcases hu with hu | ⟨h, t, hu, hne⟩
        · rw [hu] at hup
          rw [ic4_1_eq]
          simp [Corp.cells] at hup hnext
          simp [ic4_1_b, hlt, hw, Corp.cells, hup, hal]
          simpa using hnext
        · rw [hu] at hup
          have hne' : ¬ h = i := by omega
          rw [ic4_1_eq]
          simp [Corp.cells] at hup hnext
          simp [ic4_1_b, hlt, hw, Corp.cells, hup, hal, hne, hne']
          simpa using hnext

theorem inv_all {u : List Nat} (hu : u.length ≤ 1000) {es : List (Int × Bool)} (ha : ∀ x ∈ u, mapAt es (x : Int) = true) {at_ : Int} {D : List PV} (hD : True) : ∀ (m k : Nat), k + m = u.length →
    evV prog ic4_2 ⟨tm [(6, .list D), (7, .map 102), (8, I at_), (14, .list (u.map IN)), (82, .list (u.map IN)), (83, I u.length), (84, I k)], hp [(102, some (.map es))]⟩
      = some (.exit 4, ⟨tm [(6, .list D), (7, .map 102), (8, I at_), (14, .list (u.map IN))], hp [(102, some (.map es))]⟩) := by
  intro m
  induction m with
  | zero =>
    intro k hk
    have h1 : ¬ k < u.length := by omega
    rw [ic4_2_eq]
    simp [ic4_2_b, h1]
  | succ m ih =>
    intro k hk
    have hlt : k < u.length := by omega
    have hw : IntKind.i64.wrap ((k : Int) + 1) = k + 1 := wrap64 (by omega) (by omega)
    have hi := ih (k + 1) (by omega)
    have hx := ha u[k] (List.getElem_mem hlt)
    rw [ic4_2_eq]
    simp [ic4_2_b, hlt, hw, hx]
    simpa using hi

theorem law_inverse (l : List Int) (hl : l.length < 9223372036854775808) (i : Int) : callV prog 4 [.list (l.map I), I i] = some (.bool true, []) := by
  obtain ⟨a', c, hc, hcor⟩ := corpus_spec (small_take l) 0 (most := 7) (by omega)
  have hnew := new_spec l hl
  have n7 := hc.n7
  have n1 := hc.n1
  have hn : c.toks.length ≤ 100 := by omega
  obtain ⟨rk, hh⟩ := hc.heads
  have hr : (c.toks.length : Int) < 9223372036854775808 := by omega
  have a0 := mod_nonneg i (c.toks.length : Int)
  have a1 := mod_lt i (n := (c.toks.length : Int)) (by omega)
  have hmod := mod_spec i _ hr
  generalize mod i (c.toks.length : Int) = p at *
  obtain ⟨a, rfl⟩ := Int.eq_ofNat_of_zero_le a0
  have ha : a < c.toks.length := by omega
  have hdown := down_spec c hn a
  have hdeq : down c a = dnF c a c.toks.length := by
    unfold down dnF
    rw [if_pos (by simp [isTok]; omega)]
  rw [hdeq] at hdown
  have hl1 := inv_loop hn ha c.toks.length 0 (by omega)
  have hund := under_spec c hn a
  have hul := under_len c (a : Int)
  have hl2 := inv_all (u := under c a) (by omega) (es := esAt c a c.toks.length) (fun x hx => es_at hh ha hx) (at_ := (dnF c a c.toks.length).length) (D := (dnF c a c.toks.length).map IN) trivial (under c a).length 0 (by omega)
  have hlen := es_len hh ha
  have kn := known_spec
  have he0 : esAt c a 0 = mapPut [] (a : Int) true := rfl
  have hd0 : (dnF c a 0).length = 0 := rfl
  rw [he0, hd0] at hl1
  simp [Corp.cells] at hcor hdown hl1 hund hl2
  refine callV_fn (body := ic4) rfl rfl ?_
  simp [ic4, Corp.cells, hnew, hcor, hmod, hdown, hl1, hund, hl2, hlen, kn]

end Go.Ab.Prog
