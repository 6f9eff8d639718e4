/- TreerelMeets answers true, whatever the tape. -/
import Derived.Test.YtomajljeecmpoaaKLawF

namespace Go.Ab.Prog
open Go Go.Ab
set_option linter.unusedSimpArgs false
set_option linter.unusedVariables false
set_option maxHeartbeats 8000000

theorem has_mem {v : List Nat} {x : Nat} : has v (x : Int) = decide (x ∈ v) := by
  rw [Bool.eq_iff_iff]
  simp only [has, List.any_eq_true, decide_eq_true_eq]
  constructor
  · rintro ⟨y, hy, h⟩
    have : x = y := by omega
    rw [this]; exact hy
  · intro h
    exact ⟨x, h, rfl⟩

theorem firstIn_mem {w v : List Nat} : firstIn w v = match w.find? (fun x => decide (x ∈ v)) with
    | some m => (m : Int)
    | none => -1 := by
  unfold firstIn
  have : (fun (x : Nat) => has v (x : Int)) = (fun x => decide (x ∈ v)) := funext fun x => has_mem
  rw [this]; rfl

theorem meets_plain {c : Corp} {rk : Nat → Nat} (hh : HeadsOk c rk) {i j : Nat} {w v : List Nat} (hw : Way c i w) (hv : Way c j v) :
    (firstIn w v = -1 ∧ firstIn v w = -1 ∧ w.getLast? ≠ v.getLast?) ∨
    (∃ m : Nat, firstIn w v = m ∧ firstIn v w = m ∧ w.getLast? = v.getLast? ∧ m ∈ w ∧ m ∈ v) := by
  rw [firstIn_mem, firstIn_mem]
  cases h1 : w.find? (fun x => decide (x ∈ v)) with
  | none =>
    left
    have n1 := List.find?_eq_none.1 h1
    have h2 : v.find? (fun x => decide (x ∈ w)) = none := by
      rw [List.find?_eq_none]
      intro x hx hm
      exact n1 x (by simpa using hm) (by simpa using hx)
    rw [h2]
    refine ⟨rfl, rfl, fun e => ?_⟩
    obtain ⟨t, et⟩ := hw.head
    have hne : w ≠ [] := by rw [et]; simp
    have hl := List.getLast?_eq_some_getLast hne
    have hm1 := List.getLast_mem hne
    have hm2 : w.getLast hne ∈ v := List.mem_of_getLast? (by rw [← e, hl])
    exact n1 _ hm1 (by simpa using hm2)
  | some m =>
    right
    have a1 := List.find?_some h1
    have a2 := List.mem_of_find?_eq_some h1
    have a1 : m ∈ v := by simpa using a1
    cases h2 : v.find? (fun x => decide (x ∈ w)) with
    | none =>
      have n2 := List.find?_eq_none.1 h2
      exact absurd (by simpa using a2) (n2 m a1)
    | some m' =>
      have e := hw.meet hh hv h1 h2
      subst e
      obtain ⟨w1, w2, e1, k1⟩ := hw.of_mem a2
      refine ⟨m, rfl, rfl, ?_, a2, a1⟩
      rw [hw.last a2 k1, hv.last a1 k1]

theorem rel_mem {c : Corp} {rk : Nat → Nat} (hh : HeadsOk c rk) {i m : Nat} (hi : i < c.toks.length) (hm : m ∈ way c i) : rel c i m = true := by
  have hx := (way_ok hh hi).tok m hm
  unfold rel
  rw [tokOf hi, tokOf hx, Int.toNat_natCast, has_mem]
  simp [hm]

theorem law_meets (l : List Int) (hl : l.length < 9223372036854775808) (i j : Int) : callV prog 8 [.list (l.map I), I i, I j] = some (.bool true, []) := by
  obtain ⟨a', c, hc, hcor⟩ := corpus_spec (small_take l) 0 (most := 7) (by omega)
  have hnew := new_spec l hl
  have n7 := hc.n7
  have n1 := hc.n1
  have hn : c.toks.length ≤ 100 := by omega
  obtain ⟨rk, hh⟩ := hc.heads
  have hr : (c.toks.length : Int) < 9223372036854775808 := by omega
  have a0 := mod_nonneg i (c.toks.length : Int)
  have a1 := mod_lt i (n := (c.toks.length : Int)) (by omega)
  have b0 := mod_nonneg j (c.toks.length : Int)
  have b1 := mod_lt j (n := (c.toks.length : Int)) (by omega)
  have hmod := mod_spec i _ hr
  have hmod2 := mod_spec j _ hr
  generalize mod i (c.toks.length : Int) = p at *
  generalize mod j (c.toks.length : Int) = q at *
  obtain ⟨a, rfl⟩ := Int.eq_ofNat_of_zero_le a0
  obtain ⟨b, rfl⟩ := Int.eq_ofNat_of_zero_le b0
  have ha : a < c.toks.length := by omega
  have hb : b < c.toks.length := by omega
  have hwa := way_ok hh ha
  have hwb := way_ok hh hb
  have hpl := meets_plain hh hwa hwb
  have hu := up_spec c hn a
  have hu2 := up_spec c hn b
  have hul := up_len c (a : Int)
  have hul2 := up_len c (b : Int)
  have g1 := meet_spec c hn a b
  have g2 := meet_spec c hn b a
  have hm1 : meet c a b = firstIn (way c a) (way c b) := by simp [meet, tokOf ha, tokOf hb]
  have hm2 : meet c b a = firstIn (way c b) (way c a) := by simp [meet, tokOf ha, tokOf hb]
  rw [hm1] at g1
  rw [hm2] at g2
  have hrel1 := fun (m : Nat) => route_spec c hn a m
  have hrel2 := fun (m : Nat) => route_spec c hn b m
  have hmem1 := fun (m : Nat) (h : m ∈ way c a) => rel_mem hh ha h
  have hmem2 := fun (m : Nat) (h : m ∈ way c b) => rel_mem hh hb h
  obtain ⟨w, hw⟩ : ∃ w, way c a = w := ⟨_, rfl⟩
  obtain ⟨v, hv⟩ : ∃ v, way c b = v := ⟨_, rfl⟩
  have e : (PV.int .i64 (a : Int) :: List.map IN (up c a)) = List.map IN w := by rw [← hw]; rfl
  have e2 : (up c a).length + 1 = w.length := by rw [← hw]; rfl
  have e3 : 1 + (up c a).length = w.length := by omega
  have f : (PV.int .i64 (b : Int) :: List.map IN (up c b)) = List.map IN v := by rw [← hv]; rfl
  have f2 : (up c b).length + 1 = v.length := by rw [← hv]; rfl
  have f3 : 1 + (up c b).length = v.length := by omega
  rw [hw, hv] at hpl g1 g2
  simp only [hw] at hmem1
  simp only [hv] at hmem2
  have m1 : 1 * 8 ≤ room := by unfold room; omega
  have m2 : 1 ≤ room := by unfold room; omega
  have m5 : w.length * 8 ≤ room := by unfold room; omega
  have m6 : w.length ≤ room := by unfold room; omega
  have m7 : v.length * 8 ≤ room := by unfold room; omega
  have m8 : v.length ≤ room := by unfold room; omega
  have hlw : IntKind.i64.wrap ((w.length : Int) - 1) = ((w.length - 1 : Nat) : Int) := (wrap64 (by omega) (by omega)).trans (by omega)
  have hlv : IntKind.i64.wrap ((v.length : Int) - 1) = ((v.length - 1 : Nat) : Int) := (wrap64 (by omega) (by omega)).trans (by omega)
  have hlt : w.length - 1 < w.length := by omega
  have hlt2 : v.length - 1 < v.length := by omega
  obtain ⟨x, hx⟩ : ∃ x, w[w.length - 1] = x := ⟨_, rfl⟩
  obtain ⟨y, hy⟩ : ∃ y, v[v.length - 1] = y := ⟨_, rfl⟩
  have hlx : w.getLast? = some x := by rw [List.getLast?_eq_getElem?, List.getElem?_eq_getElem hlt, hx]
  have hly : v.getLast? = some y := by rw [List.getLast?_eq_getElem?, List.getElem?_eq_getElem hlt2, hy]
  rw [hlx, hly] at hpl
  have kn := known_spec
  refine callV_fn (body := ic8) rfl rfl ?_
  rcases hpl with ⟨k1, k2, k3⟩ | ⟨m, k1, k2, k3, k4, k5⟩
  · rw [k1] at g1
    rw [k2] at g2
    have k3 : ¬ x = y := fun e => k3 (by rw [e])
    have k4 : ¬ (x : Int) = (y : Int) := by omega
    simp [Corp.cells] at hcor hu hu2 g1 g2
    simp [ic8, Corp.cells, hnew, hcor, hmod, hmod2, hu, hu2, m1, m2, e, e2, e3, f, f2, f3, m5, m6, m7, m8, hlw, hlv, hlt, hlt2, hx, hy, g1, g2, k3, k4, kn]
  · rw [k1] at g1
    rw [k2] at g2
    have k3 : x = y := Option.some.inj k3
    subst k3
    have r1 := hrel1 m
    have r2 := hrel2 m
    rw [hmem1 m k4] at r1
    rw [hmem2 m k5] at r2
    have hm0 : ¬ (m : Int) = -1 := by omega
    simp [Corp.cells] at hcor hu hu2 g1 g2 r1 r2
    simp [ic8, Corp.cells, hnew, hcor, hmod, hmod2, hu, hu2, m1, m2, e, e2, e3, f, f2, f3, m5, m6, m7, m8, hlw, hlv, hlt, hlt2, hx, hy, g1, g2, r1, r2, hm0, kn]

end Go.Ab.Prog
