/- Routes as the reference walks them, and lists of texts compared. -/
import Derived.Test.YtomajljeecmpoaaKRouteA

namespace Go.Ab.Prog
open Go Go.Ab
set_option linter.unusedSimpArgs false
set_option linter.unusedVariables false
set_option maxHeartbeats 8000000

theorem rhd_rel {c : Corp} {rk : Nat → Nat} (h : HeadsOk c rk) (i : Nat) : (rhd c i).2 = relAt c i := by
  unfold rhd relAt
  rcases h.len with ⟨h1, h2⟩ | ⟨h1, h2⟩
  · simp [h1, h2]
  · by_cases h0 : c.heads.length = 0
    · have : c.rels = [] := List.length_eq_zero_iff.1 (by omega)
      simp [h0, this]
    · simp [h0]

theorem rroute_loop {c : Corp} {rk : Nat → Nat} (hh : HeadsOk c rk) {b : Int} {a : Nat} {w : List Nat} (hw : Way c a w) : ∀ (out : List ByteArray), out.length + w.length ≤ 1000 → has w b = true →
    evV prog ic24_0 ⟨tm [(1, I a), (2, I b), (3, .ptr 101 0), (8, .arr 100 out.length 0 out.length)], hp [(100, some (.arr 1 (out.map .str) false)), (101, some (.box c.cells))]⟩
      = some (.exit 0, ⟨tm [(8, .arr 100 (out ++ pre c w b).length 0 (out ++ pre c w b).length)], hp [(100, some (.arr 1 ((out ++ pre c w b).map .str) false))]⟩) := by
  induction hw with
  | @top i hi h =>
    intro out hl hb
    have hx : (i : Int) = b := by simp [has] at hb; exact hb.symm
    have hpre : pre c [i] b = [] := by simp [pre, hx]
    rw [hpre, ic24_0_eq]
    simp [ic24_0_b, Corp.cells, hx]
  | @step i j w hi h hw ih =>
    intro out hl hb
    by_cases hx : (i : Int) = b
    · have hpre : pre c (i :: w) b = [] := by simp [pre, hx]
      rw [hpre, ic24_0_eq]
      simp [ic24_0_b, Corp.cells, hx]
    · have hx2 : ¬ b = (i : Int) := fun e => hx e.symm
      have hb2 : has w b = true := by
        rw [has_cons] at hb
        simpa [hx2] using hb
      have hpre : pre c (i :: w) b = relAt c i :: pre c w b := by
        unfold pre
        rw [List.takeWhile_cons, if_pos (by simp [hx])]; rfl
      have hr := rhead_spec c i (hh.look hi)
      rw [hh.hd hi, rhd_rel hh, h] at hr
      simp at hl
      have m1 : (out.length + 1) * 16 ≤ room := by unfold room; omega
      have m2 : out.length + 1 ≤ room := by unfold room; omega
      have hi2 := ih (out ++ [relAt c i]) (by simp; omega) hb2
      rw [hpre, ic24_0_eq]
      simp [Corp.cells] at hr hi2
      simp [ic24_0_b, Corp.cells, hx, hr, m1, m2]
      simpa [Nat.add_assoc, Nat.add_comm, Nat.add_left_comm] using hi2

theorem rroute_spec {c : Corp} {rk : Nat → Nat} (hh : HeadsOk c rk) (hn : c.toks.length ≤ 100) (a b : Int) : callV prog 24 [.agg c.cells, I a, I b] = some (.tuple [.list ((route c a b).map .str), .bool (rel c a b)], []) := by
  refine callV_fn (body := ic24) rfl rfl ?_
  have t1 := rtoken_spec c a
  have t2 := rtoken_spec c b
  simp [Corp.cells] at t1 t2
  cases h1 : isTok c a
  · rw [h1] at t1
    simp [ic24, Corp.cells, route, rel, h1, t1]
  · rw [h1] at t1
    cases h2 : isTok c b
    · rw [h2] at t2
      simp [ic24, Corp.cells, route, rel, h1, h2, t1, t2]
    · rw [h2] at t2
      have b1 : 0 ≤ a ∧ a < c.toks.length := by simpa [isTok] using h1
      obtain ⟨i, rfl⟩ := Int.eq_ofNat_of_zero_le b1.1
      have hu := rup_spec hh hn i
      have hul := up_len c (i : Int)
      have hin := in_spec (up c i) b (by omega)
      have hwy := way_ok hh (i := i) (by omega)
      have hwl := way_len c i
      have hhas : has (way c i) b = (decide (b = (i : Int)) || has (up c i) b) := rfl
      simp [Corp.cells] at hu
      by_cases hab : b = (i : Int)
      · have hl := rroute_loop hh (b := b) hwy [] (by simp; omega) (by rw [hhas]; simp [hab])
        have hab' : (i : Int) = b := hab.symm
        simp [Corp.cells] at hl
        have hhas2 : has (way c i) b = true := by rw [hhas]; simp [hab]
        have hrel : rel c i b = true := by simp [rel, h1, h2, hhas2]
        have hrt : route c i b = pre c (way c i) b := by simp [route, hrel]
        rw [hrel, hrt]
        subst hab
        simp [ic24, Corp.cells, t1, t2, hl]
      · have hab' : ¬ (i : Int) = b := fun e => hab e.symm
        cases hx : has (up c i) b
        · rw [hx] at hin
          have hrel : rel c i b = false := by simp [rel, hhas, hab, hx]
          have hrt : route c i b = [] := by simp [route, hrel]
          rw [hrel, hrt]
          simp [ic24, Corp.cells, t1, t2, hab', hu, hin]
        · rw [hx] at hin
          have hl := rroute_loop hh (b := b) hwy [] (by simp; omega) (by rw [hhas]; simp [hx])
          simp [Corp.cells] at hl
          have hrel : rel c i b = true := by simp [rel, h1, h2, hhas, hx]
          have hrt : route c i b = pre c (way c i) b := by simp [route, hrel]
          rw [hrel, hrt]
          simp [ic24, Corp.cells, t1, t2, hab', hu, hin, hl]

theorem texts_loop (l : List ByteArray) (hl : l.length ≤ 1000) : ∀ (m i : Nat), i + m = l.length →
    evV prog ic25_0 ⟨tm [(0, .list (l.map .str)), (1, .list (l.map .str)), (12, I l.length), (13, I i)], hp []⟩ = some (.exit 0, ⟨tm [], hp []⟩) := by
  intro m
  induction m with
  | zero =>
    intro i hi
    have : ¬ i < l.length := by omega
    rw [ic25_0_eq]
    simp [ic25_0_b, this]
  | succ m ih =>
    intro i hi
    have hlt : i < l.length := by omega
    have hw : IntKind.i64.wrap ((i : Int) + 1) = i + 1 := wrap64 (by omega) (by omega)
    have hi' := ih (i + 1) (by omega)
    rw [ic25_0_eq]
    simp [ic25_0_b, hlt, hw]
    simpa using hi'

theorem texts_same (l : List ByteArray) (hl : l.length ≤ 1000) : callV prog 25 [.list (l.map .str), .list (l.map .str)] = some (.bool true, []) := by
  refine callV_fn (body := ic25) rfl rfl ?_
  have h := texts_loop l hl l.length 0 (by omega)
  simp at h
  simp [ic25, h]

theorem route_len (c : Corp) (a b : Int) : (route c a b).length ≤ c.toks.length + 1 := by
  unfold route
  split
  · have := way_len c a.toNat
    have h2 := (List.takeWhile_sublist (fun (i : Nat) => !decide ((i : Int) = b)) (l := way c a.toNat)).length_le
    simp [pre]; omega
  · simp

end Go.Ab.Prog
