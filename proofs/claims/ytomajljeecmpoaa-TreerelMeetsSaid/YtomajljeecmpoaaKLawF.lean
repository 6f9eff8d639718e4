/- TreerelRoutes answers true, whatever the tape. -/
import Derived.Test.YtomajljeecmpoaaKMeetA
import Derived.Test.YtomajljeecmpoaaKLawA

namespace Go.Ab.Prog
open Go Go.Ab
set_option linter.unusedSimpArgs false
set_option linter.unusedVariables false
set_option maxHeartbeats 8000000

theorem pre_split {c : Corp} {w1 w2 : List Nat} {x : Nat} (hd : (w1 ++ x :: w2).Nodup) : pre c (w1 ++ x :: w2) (x : Int) = w1.map (relAt c) := by
  have hn : ∀ y ∈ w1, (!decide ((y : Int) = (x : Int))) = true := by
    intro y hy
    have : y ≠ x := (List.nodup_append.1 hd).2.2 y hy x (by simp)
    simp; omega
  unfold pre
  rw [List.takeWhile_append_of_pos hn, List.takeWhile_cons, if_neg (by simp)]
  simp

theorem has_mid {w1 w2 : List Nat} {x : Nat} : has (w1 ++ x :: w2) (x : Int) = true := by simp [has]

theorem tokOf {c : Corp} {x : Nat} (h : x < c.toks.length) : isTok c (x : Int) = true := by simp [isTok]; omega

/-- A route to a token on the way: the relations of what lies in front of it. -/
theorem route_at {c : Corp} {rk : Nat → Nat} (hh : HeadsOk c rk) {i : Nat} (hi : i < c.toks.length) {w1 w2 : List Nat} {x : Nat} (hw : way c i = w1 ++ x :: w2) :
    rel c i x = true ∧ route c i x = w1.map (relAt c) := by
  have hwy := way_ok hh hi
  have hx : x < c.toks.length := hwy.tok x (by rw [hw]; simp)
  have hr : rel c i x = true := by
    unfold rel
    rw [tokOf hi, tokOf hx, Int.toNat_natCast, hw, has_mid]; rfl
  refine ⟨hr, ?_⟩
  unfold route
  rw [if_pos hr, Int.toNat_natCast, hw]
  exact pre_split (hw ▸ hwy.nodup hh)

@[simp] theorem szs_rel {c : Corp} {u : List Nat} : szs 1 (u.map (PV.str ∘ relAt c)) = true := by simp [szs, PV.cells]

theorem law_routes (l : List Int) (hl : l.length < 9223372036854775808) (i j : Int) : callV prog 7 [.list (l.map I), I i, I j] = some (.bool true, []) := by
  obtain ⟨a', c, hc, hcor⟩ := corpus_spec (small_take l) 0 (most := 7) (by omega)
  have hnew := new_spec l hl
  have n7 := hc.n7
  have n1 := hc.n1
  have hn : c.toks.length ≤ 100 := by omega
  obtain ⟨rk, hh⟩ := hc.heads
  have hr : (c.toks.length : Int) < 9223372036854775808 := by omega
  have a0 := mod_nonneg i (c.toks.length : Int)
  have a1 := mod_lt i (n := (c.toks.length : Int)) (by omega)
  have hmod := mod_spec i _ hr
  generalize mod i (c.toks.length : Int) = p at *
  obtain ⟨a, rfl⟩ := Int.eq_ofNat_of_zero_le a0
  have ha : a < c.toks.length := by omega
  have hwy := way_ok hh ha
  have hu := up_spec c hn a
  have hul := up_len c (a : Int)
  obtain ⟨w, hw⟩ : ∃ w, way c a = w := ⟨_, rfl⟩
  have e : (PV.int .i64 (a : Int) :: List.map IN (up c a)) = List.map IN w := by rw [← hw]; rfl
  have e2 : (up c a).length + 1 = w.length := by rw [← hw]; rfl
  have e3 : 1 + (up c a).length = w.length := by omega
  have hwl : (w.length : Int) < 9223372036854775808 := by omega
  have b0 := mod_nonneg j (w.length : Int)
  have b1 := mod_lt j (n := (w.length : Int)) (by omega)
  have hmod2 := mod_spec j _ hwl
  generalize mod j (w.length : Int) = q at *
  obtain ⟨b, rfl⟩ := Int.eq_ofNat_of_zero_le b0
  have hb : b < w.length := by omega
  have m1 : 1 * 8 ≤ room := by unfold room; omega
  have m2 : 1 ≤ room := by unfold room; omega
  have m5 : w.length * 8 ≤ room := by unfold room; omega
  have m6 : w.length ≤ room := by unfold room; omega
  have hlw : IntKind.i64.wrap ((w.length : Int) - 1) = ((w.length - 1 : Nat) : Int) := (wrap64 (by omega) (by omega)).trans (by omega)
  have hlt : w.length - 1 < w.length := by omega
  -- the way, split at the b-th place, and at its end
  have s1 : w = w.take b ++ w[b] :: w.drop (b + 1) := by rw [← List.drop_eq_getElem_cons hb, List.take_append_drop]
  have hne : w[b]'hb :: w.drop (b + 1) ≠ [] := List.cons_ne_nil _ _
  obtain ⟨v, y, hv⟩ : ∃ v y, w[b] :: w.drop (b + 1) = v ++ [y] := ⟨_, _, (List.dropLast_concat_getLast hne).symm⟩
  have s2 : w = (w.take b ++ v) ++ y :: [] := by rw [List.append_assoc, ← hv]; exact s1
  have hy : w[w.length - 1] = y := by
    have h1 : w.getLast? = some y := by rw [s2]; simp
    rw [List.getLast?_eq_getElem?, List.getElem?_eq_getElem hlt] at h1
    exact Option.some.inj h1
  have hx : w[b] < c.toks.length := (hw ▸ hwy).tok _ (List.getElem_mem hb)
  obtain ⟨t1, q1⟩ := route_at hh ha (hw.trans s1)
  obtain ⟨t3, q3⟩ := route_at hh ha (hw.trans s2)
  have hway : way c w[b] = v ++ y :: [] := by
    have h1 := (hw ▸ hwy).suffix s1
    exact ((way_ok hh hx).uniq h1).trans hv
  obtain ⟨t2, q2⟩ := route_at hh hx hway
  have g1 := route_spec c hn a (w[b] : Nat)
  have g2 := route_spec c hn (w[b] : Nat) y
  have g3 := route_spec c hn a y
  rw [t1, q1] at g1
  rw [t2, q2] at g2
  rw [t3, q3] at g3
  have hvl : (w.take b).length + v.length ≤ 50 := by
    have : w.length = (w.take b).length + v.length + 1 := by
      have := congrArg List.length s2
      simp only [List.length_append, List.length_cons, List.length_nil] at this
      omega
    omega
  have htk : (w.take b).length = b := by simp; omega
  generalize hx' : w[b] = x at *
  generalize w.take b = u at *
  subst htk
  have z1 : u.length * 16 ≤ room := by unfold room; omega
  have z2 : u.length ≤ room := by unfold room; omega
  have z3 : (u.length + v.length) * 16 ≤ room := by unfold room; omega
  have z4 : u.length + v.length ≤ room := by unfold room; omega
  have z0 : 0 ≤ room := by omega
  have ts := texts_same ((u ++ v).map (relAt c)) (by simp; omega)
  have kn := known_spec
  refine callV_fn (body := ic7) rfl rfl ?_
  simp [Corp.cells] at hcor hu g1 g2 g3 ts
  simp [ic7, Corp.cells, hnew, hcor, hmod, hu, m1, m2, e, e2, e3, m5, m6, hmod2, hb, hlw, hlt, hx', hy, g1, g2, g3, z0, z1, z2, z3, z4, ts, kn]

end Go.Ab.Prog
