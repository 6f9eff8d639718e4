/- Routes on the way up, as both packages walk them. -/
import Derived.Test.YtgiemhcpilkfaaaGreatDoorKWay

namespace Go.Ab.Prog
open Go Go.Ab
set_option linter.unusedSimpArgs false
set_option linter.unusedVariables false
set_option maxHeartbeats 8000000

def relAt (c : Corp) (i : Nat) : ByteArray := c.rels[i]?.getD ⟨#[]⟩
def pre (c : Corp) (w : List Nat) (b : Int) : List ByteArray := (w.takeWhile (fun (i : Nat) => !decide ((i : Int) = b))).map (relAt c)
def rel (c : Corp) (a b : Int) : Bool := isTok c a && isTok c b && has (way c a.toNat) b
def route (c : Corp) (a b : Int) : List ByteArray := if rel c a b then pre c (way c a.toNat) b else []

theorem has_cons {x : Nat} {l : List Nat} {b : Int} : has (x :: l) b = (decide (b = (x : Int)) || has l b) := rfl
theorem way_len (c : Corp) (i : Nat) : (way c i).length ≤ c.toks.length + 1 := by
  have := up_len c (i : Int)
  simp [way]; omega

theorem route_loop {c : Corp} {w : List Nat} (hw : w.length ≤ 1000) {b : Int} : ∀ (m k : Nat) (out : List ByteArray), k + m = w.length → out.length ≤ k →
    evV prog ic22_0 ⟨tm [(2, I b), (3, .ptr 102 0), (8, .arr 100 out.length 0 out.length), (29, .list (w.map IN)), (30, I w.length), (31, I k)], hp [(100, some (.arr 1 (out.map .str) false)), (102, some (.box c.cells))]⟩
      = if has (w.drop k) b then some (.ret, ⟨tm [(6, .arr 100 (out ++ pre c (w.drop k) b).length 0 (out ++ pre c (w.drop k) b).length), (7, .bool true)], hp [(100, some (.arr 1 ((out ++ pre c (w.drop k) b).map .str) false))]⟩)
        else some (.exit 0, ⟨tm [], hp []⟩) := by
  intro m
  induction m with
  | zero =>
    intro k out hk ho
    have h1 : ¬ k < w.length := by omega
    have h2 : w.drop k = [] := List.drop_eq_nil_of_le (by omega)
    rw [ic22_0_eq, h2]
    simp [ic22_0_b, h1, Corp.cells, has]
  | succ m ih =>
    intro k out hk ho
    have hlt : k < w.length := by omega
    have m1 : (out.length + 1) * 16 ≤ room := by unfold room; omega
    have m2 : out.length + 1 ≤ room := by unfold room; omega
    have hwr : IntKind.i64.wrap ((k : Int) + 1) = k + 1 := wrap64 (by omega) (by omega)
    have hd : w.drop k = w[k] :: w.drop (k + 1) := List.drop_eq_getElem_cons hlt
    have hi := ih (k + 1) (out ++ [relAt c w[k]]) (by omega) (by simp; omega)
    rw [hd, has_cons]
    by_cases hx : (w[k] : Int) = b
    · have hx' : b = (w[k] : Int) := hx.symm
      subst hx'
      have hpre : pre c (w[k] :: w.drop (k + 1)) (w[k] : Int) = [] := by
        unfold pre
        rw [List.takeWhile_cons, if_neg (by simp)]; rfl
      rw [hpre]
      rw [ic22_0_eq]
      simp [ic22_0_b, hlt, Corp.cells]
    · have hx2 : ¬ b = (w[k] : Int) := fun e => hx e.symm
      have hpre : pre c (w[k] :: w.drop (k + 1)) b = relAt c w[k] :: pre c (w.drop (k + 1)) b := by
        unfold pre
        rw [List.takeWhile_cons, if_pos (by simp [hx])]; rfl
      rw [hpre]
      generalize hv : w[k] = v at *
      by_cases hr : v < c.rels.length
      · have e : relAt c v = c.rels[v] := by simp [relAt, hr]
        rw [e] at hi ⊢
        simp [Corp.cells] at hi
        rw [ic22_0_eq]
        simp [ic22_0_b, hlt, Corp.cells, hv, hx, hx2, hr, m1, m2, hwr]
        simpa [Nat.add_assoc, Nat.add_comm, Nat.add_left_comm] using hi
      · have e : relAt c v = ⟨#[]⟩ := by simp [relAt, hr]
        rw [e] at hi ⊢
        simp [Corp.cells] at hi
        rw [ic22_0_eq]
        simp [ic22_0_b, hlt, Corp.cells, hv, hx, hx2, hr, m1, m2, hwr]
        simpa [Nat.add_assoc, Nat.add_comm, Nat.add_left_comm] using hi

theorem route_spec (c : Corp) (hn : c.toks.length ≤ 100) (a b : Int) : callV prog 22 [.agg c.cells, I a, I b] = some (.tuple [.list ((route c a b).map .str), .bool (rel c a b)], []) := by
  refine callV_fn (body := ic22) rfl rfl ?_
  have t1 := token_spec c a
  have t2 := token_spec c b
  simp [Corp.cells] at t1 t2
  cases h1 : isTok c a
  · rw [h1] at t1
    simp [ic22, Corp.cells, route, rel, h1, t1]
  · rw [h1] at t1
    cases h2 : isTok c b
    · rw [h2] at t2
      simp [ic22, Corp.cells, route, rel, h1, h2, t1, t2]
    · rw [h2] at t2
      have b1 : 0 ≤ a ∧ a < c.toks.length := by simpa [isTok] using h1
      obtain ⟨i, rfl⟩ := Int.eq_ofNat_of_zero_le b1.1
      have hu := up_spec c hn i
      have hul := up_len c (i : Int)
      have m1 : 1 * 8 ≤ room := by unfold room; omega
      have m2 : 1 ≤ room := by unfold room; omega
      have m3 : (1 + (up c i).length) * 8 ≤ room := by unfold room; omega
      have m4 : 1 + (up c i).length ≤ room := by unfold room; omega
      have m5 : ((up c i).length + 1) * 8 ≤ room := by unfold room; omega
      have m6 : (up c i).length + 1 ≤ room := by unfold room; omega
      have hl := route_loop (c := c) (w := way c i) (b := b) (by simp [way]; omega) (way c i).length 0 [] (by omega) (by simp)
      have hcm : 1 + (up c i).length = (up c i).length + 1 := Nat.add_comm _ _
      have e : List.map IN (way c i) = IN i :: List.map IN (up c i) := rfl
      have e2 : (way c i).length = (up c i).length + 1 := rfl
      rw [e, e2] at hl
      simp [Corp.cells] at hu hl
      cases h3 : has (way c i) b
      · simp [h3] at hl
        simp [ic22, Corp.cells, route, rel, h1, h2, h3, t1, t2, hu, m1, m2, m5, m6, hcm, hl]
      · simp [h3] at hl
        simp [ic22, Corp.cells, route, rel, h1, h2, h3, t1, t2, hu, m1, m2, m5, m6, hcm, hl]

end Go.Ab.Prog
