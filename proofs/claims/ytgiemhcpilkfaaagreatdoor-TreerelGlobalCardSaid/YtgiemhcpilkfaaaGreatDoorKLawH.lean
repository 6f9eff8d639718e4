/- TreerelGlobal answers true, whatever the tape. -/
import Derived.Test.YtgiemhcpilkfaaaGreatDoorKGlobD

namespace Go.Ab.Prog
open Go Go.Ab
set_option linter.unusedSimpArgs false
set_option linter.unusedVariables false
set_option maxHeartbeats 16000000

theorem small_take (l : List Int) : small (l.take 120) := by unfold small; simp; omega

theorem bound_x (b e p q : Int) : Bound sx b e p q p := token_x b e p q
theorem bound_y (b e p q : Int) : Bound sy b e p q q := token_y b e p q

theorem overs_mem {c : Corp} {b e : Int} {x : Nat} (h : x ∈ overs c b e) : x < c.nodes.length ∧ (ndAt c x).b ≤ b ∧ e ≤ (ndAt c x).e := by
  unfold overs at h
  split at h
  · simpa using h
  · simp at h

theorem common_over (c : Corp) (u v : Nat) : common c u v = -1 ∨ ∃ (k : Nat) (hk : k < c.nodes.length), common c u v = (k : Int) ∧ c.nodes.any (over c.nodes[k].label u v) = true := by
  unfold common
  split
  · unfold lastOr
    split
    · rename_i x hx
      right
      have hm := List.mem_of_getLast? hx
      obtain ⟨h1, h2, h3⟩ := overs_mem hm
      refine ⟨x, h1, rfl, List.any_eq_true.2 ⟨c.nodes[x], List.getElem_mem h1, ?_⟩⟩
      rw [ndAt_lt h1] at h2 h3
      unfold over
      have e1 : (if v < u then (v : Int) else u) = if (v : Int) < u then (v : Int) else u := by split <;> split <;> omega
      have e2 : (if u < v then (v : Int) else u) = if (u : Int) < v then (v : Int) else u := by split <;> split <;> omega
      rw [e1, e2]
      simp only [beq_self_eq_true, Bool.true_and, Bool.and_eq_true, decide_eq_true_eq]
      omega
    · left; rfl
  · left; rfl

theorem above_loop (c : Corp) (u v : Nat) (ms : List PV) (us : List Nat) (hms : ms.length = 3) (hcl : (ms.flatMap refC) = []) (hl : us.length ≤ 100) : ∀ (m k : Nat) (acc : Bool), k + m = us.length →
    evV prog ic8_0 ⟨tm [(1, I u), (2, I v), (7, .ptr 101 0), (8, .list labs), (9, .ptr 102 0), (10, .list (us.map IN)), (11, .bool acc), (46, .list (us.map IN)), (47, I us.length), (48, I k)], hp [(101, some (.box c.cells)), (102, some (.box ms))]⟩
      = some (.exit 0, ⟨tm [(1, I u), (2, I v), (7, .ptr 101 0), (8, .list labs), (9, .ptr 102 0), (10, .list (us.map IN)), (11, .bool (acc || has (us.drop k) v))], hp [(101, some (.box c.cells)), (102, some (.box ms))]⟩) := by
  obtain ⟨x1, x2, x3, rfl⟩ : ∃ x1 x2 x3, ms = [x1, x2, x3] := by
    match ms, hms with
    | [a, b, d], _ => exact ⟨a, b, d, rfl⟩
  simp at hcl
  obtain ⟨hc1, hc2, hc3⟩ := hcl
  intro m
  induction m with
  | zero =>
    intro k acc hk
    have h1 : ¬ k < us.length := by omega
    have h2 : us.drop k = [] := List.drop_eq_nil_of_le (by omega)
    rw [ic8_0_eq, h2]
    simp [ic8_0_b, h1, has, Corp.cells, hc1, hc2, hc3]
  | succ m ih =>
    intro k acc hk
    have hlt : k < us.length := by omega
    have hw : IntKind.i64.wrap ((k : Int) + 1) = k + 1 := wrap64 (by omega) (by omega)
    have hi := ih (k + 1) (acc || decide ((us[k] : Int) = v)) (by omega)
    have hd : has (us.drop k) v = (decide ((us[k] : Int) = v) || has (us.drop (k + 1)) v) := by
      rw [List.drop_eq_getElem_cons hlt, has_cons]
      congr 1
      exact decide_eq_decide.2 ⟨fun e => e.symm, fun e => e.symm⟩
    rw [ic8_0_eq, hd, ← Bool.or_assoc]
    simp [Corp.cells] at hi
    cases acc
    · simp [ic8_0_b, hlt, Corp.cells, hc1, hc2, hc3, hw]
      simpa using hi
    · simp [ic8_0_b, hlt, Corp.cells, hc1, hc2, hc3, hw]
      simpa using hi

theorem law_global (l : List Int) (hl : l.length < 9223372036854775808) (i j : Int) : callV prog 8 [.list (l.map I), I i, I j] = some (.bool true, []) := by
  obtain ⟨a', c, hc, hcor⟩ := corpus_spec (small_take l) 0 (most := 6) (by omega)
  have hnew := new_spec l hl
  have n7 := hc.n7
  have n1 := hc.n1
  have hn : c.toks.length ≤ 100 := by omega
  have hnd : c.nodes.length ≤ 100 := by have := hc.nodes.1; omega
  obtain ⟨rk, hh⟩ := hc.heads
  have hr : (c.toks.length : Int) < 9223372036854775808 := by omega
  have a0 := mod_nonneg i (c.toks.length : Int)
  have a1 := mod_lt i (n := (c.toks.length : Int)) (by omega)
  have b0 := mod_nonneg j (c.toks.length : Int)
  have b1 := mod_lt j (n := (c.toks.length : Int)) (by omega)
  have hmod := mod_spec i _ hr
  have hmod2 := mod_spec j _ hr
  obtain ⟨u, hu⟩ := Int.eq_ofNat_of_zero_le a0
  obtain ⟨v, hv⟩ := Int.eq_ofNat_of_zero_le b0
  rw [hu] at hmod a1
  rw [hv] at hmod2 b1
  have hul : u < c.toks.length := by omega
  have hvl : v < c.toks.length := by omega
  have hw1 : IntKind.i64.wrap ((u : Int) + 1) = (u : Int) + 1 := wrap64 (by omega) (by omega)
  have hf : (inC c u && inC c v) = true := by
    have e1 : (-1 : Int) ≤ u := by omega
    have e2 : (-1 : Int) ≤ v := by omega
    simp [inC, hul, hvl, e1, e2]
  have bx := bound_x (u : Int) ((u : Int) + 1) u v
  have byy := bound_y (u : Int) ((u : Int) + 1) u v
  have H1 := Holds_head hh hn hnd sx sy _ _ _ _ hul hvl bx byy hf
  have H2 := Holds_anc hh hn hnd sx sy _ _ _ _ hul hvl bx byy hf
  have H4 := Holds_depth hh hn ((up c u).length) ((up c u).length) sx _ _ _ _ hul bx hf
  have hup := up_spec c hn u
  have hupl := up_len c (u : Int)
  have hrt := route_spec c hn u v
  have hcm := common29_spec c hnd hn u v
  have hlp := above_loop c u v (mc u ((u : Int) + 1) u v) (up c u) rfl (by simp [mc]) (by omega) (up c u).length 0 false (by omega)
  have kn := known_spec
  have hrel : rel c u v = has (way c u) v := by simp [rel, isTok, hul, hvl]
  rw [hrel] at hrt
  have hroute : has (way c u) v = true → route c u v = pre c (way c u) v := fun h => by simp [route, hrel, h]
  have H3 := Holds_path hh hn hnd (route c u v) sx sy _ _ _ _ hul hvl hroute bx byy hf
  have n2 : ¬ (c.nodes.length : Int) ≤ -1 := by omega
  generalize has (way c u) v = hwv at *
  generalize route c u v = rt at *
  refine callV_fn (body := ic8) rfl rfl ?_
  simp [Corp.cells, gc, mc] at hcor H1 H2 H3 H4 hup hlp hrt hcm
  rcases common_over c u v with hk | ⟨k, hk, hk2, hk3⟩
  · rw [hk] at hcm
    cases e : up c u with
    | nil =>
      rw [e] at hup hlp H2 H4
      have H1' : isHead c u v = false := by simp [isHead, e]
      rw [H1'] at H1
      simp at hup hlp H4
      simp [ic8, Corp.cells, hnew, hcor, hmod, hmod2, hu, hv, hw1, hup, hlp, hrt, H1, H2, H3, H4, hcm, n2, kn]
    | cons k w =>
      rw [e] at hup hlp H2 H4
      have H1' : isHead c u v = decide ((k : Int) = v) := by simp [isHead, e]
      have hpos : (0 : Int) < (w.length : Int) + 1 := by omega
      rw [H1'] at H1
      simp at hup hlp H1 H4
      simp [ic8, Corp.cells, hnew, hcor, hmod, hmod2, hu, hv, hw1, hup, hlp, hrt, H1, H2, H3, H4, hcm, n2, kn, hpos]
  · rw [hk2] at hcm
    have H5 := Holds_node hh hn hnd c.nodes[k].label sx sy _ _ _ _ hul hvl bx byy hf
    rw [hk3] at H5
    have n3 : ¬ c.nodes.length ≤ k := by omega
    have n4 : ¬ (k : Int) < 0 := by omega
    simp [Corp.cells, gc, mc] at H5
    cases e : up c u with
    | nil =>
      rw [e] at hup hlp H2 H4
      have H1' : isHead c u v = false := by simp [isHead, e]
      rw [H1'] at H1
      simp at hup hlp H4
      simp [ic8, Corp.cells, hnew, hcor, hmod, hmod2, hu, hv, hw1, hup, hlp, hrt, H1, H2, H3, H4, H5, hcm, n3, n4, kn, hk, Nd.enc]
    | cons k' w =>
      rw [e] at hup hlp H2 H4
      have H1' : isHead c u v = decide ((k' : Int) = v) := by simp [isHead, e]
      have hpos : (0 : Int) < (w.length : Int) + 1 := by omega
      rw [H1'] at H1
      simp at hup hlp H1 H4
      simp [ic8, Corp.cells, hnew, hcor, hmod, hmod2, hu, hv, hw1, hup, hlp, hrt, H1, H2, H3, H4, H5, hcm, n3, n4, kn, hpos, hk, Nd.enc]

end Go.Ab.Prog
