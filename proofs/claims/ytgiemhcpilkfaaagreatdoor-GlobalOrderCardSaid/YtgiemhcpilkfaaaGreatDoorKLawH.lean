/- TreerelGlobal answers true, whatever the tape. And what follows from it, part by part. -/
import Derived.Test.YtgiemhcpilkfaaaGreatDoorKGlobA

/- Part LawH. -/
namespace Go.Ab.Prog
open Go Go.Ab
set_option linter.unusedSimpArgs false
set_option linter.unusedVariables false
set_option maxHeartbeats 16000000

theorem small_take (l : List Int) : small (l.take 120) := by unfold small; simp; omega

theorem bound_x (b e p q : Int) : Bound sx b e p q p := token_x b e p q
theorem bound_y (b e p q : Int) : Bound sy b e p q q := token_y b e p q

theorem overs_mem {c : Corp} {b e : Int} {x : Nat} (h : x ∈ overs c b e) : x < c.nodes.length ∧ (ndAt c x).b ≤ b ∧ e ≤ (ndAt c x).e := by
  unfold overs at h
  split at h
  · simpa using h
  · simp at h

theorem common_over (c : Corp) (u v : Nat) : common c u v = -1 ∨ ∃ (k : Nat) (hk : k < c.nodes.length), common c u v = (k : Int) ∧ c.nodes.any (over c.nodes[k].label u v) = true := by
  unfold common
  split
  · unfold lastOr
    split
    · rename_i x hx
      right
      have hm := List.mem_of_getLast? hx
      obtain ⟨h1, h2, h3⟩ := overs_mem hm
      refine ⟨x, h1, rfl, List.any_eq_true.2 ⟨c.nodes[x], List.getElem_mem h1, ?_⟩⟩
      rw [ndAt_lt h1] at h2 h3
      unfold over
      have e1 : (if v < u then (v : Int) else u) = if (v : Int) < u then (v : Int) else u := by split <;> split <;> omega
      have e2 : (if u < v then (v : Int) else u) = if (u : Int) < v then (v : Int) else u := by split <;> split <;> omega
      rw [e1, e2]
      simp only [beq_self_eq_true, Bool.true_and, Bool.and_eq_true, decide_eq_true_eq]
      omega
    · left; rfl
  · left; rfl

theorem above_loop (c : Corp) (u v : Nat) (ms : List PV) (us : List Nat) (hms : ms.length = 3) (hcl : (ms.flatMap refC) = []) (hl : us.length ≤ 100) : ∀ (m k : Nat) (acc : Bool), k + m = us.length →
    evV prog ic8_0 ⟨tm [(1, I u), (2, I v), (7, .ptr 101 0), (8, .list labs), (9, .ptr 102 0), (10, .list (us.map IN)), (11, .bool acc), (46, .list (us.map IN)), (47, I us.length), (48, I k)], hp [(101, some (.box c.cells)), (102, some (.box ms))]⟩
      = some (.exit 0, ⟨tm [(1, I u), (2, I v), (7, .ptr 101 0), (8, .list labs), (9, .ptr 102 0), (10, .list (us.map IN)), (11, .bool (acc || has (us.drop k) v))], hp [(101, some (.box c.cells)), (102, some (.box ms))]⟩) := by
  obtain ⟨x1, x2, x3, rfl⟩ : ∃ x1 x2 x3, ms = [x1, x2, x3] := by
    match ms, hms with
    | [a, b, d], _ => exact ⟨a, b, d, rfl⟩
  simp at hcl
  obtain ⟨hc1, hc2, hc3⟩ := hcl
  intro m
  induction m with
  | zero =>
    intro k acc hk
    have h1 : ¬ k < us.length := by omega
    have h2 : us.drop k = [] := List.drop_eq_nil_of_le (by omega)
    rw [ic8_0_eq, h2]
    simp [ic8_0_b, h1, has, Corp.cells, hc1, hc2, hc3]
  | succ m ih =>
    intro k acc hk
    have hlt : k < us.length := by omega
    have hw : IntKind.i64.wrap ((k : Int) + 1) = k + 1 := wrap64 (by omega) (by omega)
    have hi := ih (k + 1) (acc || decide ((us[k] : Int) = v)) (by omega)
    have hd : has (us.drop k) v = (decide ((us[k] : Int) = v) || has (us.drop (k + 1)) v) := by
      rw [List.drop_eq_getElem_cons hlt, has_cons]
      congr 1
      exact decide_eq_decide.2 ⟨fun e => e.symm, fun e => e.symm⟩
    rw [ic8_0_eq, hd, ← Bool.or_assoc]
    simp [Corp.cells] at hi
    cases acc
    · simp [ic8_0_b, hlt, Corp.cells, hc1, hc2, hc3, hw]
      simpa using hi
    · simp [ic8_0_b, hlt, Corp.cells, hc1, hc2, hc3, hw]
      simpa using hi

theorem law_global (l : List Int) (hl : l.length < 9223372036854775808) (i j : Int) : callV prog 8 [.list (l.map I), I i, I j] = some (.bool true, []) := by
  obtain ⟨a', c, hc, hcor⟩ := corpus_spec (small_take l) 0 (most := 6) (by omega)
  have hnew := new_spec l hl
  have n7 := hc.n7
  have n1 := hc.n1
  have hn : c.toks.length ≤ 100 := by omega
  have hnd : c.nodes.length ≤ 100 := by have := hc.nodes.1; omega
  obtain ⟨rk, hh⟩ := hc.heads
  have hr : (c.toks.length : Int) < 9223372036854775808 := by omega
  have a0 := mod_nonneg i (c.toks.length : Int)
  have a1 := mod_lt i (n := (c.toks.length : Int)) (by omega)
  have b0 := mod_nonneg j (c.toks.length : Int)
  have b1 := mod_lt j (n := (c.toks.length : Int)) (by omega)
  have hmod := mod_spec i _ hr
  have hmod2 := mod_spec j _ hr
  obtain ⟨u, hu⟩ := Int.eq_ofNat_of_zero_le a0
  obtain ⟨v, hv⟩ := Int.eq_ofNat_of_zero_le b0
  rw [hu] at hmod a1
  rw [hv] at hmod2 b1
  have hul : u < c.toks.length := by omega
  have hvl : v < c.toks.length := by omega
  have hw1 : IntKind.i64.wrap ((u : Int) + 1) = (u : Int) + 1 := wrap64 (by omega) (by omega)
  have hf : (inC c u && inC c v) = true := by
    have e1 : (-1 : Int) ≤ u := by omega
    have e2 : (-1 : Int) ≤ v := by omega
    simp [inC, hul, hvl, e1, e2]
  have bx := bound_x (u : Int) ((u : Int) + 1) u v
  have byy := bound_y (u : Int) ((u : Int) + 1) u v
  have H1 := Holds_head hh hn hnd sx sy _ _ _ _ hul hvl bx byy hf
  have H2 := Holds_anc hh hn hnd sx sy _ _ _ _ hul hvl bx byy hf
  have H4 := Holds_depth hh hn ((up c u).length) ((up c u).length) sx _ _ _ _ hul bx hf
  have hup := up_spec c hn u
  have hupl := up_len c (u : Int)
  have hrt := route_spec c hn u v
  have hcm := common29_spec c hnd hn u v
  have hlp := above_loop c u v (mc u ((u : Int) + 1) u v) (up c u) rfl (by simp [mc]) (by omega) (up c u).length 0 false (by omega)
  have kn := known_spec
  have hrel : rel c u v = has (way c u) v := by simp [rel, isTok, hul, hvl]
  rw [hrel] at hrt
  have hroute : has (way c u) v = true → route c u v = pre c (way c u) v := fun h => by simp [route, hrel, h]
  have H3 := Holds_path hh hn hnd (route c u v) sx sy _ _ _ _ hul hvl hroute bx byy hf
  have n2 : ¬ (c.nodes.length : Int) ≤ -1 := by omega
  generalize has (way c u) v = hwv at *
  generalize route c u v = rt at *
  refine callV_fn (body := ic8) rfl rfl ?_
  simp [Corp.cells, gc, mc] at hcor H1 H2 H3 H4 hup hlp hrt hcm
  rcases common_over c u v with hk | ⟨k, hk, hk2, hk3⟩
  · rw [hk] at hcm
    cases e : up c u with
    | nil =>
      rw [e] at hup hlp H2 H4
      have H1' : isHead c u v = false := by simp [isHead, e]
      rw [H1'] at H1
      simp at hup hlp H4
      simp [ic8, Corp.cells, hnew, hcor, hmod, hmod2, hu, hv, hw1, hup, hlp, hrt, H1, H2, H3, H4, hcm, n2, kn]
    | cons k w =>
      rw [e] at hup hlp H2 H4
      have H1' : isHead c u v = decide ((k : Int) = v) := by simp [isHead, e]
      have hpos : (0 : Int) < (w.length : Int) + 1 := by omega
      rw [H1'] at H1
      simp at hup hlp H1 H4
      simp [ic8, Corp.cells, hnew, hcor, hmod, hmod2, hu, hv, hw1, hup, hlp, hrt, H1, H2, H3, H4, hcm, n2, kn, hpos]
  · rw [hk2] at hcm
    have H5 := Holds_node hh hn hnd c.nodes[k].label sx sy _ _ _ _ hul hvl bx byy hf
    rw [hk3] at H5
    have n3 : ¬ c.nodes.length ≤ k := by omega
    have n4 : ¬ (k : Int) < 0 := by omega
    simp [Corp.cells, gc, mc] at H5
    cases e : up c u with
    | nil =>
      rw [e] at hup hlp H2 H4
      have H1' : isHead c u v = false := by simp [isHead, e]
      rw [H1'] at H1
      simp at hup hlp H4
      simp [ic8, Corp.cells, hnew, hcor, hmod, hmod2, hu, hv, hw1, hup, hlp, hrt, H1, H2, H3, H4, H5, hcm, n3, n4, kn, hk, Nd.enc]
    | cons k' w =>
      rw [e] at hup hlp H2 H4
      have H1' : isHead c u v = decide ((k' : Int) = v) := by simp [isHead, e]
      have hpos : (0 : Int) < (w.length : Int) + 1 := by omega
      rw [H1'] at H1
      simp at hup hlp H1 H4
      simp [ic8, Corp.cells, hnew, hcor, hmod, hmod2, hu, hv, hw1, hup, hlp, hrt, H1, H2, H3, H4, H5, hcm, n3, n4, kn, hpos, hk, Nd.enc]

end Go.Ab.Prog

/- Part GlobE. -/
namespace Go.Ab.Prog
open Go Go.Ab
set_option linter.unusedSimpArgs false
set_option linter.unusedVariables false
set_option maxHeartbeats 16000000

theorem wrap_top (n : Int) : IntKind.i64.wrap n < 9223372036854775808 := by
  simp only [IntKind.wrap, IntKind.bits, IntKind.signed, Bool.true_and, decide_eq_true_eq, show ((2 : Int) ^ 64) = 18446744073709551616 from rfl, show ((2 : Int) ^ (64 - 1)) = 9223372036854775808 from rfl]
  split <;> omega

/-- A match of two labels. -/
structure Mt where
  b : Int
  e : Int
  p : Int
  q : Int
def Mt.enc (m : Mt) : PV := .agg [I m.b, I m.e, .list [I m.p, I m.q]]
@[simp] theorem szs_Mt {l : List Mt} : szs 3 (l.map Mt.enc) = true := szs_map (f := Mt.enc) (fun _ => rfl)

theorem matches_loop {l : List Int} (hl : small l) {c : Corp} (h1 : 1 ≤ c.texts.length) (h2 : c.texts.length ≤ 100) : ∀ (n a : Nat) (out : List Mt), out.length + n ≤ 100 →
    ∃ (a' : Nat) (out' : List Mt), out'.length ≤ 100 ∧ evV prog ic13_1 ⟨tm [(0, .ptr 0 0), (2, I 2), (5, .ptr 102 0), (9, .arr 101 out.length 0 out.length), (10, I n)], hp [(0, some (.box (tape l a))), (101, some (.arr 3 (out.map Mt.enc) false)), (102, some (.box c.cells))]⟩
      = some (.exit 0, ⟨tm [(9, .arr 101 out'.length 0 out'.length)], hp [(0, some (.box (tape l a'))), (101, some (.arr 3 (out'.map Mt.enc) false))]⟩) := by
  intro n
  induction n with
  | zero =>
    intro a out ho
    refine ⟨a, out, by omega, ?_⟩
    rw [ic13_1_eq]
    simp [ic13_1_b, Corp.cells, tape]
  | succ n ih =>
    intro a out ho
    have hw : IntKind.i64.wrap (((n + 1 : Nat) : Int) - 1) = n := by rw [wrap64 (by omega) (by omega)]; omega
    have hw2 : IntKind.i64.wrap ((n : Nat) : Int) = n := wrap64 (by omega) (by omega)
    have hpos : (0 : Int) < ((n : Nat) : Int) + 1 := by omega
    have m1 : (out.length + 1) * 40 ≤ room := by unfold room; omega
    have m2 : out.length + 1 ≤ room := by unfold room; omega
    have m3 : 1 * 8 ≤ room := by unfold room; omega
    have m4 : 1 ≤ room := by unfold room; omega
    have m5 : 2 * 8 ≤ room := by unfold room; omega
    have m6 : 2 ≤ room := by unfold room; omega
    have k0 := next_nonneg l a (c.texts.length : Int)
    have k1 := next_lt l a (n := (c.texts.length : Int)) (by omega)
    have s0 := next_spec l a (c.texts.length : Int) hl (by omega)
    obtain ⟨k, hk⟩ := Int.eq_ofNat_of_zero_le k0
    rw [hk] at s0 k1
    have hkl : k < c.texts.length := by omega
    obtain ⟨x, hx⟩ : ∃ x, c.texts[k] = x := ⟨_, rfl⟩
    generalize adv l a = a1 at *
    have s1 := next_spec l a1 (IntKind.i64.wrap (x.e - x.b)) hl (wrap_top _)
    generalize next l a1 (IntKind.i64.wrap (x.e - x.b)) = r1 at *
    generalize adv l a1 = a2 at *
    generalize hB : IntKind.i64.wrap (x.b + r1) = B at *
    have s2 := next_spec l a2 (IntKind.i64.wrap (x.e - B)) hl (wrap_top _)
    generalize next l a2 (IntKind.i64.wrap (x.e - B)) = r2 at *
    generalize adv l a2 = a3 at *
    generalize hE : IntKind.i64.wrap (IntKind.i64.wrap (B + 1) + r2) = E at *
    generalize hD : IntKind.i64.wrap (IntKind.i64.wrap (x.e - x.b) + 1) = D at *
    have hDt : D < 9223372036854775808 := by rw [← hD]; exact wrap_top _
    have s3 := next_spec l a3 D hl hDt
    generalize next l a3 D = r3 at *
    generalize adv l a3 = a4 at *
    generalize hP : IntKind.i64.wrap (IntKind.i64.wrap (x.b + r3) - 1) = P at *
    have s4 := next_spec l a4 D hl hDt
    generalize next l a4 D = r4 at *
    generalize adv l a4 = a5 at *
    generalize hQ : IntKind.i64.wrap (IntKind.i64.wrap (x.b + r4) - 1) = Q at *
    have w1 : IntKind.i64.wrap (0 + 1) = 1 := by decide
    have w2 : IntKind.i64.wrap (1 + 1) = 2 := by decide
    have w1' : IntKind.i64.wrap 1 = 1 := by decide
    have w2' : IntKind.i64.wrap 2 = 2 := by decide
    obtain ⟨a', out', j1, j2⟩ := ih a5 (out ++ [⟨B, E, if P < x.b then -1 else P, if Q < x.b then -1 else Q⟩]) (by simp; omega)
    refine ⟨a', out', j1, ?_⟩
    simp [tape] at s0 s1 s2 s3 s4
    simp [Corp.cells, tape, Mt.enc] at j2
    rw [ic13_1_eq]
    cases hp : decide (P < x.b)
    · cases hq : decide (Q < x.b)
      · have hp' : ¬ P < x.b := by simpa using hp
        have hq' : ¬ Q < x.b := by simpa using hq
        simp [hp', hq'] at j2
        simp [ic13_1_b, ic13_0_eq, ic13_0_b, Corp.cells, tape, Tx.enc, Mt.enc, hpos, hkl, hx, hw, hw2, hB, hE, hD, hP, hQ, s0, s1, s2, s3, s4, m1, m2, m3, m4, m5, m6, w1, w2, w1', w2', hp, hq, hp', hq']
        simpa using j2
      · have hp' : ¬ P < x.b := by simpa using hp
        have hq' : Q < x.b := by simpa using hq
        simp [hp', hq'] at j2
        simp [ic13_1_b, ic13_0_eq, ic13_0_b, Corp.cells, tape, Tx.enc, Mt.enc, hpos, hkl, hx, hw, hw2, hB, hE, hD, hP, hQ, s0, s1, s2, s3, s4, m1, m2, m3, m4, m5, m6, w1, w2, w1', w2', hp, hq, hp', hq']
        simpa using j2
    · cases hq : decide (Q < x.b)
      · have hp' : P < x.b := by simpa using hp
        have hq' : ¬ Q < x.b := by simpa using hq
        simp [hp', hq'] at j2
        simp [ic13_1_b, ic13_0_eq, ic13_0_b, Corp.cells, tape, Tx.enc, Mt.enc, hpos, hkl, hx, hw, hw2, hB, hE, hD, hP, hQ, s0, s1, s2, s3, s4, m1, m2, m3, m4, m5, m6, w1, w2, w1', w2', hp, hq, hp', hq']
        simpa using j2
      · have hp' : P < x.b := by simpa using hp
        have hq' : Q < x.b := by simpa using hq
        simp [hp', hq'] at j2
        simp [ic13_1_b, ic13_0_eq, ic13_0_b, Corp.cells, tape, Tx.enc, Mt.enc, hpos, hkl, hx, hw, hw2, hB, hE, hD, hP, hQ, s0, s1, s2, s3, s4, m1, m2, m3, m4, m5, m6, w1, w2, w1', w2', hp, hq, hp', hq']
        simpa using j2

theorem matches_spec {l : List Int} (hl : small l) (a : Nat) {c : Corp} (h1 : 1 ≤ c.texts.length) (h2 : c.texts.length ≤ 100) {most : Int} (hm : 0 ≤ most ∧ most ≤ 50) :
    ∃ (a' : Nat) (ms : List Mt), ms.length ≤ 100 ∧ callV prog 13 [.boxed (tape l a), .agg c.cells, I 2, I most] = some (.list (ms.map Mt.enc), [tape l a']) := by
  have hw : IntKind.i64.wrap (most + 1) = most + 1 := wrap64 (by omega) (by omega)
  have k0 := next_nonneg l a (most + 1)
  have k1 := next_lt l a (n := most + 1) (by omega)
  have s0 := next_spec l a (most + 1) hl (by omega)
  obtain ⟨n, hn⟩ := Int.eq_ofNat_of_zero_le k0
  rw [hn] at s0 k1
  obtain ⟨a', ms, j1, j2⟩ := matches_loop hl h1 h2 n (adv l a) [] (by simp; omega)
  refine ⟨a', ms, j1, callV_fn (body := ic13) rfl rfl ?_⟩
  simp [tape] at s0
  simp [Corp.cells, tape] at j2
  simp [ic13, Corp.cells, tape, hw, s0, j2]

end Go.Ab.Prog

/- Part LawI. -/
namespace Go.Ab.Prog
open Go Go.Ab
set_option linter.unusedSimpArgs false
set_option linter.unusedVariables false
set_option maxHeartbeats 16000000

theorem gknown_run : callN prog 60 16 [] = some (.bool true, []) := by kernel_rfl
theorem gknown_law : callV prog 16 [] = some (.bool true, []) := callV_iff.2 ⟨60, gknown_run⟩
theorem labels_spec : callV prog 12 [] = some (.list labs, []) := callV_iff.2 ⟨20, by kernel_rfl⟩

theorem inC_tok {c : Corp} {p : Int} (h : inC c p = true) (h0 : ¬ p < 0) : ∃ u : Nat, p = (u : Int) ∧ u < c.toks.length := by
  unfold inC at h
  simp at h
  obtain ⟨u, hu⟩ := Int.eq_ofNat_of_zero_le (show 0 ≤ p by omega)
  exact ⟨u, hu, by omega⟩

theorem unV_neg (n : Int) : unV .neg (I n) = some (I (IntKind.i64.wrap (0 - n))) := rfl

/-- A distance, and the distance of the reversed pair, have one answer. -/
theorem order_dist {c : Corp} {rk : Nat → Nat} (hc : HeadsOk c rk) (hn : c.toks.length ≤ 100) (hd : c.nodes.length ≤ 100) (m : Mt) (n v : Int) :
    ∃ r : Bool, callV prog 14 [.agg c.cells, .agg (gc 4 sx sy ⟨#[]⟩ ⟨#[]⟩ ⟨#[]⟩ n (n + v) []), .list labs, .agg (mc m.b m.e m.p m.q)] = some (.bool r, []) ∧
      callV prog 14 [.agg c.cells, .agg (gc 4 sy sx ⟨#[]⟩ ⟨#[]⟩ ⟨#[]⟩ (-n - v) (-n) []), .list labs, .agg (mc m.b m.e m.p m.q)] = some (.bool r, []) := by
  obtain ⟨mb, me, mp, mq⟩ := m
  dsimp only
  have bx := bound_x mb me mp mq
  have byy := bound_y mb me mp mq
  by_cases hk : (inC c mp && inC c mq) = false ∨ mp < 0 ∨ mq < 0
  · exact ⟨false, HoldsN_dist hc hn hd n (n + v) sx sy _ _ _ _ bx byy hk, HoldsN_dist hc hn hd (-n - v) (-n) sy sx _ _ _ _ byy bx (by rcases hk with h | h | h <;> simp [h])⟩
  · have hf : (inC c mp && inC c mq) = true := by
      cases h : (inC c mp && inC c mq)
      · exact absurd (.inl h) hk
      · rfl
    have hp : ¬ mp < 0 := fun h => hk (.inr (.inl h))
    have hq : ¬ mq < 0 := fun h => hk (.inr (.inr h))
    have hf' := hf
    simp only [Bool.and_eq_true] at hf'
    obtain ⟨u, hu, hul⟩ := inC_tok hf'.1 hp
    obtain ⟨w, hw, hwl⟩ := inC_tok hf'.2 hq
    subst hu hw
    have h1 := Holds_dist hc hn hd n (n + v) sx sy _ _ _ _ hul hwl bx byy hf
    have h2 := Holds_dist hc hn hd (-n - v) (-n) sy sx _ _ _ _ hwl hul byy bx hf
    refine ⟨_, h1, ?_⟩
    rw [h2]
    congr 3
    rw [Bool.eq_iff_iff]
    simp only [Bool.and_eq_true, decide_eq_true_eq]
    omega

theorem order_same {c : Corp} {rk : Nat → Nat} (hc : HeadsOk c rk) (hn : c.toks.length ≤ 100) (hd : c.nodes.length ≤ 100) (m : Mt) :
    ∃ r : Bool, callV prog 14 [.agg c.cells, .agg (gc 3 sx sy bword btag ⟨#[]⟩ 0 0 []), .list labs, .agg (mc m.b m.e m.p m.q)] = some (.bool r, []) ∧
      callV prog 14 [.agg c.cells, .agg (gc 3 sy sx btag bword ⟨#[]⟩ 0 0 []), .list labs, .agg (mc m.b m.e m.p m.q)] = some (.bool r, []) := by
  obtain ⟨mb, me, mp, mq⟩ := m
  dsimp only
  have bx := bound_x mb me mp mq
  have byy := bound_y mb me mp mq
  by_cases hk : (inC c mp && inC c mq) = false ∨ mp < 0 ∨ mq < 0
  · exact ⟨false, HoldsN_same hc hn hd attr_word attr_tag sx sy _ _ _ _ bx byy hk, HoldsN_same hc hn hd attr_tag attr_word sy sx _ _ _ _ byy bx (by rcases hk with h | h | h <;> simp [h])⟩
  · have hf : (inC c mp && inC c mq) = true := by
      cases h : (inC c mp && inC c mq)
      · exact absurd (.inl h) hk
      · rfl
    have hp : ¬ mp < 0 := fun h => hk (.inr (.inl h))
    have hq : ¬ mq < 0 := fun h => hk (.inr (.inr h))
    have hf' := hf
    simp only [Bool.and_eq_true] at hf'
    obtain ⟨u, hu, hul⟩ := inC_tok hf'.1 hp
    obtain ⟨w, hw, hwl⟩ := inC_tok hf'.2 hq
    subst hu hw
    have h1 := Holds_same hc hn hd attr_word attr_tag sx sy _ _ _ _ hul hwl bx byy hf
    have h2 := Holds_same hc hn hd attr_tag attr_word sy sx _ _ _ _ hwl hul byy bx hf
    refine ⟨_, h1, ?_⟩
    rw [h2]
    congr 3
    exact Bool.beq_comm

theorem order_loop {c : Corp} {rk : Nat → Nat} (hc : HeadsOk c rk) (hn : c.toks.length ≤ 100) (hd : c.nodes.length ≤ 100) {n v : Int} (h1 : -4 ≤ n ∧ n ≤ 4) (h2 : 0 ≤ v ∧ v ≤ 4) (ms : List Mt) (hm : ms.length ≤ 100) : ∀ (r k : Nat), k + r = ms.length →
    evV prog ic5_0 ⟨tm [(1, I n), (2, I v), (8, .ptr 101 0), (26, .list (ms.map Mt.enc)), (27, I ms.length), (28, I k)], hp [(101, some (.box c.cells))]⟩ = some (.exit 0, ⟨tm [], hp []⟩) := by
  intro r
  induction r with
  | zero =>
    intro k hk
    have h3 : ¬ k < ms.length := by omega
    rw [ic5_0_eq]
    simp [ic5_0_b, h3, Corp.cells]
  | succ r ih =>
    intro k hk
    have hlt : k < ms.length := by omega
    have hw : IntKind.i64.wrap ((k : Int) + 1) = k + 1 := wrap64 (by omega) (by omega)
    have w1 : IntKind.i64.wrap (n + v) = n + v := wrap64 (by omega) (by omega)
    have w2 : IntKind.i64.wrap (-n) = -n := wrap64 (by omega) (by omega)
    have w2' : IntKind.i64.wrap (0 - n) = -n := by rw [wrap64 (by omega) (by omega)]; omega
    have w3 : IntKind.i64.wrap (-n - v) = -n - v := wrap64 (by omega) (by omega)
    have hi := ih (k + 1) (by omega)
    obtain ⟨x, hx⟩ : ∃ x, ms[k] = x := ⟨_, rfl⟩
    obtain ⟨d, d1, d2⟩ := order_dist hc hn hd x n v
    obtain ⟨s, s1, s2⟩ := order_same hc hn hd x
    have hlab := labels_spec
    simp [Corp.cells] at hi
    simp [Corp.cells, gc, mc] at d1 d2 s1 s2
    rw [ic5_0_eq]
    simp [ic5_0_b, hlt, Corp.cells, hx, Mt.enc, hw, unV_neg, w1, w2, w2', w3, hlab, d1, d2, s1, s2]
    simpa using hi

theorem law_order (l : List Int) (hl : l.length < 9223372036854775808) (i j : Int) : callV prog 5 [.list (l.map I), I i, I j] = some (.bool true, []) := by
  obtain ⟨a', c, hc, hcor⟩ := corpus_spec (small_take l) 0 (most := 6) (by omega)
  have hnew := new_spec l hl
  have n7 := hc.n7
  have hn : c.toks.length ≤ 100 := by omega
  have hnd : c.nodes.length ≤ 100 := by have := hc.nodes.1; omega
  obtain ⟨rk, hh⟩ := hc.heads
  obtain ⟨a2, ms, hm, hms⟩ := matches_spec (small_take l) a' (c := c) hc.texts.1 (by have := hc.texts.2.1; omega) (most := 6) (by omega)
  have m1 := mod_spec i 9 (by omega)
  have m2 := mod_spec j 5 (by omega)
  have a0 := mod_nonneg i 9
  have a1 := mod_lt i (n := 9) (by omega)
  have b0 := mod_nonneg j 5
  have b1 := mod_lt j (n := 5) (by omega)
  generalize mod i 9 = p at *
  generalize mod j 5 = q at *
  have hw : IntKind.i64.wrap (p - 4) = p - 4 := wrap64 (by omega) (by omega)
  have hlp := order_loop hh hn hnd (n := p - 4) (v := q) (by omega) (by omega) ms hm ms.length 0 (by omega)
  have kn := gknown_law
  refine callV_fn (body := ic5) rfl rfl ?_
  simp [Corp.cells] at hcor hms hlp
  simp [ic5, Corp.cells, hnew, hcor, hms, m1, m2, hw, hlp, kn]

end Go.Ab.Prog
