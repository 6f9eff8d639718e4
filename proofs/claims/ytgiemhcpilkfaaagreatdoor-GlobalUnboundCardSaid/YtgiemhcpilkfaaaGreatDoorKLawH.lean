/- TreerelGlobal answers true, whatever the tape. And what follows from it, part by part. -/
import Derived.Test.YtgiemhcpilkfaaaGreatDoorKGlobA

/- Part LawH. -/
namespace Go.Ab.Prog
open Go Go.Ab
set_option linter.unusedSimpArgs false
set_option linter.unusedVariables false
set_option maxHeartbeats 16000000

theorem small_take (l : List Int) : small (l.take 120) := by unfold small; simp; omega

theorem bound_x (b e p q : Int) : Bound sx b e p q p := token_x b e p q
theorem bound_y (b e p q : Int) : Bound sy b e p q q := token_y b e p q

theorem overs_mem {c : Corp} {b e : Int} {x : Nat} (h : x ∈ overs c b e) : x < c.nodes.length ∧ (ndAt c x).b ≤ b ∧ e ≤ (ndAt c x).e := by
  unfold overs at h
  split at h
  · simpa using h
  · simp at h

theorem common_over (c : Corp) (u v : Nat) : common c u v = -1 ∨ ∃ (k : Nat) (hk : k < c.nodes.length), common c u v = (k : Int) ∧ c.nodes.any (over c.nodes[k].label u v) = true := by
  unfold common
  split
  · unfold lastOr
    split
    · rename_i x hx
      right
      have hm := List.mem_of_getLast? hx
      obtain ⟨h1, h2, h3⟩ := overs_mem hm
      refine ⟨x, h1, rfl, List.any_eq_true.2 ⟨c.nodes[x], List.getElem_mem h1, ?_⟩⟩
      rw [ndAt_lt h1] at h2 h3
      unfold over
      have e1 : (if v < u then (v : Int) else u) = if (v : Int) < u then (v : Int) else u := by split <;> split <;> omega
      have e2 : (if u < v then (v : Int) else u) = if (u : Int) < v then (v : Int) else u := by split <;> split <;> omega
      rw [e1, e2]
      simp only [beq_self_eq_true, Bool.true_and, Bool.and_eq_true, decide_eq_true_eq]
      omega
    · left; rfl
  · left; rfl

theorem above_loop (c : Corp) (u v : Nat) (ms : List PV) (us : List Nat) (hms : ms.length = 3) (hcl : (ms.flatMap refC) = []) (hl : us.length ≤ 100) : ∀ (m k : Nat) (acc : Bool), k + m = us.length →
    evV prog ic8_0 ⟨tm [(1, I u), (2, I v), (7, .ptr 101 0), (8, .list labs), (9, .ptr 102 0), (10, .list (us.map IN)), (11, .bool acc), (46, .list (us.map IN)), (47, I us.length), (48, I k)], hp [(101, some (.box c.cells)), (102, some (.box ms))]⟩
      = some (.exit 0, ⟨tm [(1, I u), (2, I v), (7, .ptr 101 0), (8, .list labs), (9, .ptr 102 0), (10, .list (us.map IN)), (11, .bool (acc || has (us.drop k) v))], hp [(101, some (.box c.cells)), (102, some (.box ms))]⟩) := by
  obtain ⟨x1, x2, x3, rfl⟩ : ∃ x1 x2 x3, ms = [x1, x2, x3] := by
    match ms, hms with
    | [a, b, d], _ => exact ⟨a, b, d, rfl⟩
  simp at hcl
  obtain ⟨hc1, hc2, hc3⟩ := hcl
  intro m
  induction m with
  | zero =>
    intro k acc hk
    have h1 : ¬ k < us.length := by omega
    have h2 : us.drop k = [] := List.drop_eq_nil_of_le (by omega)
    rw [ic8_0_eq, h2]
    simp [ic8_0_b, h1, has, Corp.cells, hc1, hc2, hc3]
  | succ m ih =>
    intro k acc hk
    have hlt : k < us.length := by omega
    have hw : IntKind.i64.wrap ((k : Int) + 1) = k + 1 := wrap64 (by omega) (by omega)
    have hi := ih (k + 1) (acc || decide ((us[k] : Int) = v)) (by omega)
    have hd : has (us.drop k) v = (decide ((us[k] : Int) = v) || has (us.drop (k + 1)) v) := by
      rw [List.drop_eq_getElem_cons hlt, has_cons]
      congr 1
      exact decide_eq_decide.2 ⟨fun e => e.symm, fun e => e.symm⟩
    rw [ic8_0_eq, hd, ← Bool.or_assoc]
    simp [Corp.cells] at hi
    cases acc
    · simp [ic8_0_b, hlt, Corp.cells, hc1, hc2, hc3, hw]
      simpa using hi
    · simp [ic8_0_b, hlt, Corp.cells, hc1, hc2, hc3, hw]
      simpa using hi

theorem law_global (l : List Int) (hl : l.length < 9223372036854775808) (i j : Int) : callV prog 8 [.list (l.map I), I i, I j] = some (.bool true, []) := by
  obtain ⟨a', c, hc, hcor⟩ := corpus_spec (small_take l) 0 (most := 6) (by omega)
  have hnew := new_spec l hl
  have n7 := hc.n7
  have n1 := hc.n1
  have hn : c.toks.length ≤ 100 := by omega
  have hnd : c.nodes.length ≤ 100 := by have := hc.nodes.1; omega
  obtain ⟨rk, hh⟩ := hc.heads
  have hr : (c.toks.length : Int) < 9223372036854775808 := by omega
  have a0 := mod_nonneg i (c.toks.length : Int)
  have a1 := mod_lt i (n := (c.toks.length : Int)) (by omega)
  have b0 := mod_nonneg j (c.toks.length : Int)
  have b1 := mod_lt j (n := (c.toks.length : Int)) (by omega)
  have hmod := mod_spec i _ hr
  have hmod2 := mod_spec j _ hr
  obtain ⟨u, hu⟩ := Int.eq_ofNat_of_zero_le a0
  obtain ⟨v, hv⟩ := Int.eq_ofNat_of_zero_le b0
  rw [hu] at hmod a1
  rw [hv] at hmod2 b1
  have hul : u < c.toks.length := by omega
  have hvl : v < c.toks.length := by omega
  have hw1 : IntKind.i64.wrap ((u : Int) + 1) = (u : Int) + 1 := wrap64 (by omega) (by omega)
  have hf : (inC c u && inC c v) = true := by
    have e1 : (-1 : Int) ≤ u := by omega
    have e2 : (-1 : Int) ≤ v := by omega
    simp [inC, hul, hvl, e1, e2]
  have bx := bound_x (u : Int) ((u : Int) + 1) u v
  have byy := bound_y (u : Int) ((u : Int) + 1) u v
  have H1 := Holds_head hh hn hnd sx sy _ _ _ _ hul hvl bx byy hf
  have H2 := Holds_anc hh hn hnd sx sy _ _ _ _ hul hvl bx byy hf
  have H4 := Holds_depth hh hn ((up c u).length) ((up c u).length) sx _ _ _ _ hul bx hf
  have hup := up_spec c hn u
  have hupl := up_len c (u : Int)
  have hrt := route_spec c hn u v
  have hcm := common29_spec c hnd hn u v
  have hlp := above_loop c u v (mc u ((u : Int) + 1) u v) (up c u) rfl (by simp [mc]) (by omega) (up c u).length 0 false (by omega)
  have kn := known_spec
  have hrel : rel c u v = has (way c u) v := by simp [rel, isTok, hul, hvl]
  rw [hrel] at hrt
  have hroute : has (way c u) v = true → route c u v = pre c (way c u) v := fun h => by simp [route, hrel, h]
  have H3 := Holds_path hh hn hnd (route c u v) sx sy _ _ _ _ hul hvl hroute bx byy hf
  have n2 : ¬ (c.nodes.length : Int) ≤ -1 := by omega
  generalize has (way c u) v = hwv at *
  generalize route c u v = rt at *
  refine callV_fn (body := ic8) rfl rfl ?_
  simp [Corp.cells, gc, mc] at hcor H1 H2 H3 H4 hup hlp hrt hcm
  rcases common_over c u v with hk | ⟨k, hk, hk2, hk3⟩
  · rw [hk] at hcm
    cases e : up c u with
    | nil =>
      rw [e] at hup hlp H2 H4
      have H1' : isHead c u v = false := by simp [isHead, e]
      rw [H1'] at H1
      simp at hup hlp H4
      simp [ic8, Corp.cells, hnew, hcor, hmod, hmod2, hu, hv, hw1, hup, hlp, hrt, H1, H2, H3, H4, hcm, n2, kn]
    | cons k w =>
      rw [e] at hup hlp H2 H4
      have H1' : isHead c u v = decide ((k : Int) = v) := by simp [isHead, e]
      have hpos : (0 : Int) < (w.length : Int) + 1 := by omega
      rw [H1'] at H1
      simp at hup hlp H1 H4
      simp [ic8, Corp.cells, hnew, hcor, hmod, hmod2, hu, hv, hw1, hup, hlp, hrt, H1, H2, H3, H4, hcm, n2, kn, hpos]
  · rw [hk2] at hcm
    have H5 := Holds_node hh hn hnd c.nodes[k].label sx sy _ _ _ _ hul hvl bx byy hf
    rw [hk3] at H5
    have n3 : ¬ c.nodes.length ≤ k := by omega
    have n4 : ¬ (k : Int) < 0 := by omega
    simp [Corp.cells, gc, mc] at H5
    cases e : up c u with
    | nil =>
      rw [e] at hup hlp H2 H4
      have H1' : isHead c u v = false := by simp [isHead, e]
      rw [H1'] at H1
      simp at hup hlp H4
      simp [ic8, Corp.cells, hnew, hcor, hmod, hmod2, hu, hv, hw1, hup, hlp, hrt, H1, H2, H3, H4, H5, hcm, n3, n4, kn, hk, Nd.enc]
    | cons k' w =>
      rw [e] at hup hlp H2 H4
      have H1' : isHead c u v = decide ((k' : Int) = v) := by simp [isHead, e]
      have hpos : (0 : Int) < (w.length : Int) + 1 := by omega
      rw [H1'] at H1
      simp at hup hlp H1 H4
      simp [ic8, Corp.cells, hnew, hcor, hmod, hmod2, hu, hv, hw1, hup, hlp, hrt, H1, H2, H3, H4, H5, hcm, n3, n4, kn, hpos, hk, Nd.enc]

end Go.Ab.Prog

/- Part GlobE. -/
namespace Go.Ab.Prog
open Go Go.Ab
set_option linter.unusedSimpArgs false
set_option linter.unusedVariables false
set_option maxHeartbeats 16000000

theorem wrap_top (n : Int) : IntKind.i64.wrap n < 9223372036854775808 := by
  simp only [IntKind.wrap, IntKind.bits, IntKind.signed, Bool.true_and, decide_eq_true_eq, show ((2 : Int) ^ 64) = 18446744073709551616 from rfl, show ((2 : Int) ^ (64 - 1)) = 9223372036854775808 from rfl]
  split <;> omega

/-- A match of two labels. -/
structure Mt where
  b : Int
  e : Int
  p : Int
  q : Int
def Mt.enc (m : Mt) : PV := .agg [I m.b, I m.e, .list [I m.p, I m.q]]
@[simp] theorem szs_Mt {l : List Mt} : szs 3 (l.map Mt.enc) = true := szs_map (f := Mt.enc) (fun _ => rfl)

theorem matches_loop {l : List Int} (hl : small l) {c : Corp} (h1 : 1 ≤ c.texts.length) (h2 : c.texts.length ≤ 100) : ∀ (n a : Nat) (out : List Mt), out.length + n ≤ 100 →
    ∃ (a' : Nat) (out' : List Mt), out'.length ≤ 100 ∧ evV prog ic13_1 ⟨tm [(0, .ptr 0 0), (2, I 2), (5, .ptr 102 0), (9, .arr 101 out.length 0 out.length), (10, I n)], hp [(0, some (.box (tape l a))), (101, some (.arr 3 (out.map Mt.enc) false)), (102, some (.box c.cells))]⟩
      = some (.exit 0, ⟨tm [(9, .arr 101 out'.length 0 out'.length)], hp [(0, some (.box (tape l a'))), (101, some (.arr 3 (out'.map Mt.enc) false))]⟩) := by
  intro n
  induction n with
  | zero =>
    intro a out ho
    refine ⟨a, out, by omega, ?_⟩
    rw [ic13_1_eq]
    simp [ic13_1_b, Corp.cells, tape]
  | succ n ih =>
    intro a out ho
    have hw : IntKind.i64.wrap (((n + 1 : Nat) : Int) - 1) = n := by rw [wrap64 (by omega) (by omega)]; omega
    have hw2 : IntKind.i64.wrap ((n : Nat) : Int) = n := wrap64 (by omega) (by omega)
    have hpos : (0 : Int) < ((n : Nat) : Int) + 1 := by omega
    have m1 : (out.length + 1) * 40 ≤ room := by unfold room; omega
    have m2 : out.length + 1 ≤ room := by unfold room; omega
    have m3 : 1 * 8 ≤ room := by unfold room; omega
    have m4 : 1 ≤ room := by unfold room; omega
    have m5 : 2 * 8 ≤ room := by unfold room; omega
    have m6 : 2 ≤ room := by unfold room; omega
    have k0 := next_nonneg l a (c.texts.length : Int)
    have k1 := next_lt l a (n := (c.texts.length : Int)) (by omega)
    have s0 := next_spec l a (c.texts.length : Int) hl (by omega)
    obtain ⟨k, hk⟩ := Int.eq_ofNat_of_zero_le k0
    rw [hk] at s0 k1
    have hkl : k < c.texts.length := by omega
    obtain ⟨x, hx⟩ : ∃ x, c.texts[k] = x := ⟨_, rfl⟩
    generalize adv l a = a1 at *
    have s1 := next_spec l a1 (IntKind.i64.wrap (x.e - x.b)) hl (wrap_top _)
    generalize next l a1 (IntKind.i64.wrap (x.e - x.b)) = r1 at *
    generalize adv l a1 = a2 at *
    generalize hB : IntKind.i64.wrap (x.b + r1) = B at *
    have s2 := next_spec l a2 (IntKind.i64.wrap (x.e - B)) hl (wrap_top _)
    generalize next l a2 (IntKind.i64.wrap (x.e - B)) = r2 at *
    generalize adv l a2 = a3 at *
    generalize hE : IntKind.i64.wrap (IntKind.i64.wrap (B + 1) + r2) = E at *
    generalize hD : IntKind.i64.wrap (IntKind.i64.wrap (x.e - x.b) + 1) = D at *
    have hDt : D < 9223372036854775808 := by rw [← hD]; exact wrap_top _
    have s3 := next_spec l a3 D hl hDt
    generalize next l a3 D = r3 at *
    generalize adv l a3 = a4 at *
    generalize hP : IntKind.i64.wrap (IntKind.i64.wrap (x.b + r3) - 1) = P at *
    have s4 := next_spec l a4 D hl hDt
    generalize next l a4 D = r4 at *
    generalize adv l a4 = a5 at *
    generalize hQ : IntKind.i64.wrap (IntKind.i64.wrap (x.b + r4) - 1) = Q at *
    have w1 : IntKind.i64.wrap (0 + 1) = 1 := by decide
    have w2 : IntKind.i64.wrap (1 + 1) = 2 := by decide
    have w1' : IntKind.i64.wrap 1 = 1 := by decide
    have w2' : IntKind.i64.wrap 2 = 2 := by decide
    obtain ⟨a', out', j1, j2⟩ := ih a5 (out ++ [⟨B, E, if P < x.b then -1 else P, if Q < x.b then -1 else Q⟩]) (by simp; omega)
    refine ⟨a', out', j1, ?_⟩
    simp [tape] at s0 s1 s2 s3 s4
    simp [Corp.cells, tape, Mt.enc] at j2
    rw [ic13_1_eq]
    cases hp : decide (P < x.b)
    · cases hq : decide (Q < x.b)
      · have hp' : ¬ P < x.b := by simpa using hp
        have hq' : ¬ Q < x.b := by simpa using hq
        simp [hp', hq'] at j2
        simp [ic13_1_b, ic13_0_eq, ic13_0_b, Corp.cells, tape, Tx.enc, Mt.enc, hpos, hkl, hx, hw, hw2, hB, hE, hD, hP, hQ, s0, s1, s2, s3, s4, m1, m2, m3, m4, m5, m6, w1, w2, w1', w2', hp, hq, hp', hq']
        simpa using j2
      · have hp' : ¬ P < x.b := by simpa using hp
        have hq' : Q < x.b := by simpa using hq
        simp [hp', hq'] at j2
        simp [ic13_1_b, ic13_0_eq, ic13_0_b, Corp.cells, tape, Tx.enc, Mt.enc, hpos, hkl, hx, hw, hw2, hB, hE, hD, hP, hQ, s0, s1, s2, s3, s4, m1, m2, m3, m4, m5, m6, w1, w2, w1', w2', hp, hq, hp', hq']
        simpa using j2
    · cases hq : decide (Q < x.b)
      · have hp' : P < x.b := by simpa using hp
        have hq' : ¬ Q < x.b := by simpa using hq
        simp [hp', hq'] at j2
        simp [ic13_1_b, ic13_0_eq, ic13_0_b, Corp.cells, tape, Tx.enc, Mt.enc, hpos, hkl, hx, hw, hw2, hB, hE, hD, hP, hQ, s0, s1, s2, s3, s4, m1, m2, m3, m4, m5, m6, w1, w2, w1', w2', hp, hq, hp', hq']
        simpa using j2
      · have hp' : P < x.b := by simpa using hp
        have hq' : Q < x.b := by simpa using hq
        simp [hp', hq'] at j2
        simp [ic13_1_b, ic13_0_eq, ic13_0_b, Corp.cells, tape, Tx.enc, Mt.enc, hpos, hkl, hx, hw, hw2, hB, hE, hD, hP, hQ, s0, s1, s2, s3, s4, m1, m2, m3, m4, m5, m6, w1, w2, w1', w2', hp, hq, hp', hq']
        simpa using j2

theorem matches_spec {l : List Int} (hl : small l) (a : Nat) {c : Corp} (h1 : 1 ≤ c.texts.length) (h2 : c.texts.length ≤ 100) {most : Int} (hm : 0 ≤ most ∧ most ≤ 50) :
    ∃ (a' : Nat) (ms : List Mt), ms.length ≤ 100 ∧ callV prog 13 [.boxed (tape l a), .agg c.cells, I 2, I most] = some (.list (ms.map Mt.enc), [tape l a']) := by
  have hw : IntKind.i64.wrap (most + 1) = most + 1 := wrap64 (by omega) (by omega)
  have k0 := next_nonneg l a (most + 1)
  have k1 := next_lt l a (n := most + 1) (by omega)
  have s0 := next_spec l a (most + 1) hl (by omega)
  obtain ⟨n, hn⟩ := Int.eq_ofNat_of_zero_le k0
  rw [hn] at s0 k1
  obtain ⟨a', ms, j1, j2⟩ := matches_loop hl h1 h2 n (adv l a) [] (by simp; omega)
  refine ⟨a', ms, j1, callV_fn (body := ic13) rfl rfl ?_⟩
  simp [tape] at s0
  simp [Corp.cells, tape] at j2
  simp [ic13, Corp.cells, tape, hw, s0, j2]

end Go.Ab.Prog

/- Part LawI. -/
namespace Go.Ab.Prog
open Go Go.Ab
set_option linter.unusedSimpArgs false
set_option linter.unusedVariables false
set_option maxHeartbeats 16000000

theorem gknown_run : callN prog 60 16 [] = some (.bool true, []) := by kernel_rfl
theorem gknown_law : callV prog 16 [] = some (.bool true, []) := callV_iff.2 ⟨60, gknown_run⟩
theorem labels_spec : callV prog 12 [] = some (.list labs, []) := callV_iff.2 ⟨20, by kernel_rfl⟩

theorem inC_tok {c : Corp} {p : Int} (h : inC c p = true) (h0 : ¬ p < 0) : ∃ u : Nat, p = (u : Int) ∧ u < c.toks.length := by
  unfold inC at h
  simp at h
  obtain ⟨u, hu⟩ := Int.eq_ofNat_of_zero_le (show 0 ≤ p by omega)
  exact ⟨u, hu, by omega⟩

theorem unV_neg (n : Int) : unV .neg (I n) = some (I (IntKind.i64.wrap (0 - n))) := rfl

/-- A distance, and the distance of the reversed pair, have one answer. -/
theorem order_dist {c : Corp} {rk : Nat → Nat} (hc : HeadsOk c rk) (hn : c.toks.length ≤ 100) (hd : c.nodes.length ≤ 100) (m : Mt) (n v : Int) :
    ∃ r : Bool, callV prog 14 [.agg c.cells, .agg (gc 4 sx sy ⟨#[]⟩ ⟨#[]⟩ ⟨#[]⟩ n (n + v) []), .list labs, .agg (mc m.b m.e m.p m.q)] = some (.bool r, []) ∧
      callV prog 14 [.agg c.cells, .agg (gc 4 sy sx ⟨#[]⟩ ⟨#[]⟩ ⟨#[]⟩ (-n - v) (-n) []), .list labs, .agg (mc m.b m.e m.p m.q)] = some (.bool r, []) := by
  obtain ⟨mb, me, mp, mq⟩ := m
  dsimp only
  have bx := bound_x mb me mp mq
  have byy := bound_y mb me mp mq
  by_cases hk : (inC c mp && inC c mq) = false ∨ mp < 0 ∨ mq < 0
  · exact ⟨false, HoldsN_dist hc hn hd n (n + v) sx sy _ _ _ _ bx byy hk, HoldsN_dist hc hn hd (-n - v) (-n) sy sx _ _ _ _ byy bx (by rcases hk with h | h | h <;> simp [h])⟩
  · have hf : (inC c mp && inC c mq) = true := by
      cases h : (inC c mp && inC c mq)
      · exact absurd (.inl h) hk
      · rfl
    have hp : ¬ mp < 0 := fun h => hk (.inr (.inl h))
    have hq : ¬ mq < 0 := fun h => hk (.inr (.inr h))
    have hf' := hf
    simp only [Bool.and_eq_true] at hf'
    obtain ⟨u, hu, hul⟩ := inC_tok hf'.1 hp
    obtain ⟨w, hw, hwl⟩ := inC_tok hf'.2 hq
    subst hu hw
    have h1 := Holds_dist hc hn hd n (n + v) sx sy _ _ _ _ hul hwl bx byy hf
    have h2 := Holds_dist hc hn hd (-n - v) (-n) sy sx _ _ _ _ hwl hul byy bx hf
    refine ⟨_, h1, ?_⟩
    rw [h2]
    congr 3
    rw [Bool.eq_iff_iff]
    simp only [Bool.and_eq_true, decide_eq_true_eq]
    omega

theorem order_same {c : Corp} {rk : Nat → Nat} (hc : HeadsOk c rk) (hn : c.toks.length ≤ 100) (hd : c.nodes.length ≤ 100) (m : Mt) :
    ∃ r : Bool, callV prog 14 [.agg c.cells, .agg (gc 3 sx sy bword btag ⟨#[]⟩ 0 0 []), .list labs, .agg (mc m.b m.e m.p m.q)] = some (.bool r, []) ∧
      callV prog 14 [.agg c.cells, .agg (gc 3 sy sx btag bword ⟨#[]⟩ 0 0 []), .list labs, .agg (mc m.b m.e m.p m.q)] = some (.bool r, []) := by
  obtain ⟨mb, me, mp, mq⟩ := m
  dsimp only
  have bx := bound_x mb me mp mq
  have byy := bound_y mb me mp mq
  by_cases hk : (inC c mp && inC c mq) = false ∨ mp < 0 ∨ mq < 0
  · exact ⟨false, HoldsN_same hc hn hd attr_word attr_tag sx sy _ _ _ _ bx byy hk, HoldsN_same hc hn hd attr_tag attr_word sy sx _ _ _ _ byy bx (by rcases hk with h | h | h <;> simp [h])⟩
  · have hf : (inC c mp && inC c mq) = true := by
      cases h : (inC c mp && inC c mq)
      · exact absurd (.inl h) hk
      · rfl
    have hp : ¬ mp < 0 := fun h => hk (.inr (.inl h))
    have hq : ¬ mq < 0 := fun h => hk (.inr (.inr h))
    have hf' := hf
    simp only [Bool.and_eq_true] at hf'
    obtain ⟨u, hu, hul⟩ := inC_tok hf'.1 hp
    obtain ⟨w, hw, hwl⟩ := inC_tok hf'.2 hq
    subst hu hw
    have h1 := Holds_same hc hn hd attr_word attr_tag sx sy _ _ _ _ hul hwl bx byy hf
    have h2 := Holds_same hc hn hd attr_tag attr_word sy sx _ _ _ _ hwl hul byy bx hf
    refine ⟨_, h1, ?_⟩
    rw [h2]
    congr 3
    exact Bool.beq_comm

theorem order_loop {c : Corp} {rk : Nat → Nat} (hc : HeadsOk c rk) (hn : c.toks.length ≤ 100) (hd : c.nodes.length ≤ 100) {n v : Int} (h1 : -4 ≤ n ∧ n ≤ 4) (h2 : 0 ≤ v ∧ v ≤ 4) (ms : List Mt) (hm : ms.length ≤ 100) : ∀ (r k : Nat), k + r = ms.length →
    evV prog ic5_0 ⟨tm [(1, I n), (2, I v), (8, .ptr 101 0), (26, .list (ms.map Mt.enc)), (27, I ms.length), (28, I k)], hp [(101, some (.box c.cells))]⟩ = some (.exit 0, ⟨tm [], hp []⟩) := by
  intro r
  induction r with
  | zero =>
    intro k hk
    have h3 : ¬ k < ms.length := by omega
    rw [ic5_0_eq]
    simp [ic5_0_b, h3, Corp.cells]
  | succ r ih =>
    intro k hk
    have hlt : k < ms.length := by omega
    have hw : IntKind.i64.wrap ((k : Int) + 1) = k + 1 := wrap64 (by omega) (by omega)
    have w1 : IntKind.i64.wrap (n + v) = n + v := wrap64 (by omega) (by omega)
    have w2 : IntKind.i64.wrap (-n) = -n := wrap64 (by omega) (by omega)
    have w2' : IntKind.i64.wrap (0 - n) = -n := by rw [wrap64 (by omega) (by omega)]; omega
    have w3 : IntKind.i64.wrap (-n - v) = -n - v := wrap64 (by omega) (by omega)
    have hi := ih (k + 1) (by omega)
    obtain ⟨x, hx⟩ : ∃ x, ms[k] = x := ⟨_, rfl⟩
    obtain ⟨d, d1, d2⟩ := order_dist hc hn hd x n v
    obtain ⟨s, s1, s2⟩ := order_same hc hn hd x
    have hlab := labels_spec
    simp [Corp.cells] at hi
    simp [Corp.cells, gc, mc] at d1 d2 s1 s2
    rw [ic5_0_eq]
    simp [ic5_0_b, hlt, Corp.cells, hx, Mt.enc, hw, unV_neg, w1, w2, w2', w3, hlab, d1, d2, s1, s2]
    simpa using hi

theorem law_order (l : List Int) (hl : l.length < 9223372036854775808) (i j : Int) : callV prog 5 [.list (l.map I), I i, I j] = some (.bool true, []) := by
  obtain ⟨a', c, hc, hcor⟩ := corpus_spec (small_take l) 0 (most := 6) (by omega)
  have hnew := new_spec l hl
  have n7 := hc.n7
  have hn : c.toks.length ≤ 100 := by omega
  have hnd : c.nodes.length ≤ 100 := by have := hc.nodes.1; omega
  obtain ⟨rk, hh⟩ := hc.heads
  obtain ⟨a2, ms, hm, hms⟩ := matches_spec (small_take l) a' (c := c) hc.texts.1 (by have := hc.texts.2.1; omega) (most := 6) (by omega)
  have m1 := mod_spec i 9 (by omega)
  have m2 := mod_spec j 5 (by omega)
  have a0 := mod_nonneg i 9
  have a1 := mod_lt i (n := 9) (by omega)
  have b0 := mod_nonneg j 5
  have b1 := mod_lt j (n := 5) (by omega)
  generalize mod i 9 = p at *
  generalize mod j 5 = q at *
  have hw : IntKind.i64.wrap (p - 4) = p - 4 := wrap64 (by omega) (by omega)
  have hlp := order_loop hh hn hnd (n := p - 4) (v := q) (by omega) (by omega) ms hm ms.length 0 (by omega)
  have kn := gknown_law
  refine callV_fn (body := ic5) rfl rfl ?_
  simp [Corp.cells] at hcor hms hlp
  simp [ic5, Corp.cells, hnew, hcor, hms, m1, m2, hw, hlp, kn]

end Go.Ab.Prog

/- Part GlobF. -/
namespace Go.Ab.Prog
open Go Go.Ab
set_option linter.unusedSimpArgs false
set_option linter.unusedVariables false
set_option maxHeartbeats 16000000

abbrev E0 : ByteArray := ⟨#[]⟩
/-- What an atom asks, its labels apart. -/
inductive At where
  | bnd
  | val (v : ByteArray) (f : Bool)
  | same (arg : ByteArray)
  | dist (mn mx : Int)
  | region (nm : ByteArray)
  | head
  | anc
  | path (args : List ByteArray)
  | node (nm : ByteArray)
  | depth (mn mx : Int)
def At.cells (a b : ByteArray) : At → List PV
  | .bnd => gc 1 a E0 E0 E0 E0 0 0 []
  | .val v f => [I 2, .str a, .str E0, .str bword, .str E0, .str v, .bool f, I 0, I 0, .list [], .list []]
  | .same x => gc 3 a b bword x E0 0 0 []
  | .dist mn mx => gc 4 a b E0 E0 E0 mn mx []
  | .region nm => gc 5 a b nm E0 E0 0 0 []
  | .head => gc 6 a b E0 E0 E0 0 0 []
  | .anc => gc 7 a b E0 E0 E0 0 0 []
  | .path l => gc 8 a b E0 E0 E0 0 0 l
  | .node nm => gc 9 a b nm E0 E0 0 0 []
  | .depth mn mx => gc 10 a E0 E0 E0 E0 mn mx []
def vals : List ByteArray := [⟨#[97]⟩, ⟨#[98, 124, 99]⟩, ⟨#[46]⟩]
def At.Good : At → Prop
  | .val v _ => v ∈ vals
  | .same x => x = bword ∨ x = btag
  | .dist mn mx => -2 ≤ mn ∧ mn ≤ mx ∧ mx ≤ 5
  | .path l => l.length ≤ 2
  | .depth mn mx => 0 ≤ mn ∧ mn ≤ mx ∧ mx ≤ 3
  | _ => True

abbrev zeroG : List PV := [I 0, .str E0, .str E0, .str E0, .str E0, .str E0, .bool false, I 0, I 0, .nil, .nil]
abbrev pathG (A B : ByteArray) (v : PV) : List PV := [I 8, .str A, .str B, .str E0, .str E0, .str E0, .bool false, I 0, I 0, v, .nil]

@[simp] theorem upd_no (k : Nat) : upd (fun _ => (none : Option Blk)) k none = fun _ => none := by
  funext x; unfold upd; split <;> rfl

theorem path_loop {l : List Int} (hl : small l) (A B : ByteArray) : ∀ (n a : Nat) (args : List ByteArray), 1 ≤ args.length → args.length + n ≤ 2 →
    ∃ (a' : Nat) (args' : List ByteArray), 1 ≤ args'.length ∧ args'.length ≤ 2 ∧ evV prog ic11_0 ⟨tm [(0, .ptr 0 0), (6, .ptr 101 0), (11, .ptr 102 0), (12, I n)], hp [(0, some (.box (tape l a))), (101, some (.box zeroG)), (102, some (.box (pathG A B (.arr 103 args.length 0 args.length)))), (103, some (.arr 1 (args.map .str) false))]⟩
      = some (.exit 1, ⟨tm [(6, .ptr 101 0), (11, .ptr 102 0)], hp [(0, some (.box (tape l a'))), (101, some (.box zeroG)), (102, some (.box (pathG A B (.arr 103 args'.length 0 args'.length)))), (103, some (.arr 1 (args'.map .str) false))]⟩) := by
  intro n
  induction n with
  | zero =>
    intro a args h1 h2
    refine ⟨a, args, h1, by omega, ?_⟩
    rw [ic11_0_eq]
    simp [ic11_0_b, tape]
  | succ n ih =>
    intro a args h1 h2
    have hw : IntKind.i64.wrap (((n + 1 : Nat) : Int) - 1) = n := by rw [wrap64 (by omega) (by omega)]; omega
    have hw2 : IntKind.i64.wrap ((n : Nat) : Int) = n := wrap64 (by omega) (by omega)
    have hpos : (0 : Int) < ((n : Nat) : Int) + 1 := by omega
    have m1 : (args.length + 1) * 16 ≤ room := by unfold room; omega
    have m2 : args.length + 1 ≤ room := by unfold room; omega
    have k0 := next_nonneg l a 3
    have k1 := next_lt l a (n := 3) (by omega)
    have s0 := next_spec l a 3 hl (by omega)
    generalize next l a 3 = k at *
    generalize adv l a = a1 at *
    simp [tape] at s0
    rw [ic11_0_eq]
    have hk : k = 0 ∨ k = 1 ∨ k = 2 := by omega
    rcases hk with rfl | rfl | rfl

    · obtain ⟨a', args', j1, j2, j3⟩ := ih a1 (args ++ [⟨#[111, 98, 106]⟩]) (by simp) (by simp; omega)
      refine ⟨a', args', j1, j2, ?_⟩
      simp [tape] at j3
      simp [ic11_0_b, tape, hpos, hw, hw2, s0, m1, m2]
      simpa using j3
    · obtain ⟨a', args', j1, j2, j3⟩ := ih a1 (args ++ [⟨#[100, 101, 116]⟩]) (by simp) (by simp; omega)
      refine ⟨a', args', j1, j2, ?_⟩
      simp [tape] at j3
      simp [ic11_0_b, tape, hpos, hw, hw2, s0, m1, m2]
      simpa using j3
    · obtain ⟨a', args', j1, j2, j3⟩ := ih a1 (args ++ [⟨#[]⟩]) (by simp) (by simp; omega)
      refine ⟨a', args', j1, j2, ?_⟩
      simp [tape] at j3
      simp [ic11_0_b, tape, hpos, hw, hw2, s0, m1, m2]
      simpa using j3

theorem path_first {l : List Int} (hl : small l) (A B : ByteArray) (n a : Nat) (hn : n ≤ 2) :
    ∃ (a' : Nat) (st : St) (args' : List ByteArray), args'.length ≤ 2 ∧ evV prog ic11_0 ⟨tm [(0, .ptr 0 0), (6, .ptr 101 0), (11, .ptr 102 0), (12, I n)], hp [(0, some (.box (tape l a))), (101, some (.box zeroG)), (102, some (.box (pathG A B .nil)))]⟩
      = some (.exit 1, st) ∧ ((args' = [] ∧ st = ⟨tm [(6, .ptr 101 0), (11, .ptr 102 0)], hp [(0, some (.box (tape l a'))), (101, some (.box zeroG)), (102, some (.box (pathG A B .nil)))]⟩) ∨
        (1 ≤ args'.length ∧ st = ⟨tm [(6, .ptr 101 0), (11, .ptr 102 0)], hp [(0, some (.box (tape l a'))), (101, some (.box zeroG)), (102, some (.box (pathG A B (.arr 103 args'.length 0 args'.length)))), (103, some (.arr 1 (args'.map .str) false))]⟩)) := by
  cases n with
  | zero =>
    refine ⟨a, _, [], by simp, ?_, .inl ⟨rfl, rfl⟩⟩
    rw [ic11_0_eq]
    simp [ic11_0_b, tape]
  | succ n =>
    have hw : IntKind.i64.wrap (((n + 1 : Nat) : Int) - 1) = n := by rw [wrap64 (by omega) (by omega)]; omega
    have hw2 : IntKind.i64.wrap ((n : Nat) : Int) = n := wrap64 (by omega) (by omega)
    have hpos : (0 : Int) < ((n : Nat) : Int) + 1 := by omega
    have m1 : 1 * 16 ≤ room := by unfold room; omega
    have m2 : 1 ≤ room := by unfold room; omega
    have m3 : 16 ≤ room := by unfold room; omega
    have k0 := next_nonneg l a 3
    have k1 := next_lt l a (n := 3) (by omega)
    have s0 := next_spec l a 3 hl (by omega)
    generalize next l a 3 = k at *
    generalize adv l a = a1 at *
    simp [tape] at s0
    rw [ic11_0_eq]
    have hk : k = 0 ∨ k = 1 ∨ k = 2 := by omega
    rcases hk with rfl | rfl | rfl

    · obtain ⟨a', args', j1, j2, j3⟩ := path_loop hl A B n a1 [⟨#[111, 98, 106]⟩] (by simp) (by simp; omega)
      refine ⟨a', _, args', j2, ?_, .inr ⟨j1, rfl⟩⟩
      simp [tape] at j3
      simp [ic11_0_b, tape, hpos, hw, hw2, s0, m1, m2, m3]
      simpa using j3
    · obtain ⟨a', args', j1, j2, j3⟩ := path_loop hl A B n a1 [⟨#[100, 101, 116]⟩] (by simp) (by simp; omega)
      refine ⟨a', _, args', j2, ?_, .inr ⟨j1, rfl⟩⟩
      simp [tape] at j3
      simp [ic11_0_b, tape, hpos, hw, hw2, s0, m1, m2, m3]
      simpa using j3
    · obtain ⟨a', args', j1, j2, j3⟩ := path_loop hl A B n a1 [⟨#[]⟩] (by simp) (by simp; omega)
      refine ⟨a', _, args', j2, ?_, .inr ⟨j1, rfl⟩⟩
      simp [tape] at j3
      simp [ic11_0_b, tape, hpos, hw, hw2, s0, m1, m2, m3]
      simpa using j3

theorem con_0 {l : List Int} (hl : small l) (a a1 a2 a3 : Nat) {D k : Int} {L : List ByteArray} (hL : L.length ≤ 10) {i1 i2 : Nat} {A B : ByteArray} (s0 : callV prog 26 [.boxed (tape l a), I 13] = some (I k, [tape l a1]))
    (h1 : i1 < L.length) (hA : L[i1] = A) (s1 : callV prog 26 [.boxed (tape l a1), I L.length] = some (I i1, [tape l a2]))
    (h2 : i2 < L.length) (hB : L[i2] = B) (s2 : callV prog 26 [.boxed (tape l a2), I L.length] = some (I i2, [tape l a3])) (hj : (D < 1 ∧ k.tmod 10 = 0) ∨ (¬ D < 1 ∧ k = 0)) :
    ∃ (a' : Nat) (x : At), x.Good ∧ callV prog 11 [.boxed (tape l a), I D, .list (L.map .str)] = some (.agg (x.cells A B), [tape l a']) := by
  rcases hj with ⟨hD, hk⟩ | ⟨hD, hk⟩
  · refine ⟨a3, .bnd, trivial, callV_fn (body := ic11) rfl rfl ?_⟩
    simp [tape] at s0 s1 s2
    simp [ic11, tape, s0, s1, s2, hD, hk, h1, h2, hA, hB, At.cells, gc]
  · refine ⟨a3, .bnd, trivial, callV_fn (body := ic11) rfl rfl ?_⟩
    simp [tape] at s0 s1 s2
    simp [ic11, tape, s0, s1, s2, hD, hk, h1, h2, hA, hB, At.cells, gc]

theorem con_1 {l : List Int} (hl : small l) (a a1 a2 a3 : Nat) {D k : Int} {L : List ByteArray} (hL : L.length ≤ 10) {i1 i2 : Nat} {A B : ByteArray} (s0 : callV prog 26 [.boxed (tape l a), I 13] = some (I k, [tape l a1]))
    (h1 : i1 < L.length) (hA : L[i1] = A) (s1 : callV prog 26 [.boxed (tape l a1), I L.length] = some (I i1, [tape l a2]))
    (h2 : i2 < L.length) (hB : L[i2] = B) (s2 : callV prog 26 [.boxed (tape l a2), I L.length] = some (I i2, [tape l a3])) (hj : (D < 1 ∧ k.tmod 10 = 1) ∨ (¬ D < 1 ∧ k = 1)) :
    ∃ (a' : Nat) (x : At), x.Good ∧ callV prog 11 [.boxed (tape l a), I D, .list (L.map .str)] = some (.agg (x.cells A B), [tape l a']) := by
  have u0 := next_nonneg l a3 3
  have u1 := next_lt l a3 (n := 3) (by omega)
  have u := next_spec l a3 3 hl (by omega)
  generalize next l a3 3 = ur at *
  generalize adv l a3 = a4 at *
  have v0 := next_nonneg l a4 3
  have v1 := next_lt l a4 (n := 3) (by omega)
  have v := next_spec l a4 3 hl (by omega)
  generalize next l a4 3 = vr at *
  generalize adv l a4 = a5 at *
  have hur : ur = 0 ∨ ur = 1 ∨ ur = 2 := by omega
  rcases hj with ⟨hD, hk⟩ | ⟨hD, hk⟩
  · rcases hur with rfl | rfl | rfl
    · refine ⟨a5, .val ⟨#[97]⟩ (decide (vr = 2)), by simp [At.Good, vals], callV_fn (body := ic11) rfl rfl ?_⟩
      simp [tape] at s0 s1 s2 u v
      simp [ic11, tape, s0, s1, s2, hD, hk, h1, h2, hA, hB, At.cells, gc, u, v]
    · refine ⟨a5, .val ⟨#[98, 124, 99]⟩ (decide (vr = 2)), by simp [At.Good, vals], callV_fn (body := ic11) rfl rfl ?_⟩
      simp [tape] at s0 s1 s2 u v
      simp [ic11, tape, s0, s1, s2, hD, hk, h1, h2, hA, hB, At.cells, gc, u, v]
    · refine ⟨a5, .val ⟨#[46]⟩ (decide (vr = 2)), by simp [At.Good, vals], callV_fn (body := ic11) rfl rfl ?_⟩
      simp [tape] at s0 s1 s2 u v
      simp [ic11, tape, s0, s1, s2, hD, hk, h1, h2, hA, hB, At.cells, gc, u, v]
  · rcases hur with rfl | rfl | rfl
    · refine ⟨a5, .val ⟨#[97]⟩ (decide (vr = 2)), by simp [At.Good, vals], callV_fn (body := ic11) rfl rfl ?_⟩
      simp [tape] at s0 s1 s2 u v
      simp [ic11, tape, s0, s1, s2, hD, hk, h1, h2, hA, hB, At.cells, gc, u, v]
    · refine ⟨a5, .val ⟨#[98, 124, 99]⟩ (decide (vr = 2)), by simp [At.Good, vals], callV_fn (body := ic11) rfl rfl ?_⟩
      simp [tape] at s0 s1 s2 u v
      simp [ic11, tape, s0, s1, s2, hD, hk, h1, h2, hA, hB, At.cells, gc, u, v]
    · refine ⟨a5, .val ⟨#[46]⟩ (decide (vr = 2)), by simp [At.Good, vals], callV_fn (body := ic11) rfl rfl ?_⟩
      simp [tape] at s0 s1 s2 u v
      simp [ic11, tape, s0, s1, s2, hD, hk, h1, h2, hA, hB, At.cells, gc, u, v]

theorem con_2 {l : List Int} (hl : small l) (a a1 a2 a3 : Nat) {D k : Int} {L : List ByteArray} (hL : L.length ≤ 10) {i1 i2 : Nat} {A B : ByteArray} (s0 : callV prog 26 [.boxed (tape l a), I 13] = some (I k, [tape l a1]))
    (h1 : i1 < L.length) (hA : L[i1] = A) (s1 : callV prog 26 [.boxed (tape l a1), I L.length] = some (I i1, [tape l a2]))
    (h2 : i2 < L.length) (hB : L[i2] = B) (s2 : callV prog 26 [.boxed (tape l a2), I L.length] = some (I i2, [tape l a3])) (hj : (D < 1 ∧ k.tmod 10 = 2) ∨ (¬ D < 1 ∧ k = 2)) :
    ∃ (a' : Nat) (x : At), x.Good ∧ callV prog 11 [.boxed (tape l a), I D, .list (L.map .str)] = some (.agg (x.cells A B), [tape l a']) := by
  have u0 := next_nonneg l a3 2
  have u1 := next_lt l a3 (n := 2) (by omega)
  have u := next_spec l a3 2 hl (by omega)
  generalize next l a3 2 = ur at *
  generalize adv l a3 = a4 at *
  have hur : ur = 0 ∨ ur = 1 := by omega
  rcases hj with ⟨hD, hk⟩ | ⟨hD, hk⟩
  · rcases hur with rfl | rfl
    · refine ⟨a4, .same bword, by simp [At.Good], callV_fn (body := ic11) rfl rfl ?_⟩
      simp [tape] at s0 s1 s2 u
      simp [ic11, tape, s0, s1, s2, hD, hk, h1, h2, hA, hB, At.cells, gc, u]
    · refine ⟨a4, .same btag, by simp [At.Good], callV_fn (body := ic11) rfl rfl ?_⟩
      simp [tape] at s0 s1 s2 u
      simp [ic11, tape, s0, s1, s2, hD, hk, h1, h2, hA, hB, At.cells, gc, u]
  · rcases hur with rfl | rfl
    · refine ⟨a4, .same bword, by simp [At.Good], callV_fn (body := ic11) rfl rfl ?_⟩
      simp [tape] at s0 s1 s2 u
      simp [ic11, tape, s0, s1, s2, hD, hk, h1, h2, hA, hB, At.cells, gc, u]
    · refine ⟨a4, .same btag, by simp [At.Good], callV_fn (body := ic11) rfl rfl ?_⟩
      simp [tape] at s0 s1 s2 u
      simp [ic11, tape, s0, s1, s2, hD, hk, h1, h2, hA, hB, At.cells, gc, u]

theorem con_3 {l : List Int} (hl : small l) (a a1 a2 a3 : Nat) {D k : Int} {L : List ByteArray} (hL : L.length ≤ 10) {i1 i2 : Nat} {A B : ByteArray} (s0 : callV prog 26 [.boxed (tape l a), I 13] = some (I k, [tape l a1]))
    (h1 : i1 < L.length) (hA : L[i1] = A) (s1 : callV prog 26 [.boxed (tape l a1), I L.length] = some (I i1, [tape l a2]))
    (h2 : i2 < L.length) (hB : L[i2] = B) (s2 : callV prog 26 [.boxed (tape l a2), I L.length] = some (I i2, [tape l a3])) (hj : (D < 1 ∧ k.tmod 10 = 3) ∨ (¬ D < 1 ∧ k = 3)) :
    ∃ (a' : Nat) (x : At), x.Good ∧ callV prog 11 [.boxed (tape l a), I D, .list (L.map .str)] = some (.agg (x.cells A B), [tape l a']) := by
  have u0 := next_nonneg l a3 5
  have u1 := next_lt l a3 (n := 5) (by omega)
  have u := next_spec l a3 5 hl (by omega)
  generalize next l a3 5 = ur at *
  generalize adv l a3 = a4 at *
  have v0 := next_nonneg l a4 4
  have v1 := next_lt l a4 (n := 4) (by omega)
  have v := next_spec l a4 4 hl (by omega)
  generalize next l a4 4 = vr at *
  generalize adv l a4 = a5 at *
  have w1 : IntKind.i64.wrap (ur - 2) = ur - 2 := wrap64 (by omega) (by omega)
  have w2 : IntKind.i64.wrap (ur - 2 + vr) = ur - 2 + vr := wrap64 (by omega) (by omega)
  rcases hj with ⟨hD, hk⟩ | ⟨hD, hk⟩
  · refine ⟨a5, .dist (ur - 2) (ur - 2 + vr), by simp [At.Good]; omega, callV_fn (body := ic11) rfl rfl ?_⟩
    simp [tape] at s0 s1 s2 u v
    simp [ic11, tape, s0, s1, s2, hD, hk, h1, h2, hA, hB, At.cells, gc, u, v, w1, w2]
  · refine ⟨a5, .dist (ur - 2) (ur - 2 + vr), by simp [At.Good]; omega, callV_fn (body := ic11) rfl rfl ?_⟩
    simp [tape] at s0 s1 s2 u v
    simp [ic11, tape, s0, s1, s2, hD, hk, h1, h2, hA, hB, At.cells, gc, u, v, w1, w2]

theorem con_4 {l : List Int} (hl : small l) (a a1 a2 a3 : Nat) {D k : Int} {L : List ByteArray} (hL : L.length ≤ 10) {i1 i2 : Nat} {A B : ByteArray} (s0 : callV prog 26 [.boxed (tape l a), I 13] = some (I k, [tape l a1]))
    (h1 : i1 < L.length) (hA : L[i1] = A) (s1 : callV prog 26 [.boxed (tape l a1), I L.length] = some (I i1, [tape l a2]))
    (h2 : i2 < L.length) (hB : L[i2] = B) (s2 : callV prog 26 [.boxed (tape l a2), I L.length] = some (I i2, [tape l a3])) (hj : (D < 1 ∧ k.tmod 10 = 4) ∨ (¬ D < 1 ∧ k = 4)) :
    ∃ (a' : Nat) (x : At), x.Good ∧ callV prog 11 [.boxed (tape l a), I D, .list (L.map .str)] = some (.agg (x.cells A B), [tape l a']) := by
  have u0 := next_nonneg l a3 3
  have u1 := next_lt l a3 (n := 3) (by omega)
  have u := next_spec l a3 3 hl (by omega)
  generalize next l a3 3 = ur at *
  generalize adv l a3 = a4 at *
  obtain ⟨ty, tym, tyc⟩ := type_ex u0 u1
  rcases hj with ⟨hD, hk⟩ | ⟨hD, hk⟩
  · refine ⟨a4, .region ty, trivial, callV_fn (body := ic11) rfl rfl ?_⟩
    simp [tape] at s0 s1 s2 u
    simp [ic11, tape, s0, s1, s2, hD, hk, h1, h2, hA, hB, At.cells, gc, u, tyc]
  · refine ⟨a4, .region ty, trivial, callV_fn (body := ic11) rfl rfl ?_⟩
    simp [tape] at s0 s1 s2 u
    simp [ic11, tape, s0, s1, s2, hD, hk, h1, h2, hA, hB, At.cells, gc, u, tyc]

theorem con_5 {l : List Int} (hl : small l) (a a1 a2 a3 : Nat) {D k : Int} {L : List ByteArray} (hL : L.length ≤ 10) {i1 i2 : Nat} {A B : ByteArray} (s0 : callV prog 26 [.boxed (tape l a), I 13] = some (I k, [tape l a1]))
    (h1 : i1 < L.length) (hA : L[i1] = A) (s1 : callV prog 26 [.boxed (tape l a1), I L.length] = some (I i1, [tape l a2]))
    (h2 : i2 < L.length) (hB : L[i2] = B) (s2 : callV prog 26 [.boxed (tape l a2), I L.length] = some (I i2, [tape l a3])) (hj : (D < 1 ∧ k.tmod 10 = 5) ∨ (¬ D < 1 ∧ k = 5)) :
    ∃ (a' : Nat) (x : At), x.Good ∧ callV prog 11 [.boxed (tape l a), I D, .list (L.map .str)] = some (.agg (x.cells A B), [tape l a']) := by
  rcases hj with ⟨hD, hk⟩ | ⟨hD, hk⟩
  · refine ⟨a3, .head, trivial, callV_fn (body := ic11) rfl rfl ?_⟩
    simp [tape] at s0 s1 s2
    simp [ic11, tape, s0, s1, s2, hD, hk, h1, h2, hA, hB, At.cells, gc]
  · refine ⟨a3, .head, trivial, callV_fn (body := ic11) rfl rfl ?_⟩
    simp [tape] at s0 s1 s2
    simp [ic11, tape, s0, s1, s2, hD, hk, h1, h2, hA, hB, At.cells, gc]

theorem con_6 {l : List Int} (hl : small l) (a a1 a2 a3 : Nat) {D k : Int} {L : List ByteArray} (hL : L.length ≤ 10) {i1 i2 : Nat} {A B : ByteArray} (s0 : callV prog 26 [.boxed (tape l a), I 13] = some (I k, [tape l a1]))
    (h1 : i1 < L.length) (hA : L[i1] = A) (s1 : callV prog 26 [.boxed (tape l a1), I L.length] = some (I i1, [tape l a2]))
    (h2 : i2 < L.length) (hB : L[i2] = B) (s2 : callV prog 26 [.boxed (tape l a2), I L.length] = some (I i2, [tape l a3])) (hj : (D < 1 ∧ k.tmod 10 = 6) ∨ (¬ D < 1 ∧ k = 6)) :
    ∃ (a' : Nat) (x : At), x.Good ∧ callV prog 11 [.boxed (tape l a), I D, .list (L.map .str)] = some (.agg (x.cells A B), [tape l a']) := by
  rcases hj with ⟨hD, hk⟩ | ⟨hD, hk⟩
  · refine ⟨a3, .anc, trivial, callV_fn (body := ic11) rfl rfl ?_⟩
    simp [tape] at s0 s1 s2
    simp [ic11, tape, s0, s1, s2, hD, hk, h1, h2, hA, hB, At.cells, gc]
  · refine ⟨a3, .anc, trivial, callV_fn (body := ic11) rfl rfl ?_⟩
    simp [tape] at s0 s1 s2
    simp [ic11, tape, s0, s1, s2, hD, hk, h1, h2, hA, hB, At.cells, gc]

theorem con_7 {l : List Int} (hl : small l) (a a1 a2 a3 : Nat) {D k : Int} {L : List ByteArray} (hL : L.length ≤ 10) {i1 i2 : Nat} {A B : ByteArray} (s0 : callV prog 26 [.boxed (tape l a), I 13] = some (I k, [tape l a1]))
    (h1 : i1 < L.length) (hA : L[i1] = A) (s1 : callV prog 26 [.boxed (tape l a1), I L.length] = some (I i1, [tape l a2]))
    (h2 : i2 < L.length) (hB : L[i2] = B) (s2 : callV prog 26 [.boxed (tape l a2), I L.length] = some (I i2, [tape l a3])) (hj : (D < 1 ∧ k.tmod 10 = 7) ∨ (¬ D < 1 ∧ k = 7)) :
    ∃ (a' : Nat) (x : At), x.Good ∧ callV prog 11 [.boxed (tape l a), I D, .list (L.map .str)] = some (.agg (x.cells A B), [tape l a']) := by
  have u0 := next_nonneg l a3 3
  have u1 := next_lt l a3 (n := 3) (by omega)
  have u := next_spec l a3 3 hl (by omega)
  generalize next l a3 3 = ur at *
  generalize adv l a3 = a4 at *
  obtain ⟨n, hn⟩ := Int.eq_ofNat_of_zero_le u0
  subst hn
  obtain ⟨a', st, args, p1, p2, p3⟩ := path_first hl A B n a4 (by omega)
  rcases hj with ⟨hD, hk⟩ | ⟨hD, hk⟩
  · rcases p3 with ⟨p3, p4⟩ | ⟨p3, p4⟩
    · subst p3 p4
      refine ⟨a', .path [], by simp [At.Good], callV_fn (body := ic11) rfl rfl ?_⟩
      simp [tape] at s0 s1 s2 u p2
      simp [ic11, tape, s0, s1, s2, hD, hk, h1, h2, hA, hB, At.cells, gc, u, p2]
    · subst p4
      refine ⟨a', .path args, p1, callV_fn (body := ic11) rfl rfl ?_⟩
      simp [tape] at s0 s1 s2 u p2
      simp [ic11, tape, s0, s1, s2, hD, hk, h1, h2, hA, hB, At.cells, gc, u, p2]
  · rcases p3 with ⟨p3, p4⟩ | ⟨p3, p4⟩
    · subst p3 p4
      refine ⟨a', .path [], by simp [At.Good], callV_fn (body := ic11) rfl rfl ?_⟩
      simp [tape] at s0 s1 s2 u p2
      simp [ic11, tape, s0, s1, s2, hD, hk, h1, h2, hA, hB, At.cells, gc, u, p2]
    · subst p4
      refine ⟨a', .path args, p1, callV_fn (body := ic11) rfl rfl ?_⟩
      simp [tape] at s0 s1 s2 u p2
      simp [ic11, tape, s0, s1, s2, hD, hk, h1, h2, hA, hB, At.cells, gc, u, p2]

theorem con_8 {l : List Int} (hl : small l) (a a1 a2 a3 : Nat) {D k : Int} {L : List ByteArray} (hL : L.length ≤ 10) {i1 i2 : Nat} {A B : ByteArray} (s0 : callV prog 26 [.boxed (tape l a), I 13] = some (I k, [tape l a1]))
    (h1 : i1 < L.length) (hA : L[i1] = A) (s1 : callV prog 26 [.boxed (tape l a1), I L.length] = some (I i1, [tape l a2]))
    (h2 : i2 < L.length) (hB : L[i2] = B) (s2 : callV prog 26 [.boxed (tape l a2), I L.length] = some (I i2, [tape l a3])) (hj : (D < 1 ∧ k.tmod 10 = 8) ∨ (¬ D < 1 ∧ k = 8)) :
    ∃ (a' : Nat) (x : At), x.Good ∧ callV prog 11 [.boxed (tape l a), I D, .list (L.map .str)] = some (.agg (x.cells A B), [tape l a']) := by
  have u0 := next_nonneg l a3 3
  have u1 := next_lt l a3 (n := 3) (by omega)
  have u := next_spec l a3 3 hl (by omega)
  generalize next l a3 3 = ur at *
  generalize adv l a3 = a4 at *
  have hur : ur = 0 ∨ ur = 1 ∨ ur = 2 := by omega
  rcases hj with ⟨hD, hk⟩ | ⟨hD, hk⟩
  · rcases hur with rfl | rfl | rfl
    · refine ⟨a4, .node ⟨#[83]⟩, trivial, callV_fn (body := ic11) rfl rfl ?_⟩
      simp [tape] at s0 s1 s2 u
      simp [ic11, tape, s0, s1, s2, hD, hk, h1, h2, hA, hB, At.cells, gc, u]
    · refine ⟨a4, .node ⟨#[78, 80]⟩, trivial, callV_fn (body := ic11) rfl rfl ?_⟩
      simp [tape] at s0 s1 s2 u
      simp [ic11, tape, s0, s1, s2, hD, hk, h1, h2, hA, hB, At.cells, gc, u]
    · refine ⟨a4, .node ⟨#[86, 80]⟩, trivial, callV_fn (body := ic11) rfl rfl ?_⟩
      simp [tape] at s0 s1 s2 u
      simp [ic11, tape, s0, s1, s2, hD, hk, h1, h2, hA, hB, At.cells, gc, u]
  · rcases hur with rfl | rfl | rfl
    · refine ⟨a4, .node ⟨#[83]⟩, trivial, callV_fn (body := ic11) rfl rfl ?_⟩
      simp [tape] at s0 s1 s2 u
      simp [ic11, tape, s0, s1, s2, hD, hk, h1, h2, hA, hB, At.cells, gc, u]
    · refine ⟨a4, .node ⟨#[78, 80]⟩, trivial, callV_fn (body := ic11) rfl rfl ?_⟩
      simp [tape] at s0 s1 s2 u
      simp [ic11, tape, s0, s1, s2, hD, hk, h1, h2, hA, hB, At.cells, gc, u]
    · refine ⟨a4, .node ⟨#[86, 80]⟩, trivial, callV_fn (body := ic11) rfl rfl ?_⟩
      simp [tape] at s0 s1 s2 u
      simp [ic11, tape, s0, s1, s2, hD, hk, h1, h2, hA, hB, At.cells, gc, u]

theorem con_9 {l : List Int} (hl : small l) (a a1 a2 a3 : Nat) {D k : Int} {L : List ByteArray} (hL : L.length ≤ 10) {i1 i2 : Nat} {A B : ByteArray} (s0 : callV prog 26 [.boxed (tape l a), I 13] = some (I k, [tape l a1]))
    (h1 : i1 < L.length) (hA : L[i1] = A) (s1 : callV prog 26 [.boxed (tape l a1), I L.length] = some (I i1, [tape l a2]))
    (h2 : i2 < L.length) (hB : L[i2] = B) (s2 : callV prog 26 [.boxed (tape l a2), I L.length] = some (I i2, [tape l a3])) (hj : (D < 1 ∧ k.tmod 10 = 9) ∨ (¬ D < 1 ∧ k = 9)) :
    ∃ (a' : Nat) (x : At), x.Good ∧ callV prog 11 [.boxed (tape l a), I D, .list (L.map .str)] = some (.agg (x.cells A B), [tape l a']) := by
  have u0 := next_nonneg l a3 3
  have u1 := next_lt l a3 (n := 3) (by omega)
  have u := next_spec l a3 3 hl (by omega)
  generalize next l a3 3 = ur at *
  generalize adv l a3 = a4 at *
  have v0 := next_nonneg l a4 2
  have v1 := next_lt l a4 (n := 2) (by omega)
  have v := next_spec l a4 2 hl (by omega)
  generalize next l a4 2 = vr at *
  generalize adv l a4 = a5 at *
  have w2 : IntKind.i64.wrap (ur + vr) = ur + vr := wrap64 (by omega) (by omega)
  rcases hj with ⟨hD, hk⟩ | ⟨hD, hk⟩
  · refine ⟨a5, .depth ur (ur + vr), by simp [At.Good]; omega, callV_fn (body := ic11) rfl rfl ?_⟩
    simp [tape] at s0 s1 s2 u v
    simp [ic11, tape, s0, s1, s2, hD, hk, h1, h2, hA, hB, At.cells, gc, u, v, w2]
  · refine ⟨a5, .depth ur (ur + vr), by simp [At.Good]; omega, callV_fn (body := ic11) rfl rfl ?_⟩
    simp [tape] at s0 s1 s2 u v
    simp [ic11, tape, s0, s1, s2, hD, hk, h1, h2, hA, hB, At.cells, gc, u, v, w2]

/-- What the start of a deal draws: the kind and the two labels. -/
theorem con_atom {l : List Int} (hl : small l) (a a1 a2 a3 : Nat) {D k : Int} {L : List ByteArray} (hL : L.length ≤ 10) {i1 i2 : Nat} {A B : ByteArray} (s0 : callV prog 26 [.boxed (tape l a), I 13] = some (I k, [tape l a1]))
    (h1 : i1 < L.length) (hA : L[i1] = A) (s1 : callV prog 26 [.boxed (tape l a1), I L.length] = some (I i1, [tape l a2]))
    (h2 : i2 < L.length) (hB : L[i2] = B) (s2 : callV prog 26 [.boxed (tape l a2), I L.length] = some (I i2, [tape l a3])) {j : Int} (hj : (D < 1 ∧ k.tmod 10 = j) ∨ (¬ D < 1 ∧ k = j)) (j0 : 0 ≤ j) (j1 : j ≤ 9) :
    ∃ (a' : Nat) (x : At), x.Good ∧ callV prog 11 [.boxed (tape l a), I D, .list (L.map .str)] = some (.agg (x.cells A B), [tape l a']) := by
  have hc : j = 0 ∨ j = 1 ∨ j = 2 ∨ j = 3 ∨ j = 4 ∨ j = 5 ∨ j = 6 ∨ j = 7 ∨ j = 8 ∨ j = 9 := by omega
  rcases hc with rfl | rfl | rfl | rfl | rfl | rfl | rfl | rfl | rfl | rfl
  · exact con_0 hl a a1 a2 a3 hL s0 h1 hA s1 h2 hB s2 hj
  · exact con_1 hl a a1 a2 a3 hL s0 h1 hA s1 h2 hB s2 hj
  · exact con_2 hl a a1 a2 a3 hL s0 h1 hA s1 h2 hB s2 hj
  · exact con_3 hl a a1 a2 a3 hL s0 h1 hA s1 h2 hB s2 hj
  · exact con_4 hl a a1 a2 a3 hL s0 h1 hA s1 h2 hB s2 hj
  · exact con_5 hl a a1 a2 a3 hL s0 h1 hA s1 h2 hB s2 hj
  · exact con_6 hl a a1 a2 a3 hL s0 h1 hA s1 h2 hB s2 hj
  · exact con_7 hl a a1 a2 a3 hL s0 h1 hA s1 h2 hB s2 hj
  · exact con_8 hl a a1 a2 a3 hL s0 h1 hA s1 h2 hB s2 hj
  · exact con_9 hl a a1 a2 a3 hL s0 h1 hA s1 h2 hB s2 hj

theorem atom_spec {l : List Int} (hl : small l) (a : Nat) {D : Int} (hD : D < 1) {L : List ByteArray} (hL0 : 1 ≤ L.length) (hL : L.length ≤ 10) :
    ∃ (a' : Nat) (x : At) (A B : ByteArray), A ∈ L ∧ B ∈ L ∧ x.Good ∧ callV prog 11 [.boxed (tape l a), I D, .list (L.map .str)] = some (.agg (x.cells A B), [tape l a']) := by
  have b0 := next_nonneg l a 13
  have b1 := next_lt l a (n := 13) (by omega)
  have s0 := next_spec l a 13 hl (by omega)
  generalize next l a 13 = k at *
  generalize adv l a = a1 at *
  have c0 := next_nonneg l a1 L.length
  have c1 := next_lt l a1 (n := L.length) (by omega)
  have s1 := next_spec l a1 L.length hl (by omega)
  generalize next l a1 L.length = x1 at *
  generalize adv l a1 = a2 at *
  have d0 := next_nonneg l a2 L.length
  have d1 := next_lt l a2 (n := L.length) (by omega)
  have s2 := next_spec l a2 L.length hl (by omega)
  generalize next l a2 L.length = x2 at *
  generalize adv l a2 = a3 at *
  obtain ⟨i1, rfl⟩ := Int.eq_ofNat_of_zero_le c0
  obtain ⟨i2, rfl⟩ := Int.eq_ofNat_of_zero_le d0
  have h1 : i1 < L.length := by omega
  have h2 : i2 < L.length := by omega
  have hk : k.tmod 10 = k % 10 := Int.tmod_eq_emod_of_nonneg b0
  obtain ⟨a', x, g, e⟩ := con_atom hl a a1 a2 a3 (D := D) hL s0 h1 rfl s1 h2 rfl s2 (.inl ⟨hD, hk⟩) (by omega) (by omega)
  exact ⟨a', x, _, _, List.getElem_mem _, List.getElem_mem _, g, e⟩

end Go.Ab.Prog

/- Part GlobG. -/
namespace Go.Ab.Prog
open Go Go.Ab
set_option linter.unusedSimpArgs false
set_option linter.unusedVariables false
set_option maxHeartbeats 16000000

theorem atom_bnd (a b : ByteArray) : callV prog 60 [.agg (At.bnd.cells a b)] = some (.bool true, []) := by
  refine callV_fn (body := ic60) rfl rfl ?_
  simp [ic60, gc, At.cells]

theorem sound_bnd (a b : ByteArray) : callV prog 29 [.agg (At.bnd.cells a b)] = some (.bool true, []) := by
  have h1 : callV prog 57 [.agg (At.bnd.cells a b)] = some (.bool false, []) := none_spec (op := 1) (by decide) a E0 E0 E0 E0 0 0 []
  have h2 : callV prog 58 [.agg (At.bnd.cells a b), I 0, I 1] = some (.tuple [I 1, I 1], []) := measure_spec 1 a E0 E0 E0 E0 0 0 []
  have h3 := atom_bnd a b
  have h4 : callV prog 59 [.agg (At.bnd.cells a b), .fn 60] = some (.bool true, []) := by
    refine callV_fn (body := ic59) rfl rfl ?_
    have h5 := kids63
    simp [gc, At.cells] at h3 h5
    simp [ic59, gc, At.cells, h3, h5]
  refine callV_fn (body := ic29) rfl rfl ?_
  simp [gc, At.cells] at h1 h2 h4
  simp [ic29, gc, At.cells, h1, h2, h4]

theorem atom_region (a b nm : ByteArray) : callV prog 60 [.agg ((At.region nm).cells a b)] = some (.bool true, []) := by
  refine callV_fn (body := ic60) rfl rfl ?_
  simp [ic60, gc, At.cells]

theorem sound_region (a b nm : ByteArray) : callV prog 29 [.agg ((At.region nm).cells a b)] = some (.bool true, []) := by
  have h1 : callV prog 57 [.agg ((At.region nm).cells a b)] = some (.bool false, []) := none_spec (op := 5) (by decide) a b nm E0 E0 0 0 []
  have h2 : callV prog 58 [.agg ((At.region nm).cells a b), I 0, I 1] = some (.tuple [I 1, I 1], []) := measure_spec 5 a b nm E0 E0 0 0 []
  have h3 := atom_region a b nm
  have h4 : callV prog 59 [.agg ((At.region nm).cells a b), .fn 60] = some (.bool true, []) := by
    refine callV_fn (body := ic59) rfl rfl ?_
    have h5 := kids63
    simp [gc, At.cells] at h3 h5
    simp [ic59, gc, At.cells, h3, h5]
  refine callV_fn (body := ic29) rfl rfl ?_
  simp [gc, At.cells] at h1 h2 h4
  simp [ic29, gc, At.cells, h1, h2, h4]

theorem atom_val (a b v : ByteArray) (f : Bool) : callV prog 60 [.agg ((At.val v f).cells a b)] = some (.bool true, []) := by
  cases f
  · refine callV_fn (body := ic60) rfl rfl ?_
    simp [ic60, gc, At.cells]
  · refine callV_fn (body := ic60) rfl rfl ?_
    simp [ic60, gc, At.cells]

theorem sound_val (a b v : ByteArray) (f : Bool) : callV prog 29 [.agg ((At.val v f).cells a b)] = some (.bool true, []) := by
  have h1 : callV prog 57 [.agg ((At.val v f).cells a b)] = some (.bool false, []) := by
    refine callV_fn (body := ic57) rfl rfl ?_
    simp [ic57, At.cells]
  have h2 : callV prog 58 [.agg ((At.val v f).cells a b), I 0, I 1] = some (.tuple [I 1, I 1], []) := by
    refine callV_fn (body := ic58) rfl rfl ?_
    have hw : IntKind.i64.wrap 1 = 1 := by decide
    simp [ic58, At.cells, hw, ic58_0_eq, ic58_0_b]
  have h3 := atom_val a b v f
  have h4 : callV prog 59 [.agg ((At.val v f).cells a b), .fn 60] = some (.bool true, []) := by
    refine callV_fn (body := ic59) rfl rfl ?_
    have h5 := kids63
    simp [gc, At.cells] at h3 h5
    simp [ic59, gc, At.cells, h3, h5]
  refine callV_fn (body := ic29) rfl rfl ?_
  simp [gc, At.cells] at h1 h2 h4
  simp [ic29, gc, At.cells, h1, h2, h4]

theorem sound_at (a b : ByteArray) (x : At) : callV prog 29 [.agg (x.cells a b)] = some (.bool true, []) := by
  cases x with
  | bnd => exact sound_bnd a b
  | val v f => exact sound_val a b v f
  | same x => exact sound_same a b bword x
  | dist mn mx => exact sound_dist a b mn mx
  | region nm => exact sound_region a b nm
  | head => exact sound_head a b
  | anc => exact sound_anc a b
  | path l => exact sound_path a b l
  | node nm => exact sound_node a b nm
  | depth mn mx => exact sound_depth a mn mx

theorem error_spec {v : ByteArray} (h : v ∈ vals) : callV prog 62 [.str v] = some (I 0, []) := by
  simp only [vals, List.mem_cons, List.not_mem_nil, or_false] at h
  rcases h with rfl | rfl | rfl
  · exact callV_iff.2 ⟨60, by kernel_rfl⟩
  · exact callV_iff.2 ⟨60, by kernel_rfl⟩
  · exact callV_iff.2 ⟨60, by kernel_rfl⟩

theorem known_val (c : Corp) {v : ByteArray} (h : v ∈ vals) (a b : ByteArray) (f : Bool) : callV prog 30 [.agg c.cells, .agg ((At.val v f).cells a b)] = some (.bool true, []) := by
  have hk := kids63 64 [] [.rptr c.cells]
  have he := error_spec h
  have hx := attr_word
  refine callV_fn (body := ic30) rfl rfl ?_
  simp [Corp.cells] at hk
  simp [ic30, At.cells, Corp.cells, hk, hx, he]

theorem known_at (c : Corp) (a b : ByteArray) {x : At} (h : x.Good) : callV prog 30 [.agg c.cells, .agg (x.cells a b)] = some (.bool true, []) := by
  cases x with
  | bnd => exact gknown_spec c (by decide) (by decide) _ _ _ _ _ _ _ _
  | val v f => exact known_val c h a b f
  | same x =>
    rcases h with rfl | rfl
    · exact known_same attr_word attr_word c a b
    · exact known_same attr_word attr_tag c a b
  | dist mn mx => exact gknown_spec c (by decide) (by decide) _ _ _ _ _ _ _ _
  | region nm => exact gknown_spec c (by decide) (by decide) _ _ _ _ _ _ _ _
  | head => exact gknown_spec c (by decide) (by decide) _ _ _ _ _ _ _ _
  | anc => exact gknown_spec c (by decide) (by decide) _ _ _ _ _ _ _ _
  | path l => exact gknown_spec c (by decide) (by decide) _ _ _ _ _ _ _ _
  | node nm => exact gknown_spec c (by decide) (by decide) _ _ _ _ _ _ _ _
  | depth mn mx => exact gknown_spec c (by decide) (by decide) _ _ _ _ _ _ _ _

theorem holds1_at (c : Corp) (A B : ByteArray) (x : At) (b e p q : Int) {k : Int} (tu : Bound A b e p q k) (hk : k < 0) :
    callV prog 32 [.agg c.cells, .agg (x.cells A B), .list labs, .agg (mc b e p q)] = some (.bool false, []) := by
  unfold Bound at tu
  simp [mc] at tu
  cases x <;>
    refine callV_fn (body := ic32) rfl rfl ?_ <;>
    simp [ic32, gc, At.cells, mc, Corp.cells, tu, hk]

theorem Holds1_at (c : Corp) (A B : ByteArray) {x : At} (h : x.Good) (b e p q : Int) {k : Int} (tu : Bound A b e p q k) (hk : k < 0) :
    callV prog 14 [.agg c.cells, .agg (x.cells A B), .list labs, .agg (mc b e p q)] = some (.bool false, []) := by
  have h1 := sound_at A B x
  have h2 := known_at c A B h
  have h3 := fits_spec c b e p q
  have h4 := holds1_at c A B x b e p q tu hk
  simp [mc, Corp.cells] at h1 h2 h3 h4
  cases hf : (inC c p && inC c q)
  · simp [hf] at h3
    cases x <;>
      · refine callV_fn (body := ic14) rfl rfl ?_
        simp [At.cells, gc] at h1 h2
        simp [ic14, mc, Corp.cells, h1, h2, h3, At.cells, gc]
  · simp [hf] at h3
    cases x <;>
      · refine callV_fn (body := ic14) rfl rfl ?_
        simp [At.cells, gc] at h1 h2 h4
        simp [ic14, mc, Corp.cells, h1, h2, h3, h4, At.cells, gc]

theorem unb_loop (c : Corp) {x : At} (hx : x.Good) (B : ByteArray) (ms : List Mt) (hm : ms.length ≤ 100) : ∀ (r k : Nat), k + r = ms.length →
    evV prog ic4_0 ⟨tm [(6, .ptr 102 0), (7, .ptr 103 0), (20, .list (ms.map Mt.enc)), (21, I ms.length), (22, I k)], hp [(102, some (.box c.cells)), (103, some (.box (x.cells sx B)))]⟩ = some (.exit 0, ⟨tm [], hp []⟩) := by
  intro r
  induction r with
  | zero =>
    intro k hk
    have h3 : ¬ k < ms.length := by omega
    rw [ic4_0_eq]
    cases x <;> simp [ic4_0_b, h3, Corp.cells, At.cells, gc]
  | succ r ih =>
    intro k hk
    have hlt : k < ms.length := by omega
    have hw : IntKind.i64.wrap ((k : Int) + 1) = k + 1 := wrap64 (by omega) (by omega)
    have hi := ih (k + 1) (by omega)
    obtain ⟨y, hy⟩ : ∃ y, ms[k] = y := ⟨_, rfl⟩
    have hh := Holds1_at c sx B hx y.b y.e (-1) y.b (bound_x _ _ _ _) (by omega)
    have hlab := labels_spec
    simp [Corp.cells] at hi
    simp [Corp.cells, mc] at hh
    rw [ic4_0_eq]
    cases x <;>
      · simp [At.cells, gc] at hh hi
        simp [ic4_0_b, hlt, Corp.cells, hy, Mt.enc, hw, hlab, hh, At.cells, gc]
        simpa using hi

theorem law_unbound (l m : List Int) (hl : l.length < 9223372036854775808) (hm : m.length < 9223372036854775808) : callV prog 4 [.list (l.map I), .list (m.map I)] = some (.bool true, []) := by
  obtain ⟨a', c, hc, hcor⟩ := corpus_spec (small_take l) 0 (most := 5) (by omega)
  have hnew := new_spec l hl
  have hnew2 := new_spec m hm
  have n7 := hc.n7
  obtain ⟨a2, ms, hm1, hms⟩ := matches_spec (small_take l) a' (c := c) hc.texts.1 (by have := hc.texts.2.1; omega) (most := 5) (by omega)
  obtain ⟨a3, x, A, B, hA, hB, hx, hat⟩ := atom_spec (small_take m) 0 (D := 0) (by omega) (L := [sx]) (by simp) (by simp)
  have hA' : A = sx := by simpa using hA
  subst hA'
  have hlp := unb_loop c hx B ms hm1 ms.length 0 (by omega)
  have kn := gknown_law
  refine callV_fn (body := ic4) rfl rfl ?_
  simp [Corp.cells] at hcor hms hlp
  cases x <;>
    · simp [At.cells, gc] at hat hlp
      simp [ic4, Corp.cells, hnew, hnew2, hcor, hms, hat, hlp, kn, At.cells, gc]

end Go.Ab.Prog
