/- The constituents that are dealt. -/
import Derived.Test.YtgiemhcpilkfaaaGreatDoorKSpec1

namespace Go.Ab.Prog
open Go Go.Ab
set_option linter.unusedSimpArgs false
set_option maxHeartbeats 4000000

theorem arith1 {at_ x b y n e : Int} (hbb : at_ + x = b) (hee : b + 1 + y = e) (h0 : 0 ≤ at_) (hx : 0 ≤ x) (hy : 0 ≤ y) (hy2 : y < n - b) (hn : n ≤ 7) : 1 ≤ e - b ∧ e ≤ n ∧ 0 ≤ b ∧ at_ ≤ b ∧ e - b ≤ 7 := by omega
theorem arith2 {b x e m : Int} (hmm : b + x = m) (hx : 0 ≤ x) (hx2 : x < e - b) (hb : 0 ≤ b) (he : e ≤ 7) : b ≤ m ∧ 1 ≤ e - m ∧ 0 ≤ m ∧ m ≤ 7 ∧ e - m ≤ 7 := by omega
theorem arith3 {x e m g : Int} (hgg : m + 1 + x = g) (hx : 0 ≤ x) (hx2 : x < e - m) (hm : 0 ≤ m) (he : e ≤ 7) : m < g ∧ g ≤ e ∧ 0 ≤ g ∧ g ≤ 7 := by omega
theorem arith5 {n k : Nat} (h : n ≤ 6 - 2 * (k + 1)) (hk : k + 1 ≤ 3) : n + 2 ≤ 6 - 2 * k := by omega
theorem w7 {x : Int} (h1 : 0 ≤ x) (h2 : x ≤ 7) : IntKind.i64.wrap x = x := wrap64 (by omega) (by omega)
theorem w8 {x : Int} (h1 : 0 ≤ x) (h2 : x ≤ 7) : IntKind.i64.wrap (x + 1) = x + 1 := wrap64 (by omega) (by omega)
theorem r7 {x : Int} (h2 : x ≤ 7) : x < 9223372036854775808 := by omega
theorem room4 {n : Nat} (h : n ≤ 4) : (n + 1 + 1) * 40 ≤ room := by unfold room; omega
theorem room5 {n : Nat} (h : n ≤ 4) : n + 1 + 1 ≤ room := by unfold room; omega

theorem nodes_loop {l : List Int} (hl : small l) {n : Int} (hn : 1 ≤ n ∧ n ≤ 7) {c0 c1 c2 c3 c5 c6 : PV} (h0 : refC c0 = []) (h1 : refC c1 = []) (h2 : refC c2 = []) (h3 : refC c3 = []) (h5 : refC c5 = []) (h6 : refC c6 = []) :
    ∀ (k : Nat) (a : Nat) (at_ : Int) (ns : List Nd), k ≤ 3 → 0 ≤ at_ → at_ ≤ n → ns.length ≤ 6 - 2 * k → Tops 0 0 ns at_ → (∀ x ∈ ns, x.label ∈ labels) →
    ∃ a' z ns', z ≤ n ∧ ns'.length ≤ 6 ∧ Tops 0 0 ns' z ∧ (∀ x ∈ ns', x.label ∈ labels) ∧
      evV prog ic51_0 ⟨tm [(0, .ptr 0 0), (1, .ptr 1 0), (4, I n), (5, I at_), (6, I k)], hp [(0, some (.box (tape l a))), (1, some (.box [c0, c1, c2, c3, .arr 100 ns.length 0 ns.length, c5, c6])), (100, some (.arr 4 (ns.map Nd.enc) false))]⟩
        = some (.exit 0, ⟨tm [], hp [(0, some (.box (tape l a'))), (1, some (.box [c0, c1, c2, c3, .arr 100 ns'.length 0 ns'.length, c5, c6])), (100, some (.arr 4 (ns'.map Nd.enc) false))]⟩) := by
  intro k
  induction k with
  | zero =>
    intro a at_ ns _ _ hz hlen hT hL
    refine ⟨a, at_, ns, hz, by omega, hT, hL, ?_⟩
    rw [ic51_0_eq]
    simp [ic51_0_b, h0, h1, h2, h3, h5, h6]
  | succ k ih =>
    intro a at_ ns hk ha0 hz hlen hT hL
    have hk1 : ((k + 1 : Nat) : Int) > 0 := by omega
    by_cases hc : at_ < n
    · have hb1 := next_nonneg l a 2
      have hb2 := next_lt l a (n := 2) (by omega)
      have hw1 : IntKind.i64.wrap (at_ + next l a 2) = at_ + next l a 2 := wrap64 (by omega) (by omega)
      by_cases hb : n ≤ at_ + next l a 2
      · refine ⟨adv l a, at_, ns, hz, by omega, hT, hL, ?_⟩
        rw [ic51_0_eq]
        simp [ic51_0_b, h0, h1, h2, h3, h5, h6, hc, hk1, hw1, hb, hl]
      · have hw2 : IntKind.i64.wrap (at_ + next l a 2 + 1) = at_ + next l a 2 + 1 := wrap64 (by omega) (by omega)
        have hw3 : IntKind.i64.wrap (n - (at_ + next l a 2)) = n - (at_ + next l a 2) := wrap64 (by omega) (by omega)
        have he1 := next_nonneg l (adv l a) (n - (at_ + next l a 2))
        have he2 := next_lt l (adv l a) (n := n - (at_ + next l a 2)) (by omega)
        have hw4 : IntKind.i64.wrap (at_ + next l a 2 + 1 + next l (adv l a) (n - (at_ + next l a 2))) = at_ + next l a 2 + 1 + next l (adv l a) (n - (at_ + next l a 2)) := wrap64 (by omega) (by omega)
        have hr : n - (at_ + next l a 2) < 9223372036854775808 := by omega
        generalize hbb : at_ + next l a 2 = b at *
        generalize hee : b + 1 + next l (adv l a) (n - b) = e at *
        have hlen' : ns.length ≤ 4 := by omega
        have hroom : (ns.length + 1) * 40 ≤ room := by unfold room; omega
        have hroom' : ns.length + 1 ≤ room := by unfold room; omega
        have hwk : IntKind.i64.wrap (k : Int) = k := wrap64 (by omega) (by omega)
        by_cases ht : next l (adv l (adv l (adv l a))) 2 = 1
        · have hb3 := next_nonneg l (adv l (adv l (adv l (adv l a)))) (e - b)
          obtain ⟨hge, hen, hb0, hzb, hebs⟩ := arith1 hbb hee ha0 hb1 he1 he2 hn.2
          have hb4 := next_lt l (adv l (adv l (adv l (adv l a)))) (n := e - b) hge
          have hw5 := w7 (by exact Int.le_trans (by decide) hge) hebs
          have hr5 := r7 hebs
          generalize hmm : b + next l (adv l (adv l (adv l (adv l a)))) (e - b) = m at *
          obtain ⟨hmb, hme, hm0, hm7, hems⟩ := arith2 hmm hb3 hb4 hb0 (Int.le_trans hen hn.2)
          have hw6 := w7 hm0 hm7
          have hw7 := w8 hm0 hm7
          have hw8 := w7 (Int.le_trans (by decide) hme) hems
          have hr8 := r7 hems
          have he3 := next_nonneg l (adv l (adv l (adv l (adv l (adv l (adv l a)))))) (e - m)
          have he4 := next_lt l (adv l (adv l (adv l (adv l (adv l (adv l a)))))) (n := e - m) hme
          generalize hgg : m + 1 + next l (adv l (adv l (adv l (adv l (adv l (adv l a)))))) (e - m) = g at *
          obtain ⟨hgm, hge2, hg0, hg7⟩ := arith3 hgg he3 he4 hm0 (Int.le_trans hen hn.2)
          have hw9 := w7 hg0 hg7
          have hbe : b ≤ e := Int.le_of_lt (Int.lt_of_sub_pos hge)
          have hroom2 : (ns.length + 1 + 1) * 40 ≤ room := room4 hlen'
          have hroom2' : ns.length + 1 + 1 ≤ room := room5 hlen'
          obtain ⟨a', z, ns', i1, i2, i3, i4, i5⟩ := ih (adv l (adv l (adv l (adv l (adv l (adv l (adv l a))))))) e (ns ++ [⟨pick2 (next l (adv l (adv l a)) 2) ⟨#[83]⟩ ⟨#[78, 80]⟩, b, e, -1⟩, ⟨pick2 (next l (adv l (adv l (adv l (adv l (adv l a))))) 2) ⟨#[78, 80]⟩ ⟨#[86, 80]⟩, m, g, (ns.length : Int)⟩]) (Nat.le_of_succ_le hk) (Int.le_trans hb0 hbe) hen (by rw [List.length_append]; exact arith5 hlen hk) (hT.two' (Nat.zero_add _).symm hzb (Int.lt_of_sub_pos hge) hmb hgm hge2) (by
            intro x hx; simp at hx
            rcases hx with hx | hx | hx
            · exact hL x hx
            · subst hx; rcases next2 l (adv l (adv l a)) with h | h <;> simp [h, pick2, labels]
            · subst hx; rcases next2 l (adv l (adv l (adv l (adv l (adv l a))))) with h | h <;> simp [h, pick2, labels])
          refine ⟨a', z, ns', i1, i2, i3, i4, ?_⟩
          rw [ic51_0_eq]
          simp [ic51_0_b, h0, h1, h2, h3, h5, h6, hc, hk1, hw1, hbb, hb, hl, hw2, hw3, hw4, hr, hee, hroom, hroom', hwk, ht, hw5, hr5, hw6, hmm, hw7, hw8, hr8, hw9, hgg, hroom2, hroom2']
          simpa [Nd.enc] using i5
        · obtain ⟨a', z, ns', i1, i2, i3, i4, i5⟩ := ih (adv l (adv l (adv l (adv l a)))) e (ns ++ [⟨pick2 (next l (adv l (adv l a)) 2) ⟨#[83]⟩ ⟨#[78, 80]⟩, b, e, -1⟩]) (by omega) (by omega) (by omega) (by simp; omega) (hT.one' (by omega) (by omega)) (by
            intro x hx; simp at hx
            rcases hx with hx | hx
            · exact hL x hx
            · subst hx; rcases next2 l (adv l (adv l a)) with h | h <;> simp [h, pick2, labels])
          refine ⟨a', z, ns', i1, i2, i3, i4, ?_⟩
          rw [ic51_0_eq]
          simp [ic51_0_b, h0, h1, h2, h3, h5, h6, hc, hk1, hw1, hbb, hb, hl, hw2, hw3, hw4, hr, hee, hroom, hroom', hwk, ht]
          simpa [Nd.enc] using i5
    · refine ⟨a, at_, ns, hz, by omega, hT, hL, ?_⟩
      rw [ic51_0_eq]
      simp [ic51_0_b, h0, h1, h2, h3, h5, h6, hc]

theorem nodes_spec {l : List Int} (hl : small l) (a : Nat) {attrs toks texts regs : List PV} (hn : 1 ≤ toks.length ∧ toks.length ≤ 7) :
    ∃ a' z ns, z ≤ (toks.length : Int) ∧ ns.length ≤ 6 ∧ Tops 0 0 ns z ∧ (∀ x ∈ ns, x.label ∈ labels) ∧
      callV prog 51 [.boxed (tape l a), .boxed [.list attrs, .list toks, .list texts, .list regs, .nil, .nil, .nil]] = some (.tuple [], [tape l a', [.list attrs, .list toks, .list texts, .list regs, .list (ns.map Nd.enc), .nil, .nil]]) := by
  have h1 := next_nonneg l a 4
  have h2 := next_lt l a (n := 4) (by omega)
  obtain ⟨a', z, ns, i1, i2, i3, i4, i5⟩ := nodes_loop hl (n := toks.length) (by omega) (c0 := .list attrs) (c1 := .list toks) (c2 := .list texts) (c3 := .list regs) (c5 := .nil) (c6 := .nil) rfl rfl rfl rfl rfl rfl (next l a 4).toNat (adv l a) 0 [] (by omega) (by omega) (by omega) (by simp) .nil (by simp)
  refine ⟨a', z, ns, i1, i2, i3, i4, ?_⟩
  refine callV_fn (body := ic51) rfl rfl ?_
  have e : ((next l a 4).toNat : Int) = next l a 4 := by omega
  rw [e] at i5
  simp at i5
  simp [ic51, hl, i5]

end Go.Ab.Prog
