/- What the small functions answer: numbers dealt, and the corpus as plain data. And what follows from it, part by part. -/
import Derived.Test.YtgiemhcpilkfaaaGreatDoorKLoops

/- Part Spec1. -/
namespace Go.Ab.Prog
open Go Go.Ab
set_option linter.unusedSimpArgs false

theorem emod_of_tmod_neg {x n : Int} (hn : 0 < n) (h : x.tmod n < 0) : x.tmod n + n = x % n := by
  have h1 := Int.emod_nonneg x (b := n) (by omega)
  have h2 := Int.emod_lt_of_pos x hn
  rw [Int.tmod_eq_emod] at h ⊢
  split at h
  · omega
  · rename_i hc
    rw [if_neg hc]; omega
theorem tmod_nonneg_eq {x n : Int} (hn : 0 < n) (h : ¬ x.tmod n < 0) : x.tmod n = x % n := by
  have h1 := Int.emod_nonneg x (b := n) (by omega)
  have h2 := Int.emod_lt_of_pos x hn
  rw [Int.tmod_eq_emod] at h ⊢
  split at h
  · rename_i hc; rw [if_pos hc]; omega
  · rename_i hc
    exfalso; omega

def mod (x n : Int) : Int := if n < 1 then 0 else x % n

theorem mod_nonneg (x n : Int) : 0 ≤ mod x n := by
  unfold mod; split
  · omega
  · exact Int.emod_nonneg _ (by omega)
theorem mod_lt (x : Int) {n : Int} (h : 1 ≤ n) : mod x n < n := by
  unfold mod; split
  · omega
  · exact Int.emod_lt_of_pos _ (by omega)

@[simp] theorem mod_spec (x n : Int) (hn : n < 9223372036854775808) :
    callV prog 17 [.int .i64 x, .int .i64 n] = some (.int .i64 (mod x n), []) := by
  refine callV_fn (body := ic17) rfl rfl ?_
  by_cases h : n < 1
  · simp [ic17, mod, h]
  · have hm : 0 ≤ x % n := Int.emod_nonneg _ (by omega)
    have hm2 : x % n < n := Int.emod_lt_of_pos _ (by omega)
    have hne : n ≠ 0 := by omega
    by_cases h2 : x.tmod n < 0
    · have e := emod_of_tmod_neg (by omega) h2
      simp [ic17, mod, h, h2, hne, e]
      exact wrap64 (by omega) (by omega)
    · have e := tmod_nonneg_eq (by omega) h2
      rw [e] at h2
      simp [ic17, mod, h, h2, hne, e]

/-- A tape that deals numbers. -/
abbrev I (n : Int) : PV := .int .i64 n
def tape (l : List Int) (a : Nat) : List PV := [.list (l.map I), .int .i64 a]
def small (l : List Int) : Prop := l.length < 1000000

def next (l : List Int) (a : Nat) (n : Int) : Int := match l[a]? with
  | some x => mod x n
  | none => 0
def adv (l : List Int) (a : Nat) : Nat := if a < l.length then a + 1 else a

@[simp] theorem next_nonneg (l : List Int) (a : Nat) (n : Int) : 0 ≤ next l a n := by
  unfold next; split
  · exact mod_nonneg _ _
  · omega
theorem next_lt (l : List Int) (a : Nat) {n : Int} (h : 1 ≤ n) : next l a n < n := by
  unfold next; split
  · exact mod_lt _ h
  · omega

@[simp] theorem next_spec (l : List Int) (a : Nat) (n : Int) (hl : small l) (hn : n < 9223372036854775808) :
    callV prog 26 [.boxed (tape l a), .int .i64 n] = some (.int .i64 (next l a n), [tape l (adv l a)]) := by
  refine callV_fn (body := ic26) rfl rfl ?_
  unfold small at hl
  unfold tape
  by_cases h : a < l.length
  · have h' : ¬ l.length ≤ a := by omega
    have hx : (l.map I)[a]? = some (.int .i64 l[a]) := by simp [h]
    have hw : IntKind.i64.wrap ((a : Int) + 1) = a + 1 := wrap64 (by omega) (by omega)
    have hw2 : IntKind.i64.wrap (a : Int) = a := wrap64 (by omega) (by omega)
    simp [ic26, h, h', hw, hw2, hx, next, adv, hn]
  · have h' : l.length ≤ a := by omega
    simp [ic26, h, h', next, adv]

@[simp] theorem purCs_tape {h : Hp} {nrm : Bool} {l : List Int} {a : Nat} : purCs h nrm (tape l a) = some (tape l a) := by simp [tape]
@[simp] theorem refC_tape {l : List Int} {a : Nat} : (tape l a).flatMap refC = [] := by simp [tape]
@[simp] theorem all_tape {l : List Int} {a : Nat} {P : Nat → Prop} : (∀ x, x ∈ tape l a → ∀ y, y ∈ refC x → P y) = True := by simp [tape]

theorem new_spec (l : List Int) (hl : l.length < 9223372036854775808) : callV prog 9 [.list (l.map I)] = some (.boxed (tape (l.take 120) 0), []) := by
  refine callV_fn (body := ic9) rfl rfl ?_
  by_cases h : 120 < l.length
  · have h' : (120 : Int) < l.length := by omega
    have h2 : 120 ≤ l.length := by omega
    have h3 : ¬ l.length < 120 := by omega
    simp [ic9, h, h', h2, h3, tape, List.map_take]
  · have h' : ¬ (120 : Int) < l.length := by omega
    have h2 : l.take 120 = l := List.take_of_length_le (by omega)
    simp [ic9, h, h', h2, tape]

@[simp] theorem szs_I {l : List Int} : szs 1 (l.map I) = true := by simp [szs]

/-! ### Corpora -/

structure Nd where
  label : ByteArray
  b : Int
  e : Int
  p : Int
def Nd.enc (x : Nd) : PV := .agg [.str x.label, .int .i64 x.b, .int .i64 x.e, .int .i64 x.p]
@[simp] theorem Nd.cells (x : Nd) : x.enc.cells = [.str x.label, .int .i64 x.b, .int .i64 x.e, .int .i64 x.p] := rfl

/-- Constituents that were dealt: what is on top ends where the next begins, and has at most one below it, which stands next. -/
inductive Tops : Int → Nat → List Nd → Int → Prop
  | nil {at_ i} : Tops at_ i [] at_
  | one {at_ b e i s l z} (h1 : at_ ≤ b) (h2 : b < e) (hr : Tops e (i + 1) l z) : Tops at_ i (⟨s, b, e, -1⟩ :: l) z
  | two {at_ b e i s l z t b' e'} (h1 : at_ ≤ b) (h2 : b < e) (h3 : b ≤ b') (h4 : b' < e') (h5 : e' ≤ e) (hr : Tops e (i + 2) l z) : Tops at_ i (⟨s, b, e, -1⟩ :: ⟨t, b', e', (i : Int)⟩ :: l) z

theorem Tops.one' {a i l z b e s} (h : Tops a i l z) (h1 : z ≤ b) (h2 : b < e) : Tops a i (l ++ [⟨s, b, e, -1⟩]) e := by
  induction h with
  | nil => exact .one h1 h2 .nil
  | one k1 k2 _ ih => exact .one k1 k2 (ih h1)
  | two k1 k2 k3 k4 k5 _ ih => exact .two k1 k2 k3 k4 k5 (ih h1)


theorem Tops.two' {a i l z b e s t b' e' j} (h : Tops a i l z) (hj : j = i + l.length) (h1 : z ≤ b) (h2 : b < e) (h3 : b ≤ b') (h4 : b' < e') (h5 : e' ≤ e) :
    Tops a i (l ++ [⟨s, b, e, -1⟩, ⟨t, b', e', (j : Int)⟩]) e := by
  induction h with
  | nil => simp at hj; subst hj; exact .two h1 h2 h3 h4 h5 .nil
  | one k1 k2 _ ih => exact .one k1 k2 (ih (by simp at hj; omega) h1)
  | two k1 k2 k3 k4 k5 _ ih => exact .two k1 k2 k3 k4 k5 (ih (by simp at hj; omega) h1)

@[simp] theorem szs_Nd {l : List Nd} : szs 4 (l.map Nd.enc) = true := by simp [szs]

def labels : List ByteArray := [⟨#[83]⟩, ⟨#[78, 80]⟩, ⟨#[86, 80]⟩]

theorem next2 (l : List Int) (a : Nat) : next l a 2 = 0 ∨ next l a 2 = 1 := by
  have h1 := next_nonneg l a 2
  have h2 := next_lt l a (n := 2) (by omega)
  omega

def pick2 {α : Type} (n : Int) (x y : α) : α := if n = 0 then x else y
@[simp] theorem str2_next {s t : ByteArray} {l : List Int} {a : Nat} : ([.str s, .str t] : List PV)[(next l a 2).toNat]? = some (.str (pick2 (next l a 2) s t)) := by
  rcases next2 l a with h | h <;> simp [h, pick2]

theorem next3 (l : List Int) (a : Nat) : next l a 3 = 0 ∨ next l a 3 = 1 ∨ next l a 3 = 2 := by
  have h1 := next_nonneg l a 3
  have h2 := next_lt l a (n := 3) (by omega)
  omega
def pick3 {α : Type} (n : Int) (x y z : α) : α := if n = 0 then x else if n = 1 then y else z
@[simp] theorem str3_next {s t u : ByteArray} {l : List Int} {a : Nat} : ([.str s, .str t, .str u] : List PV)[(next l a 3).toNat]? = some (.str (pick3 (next l a 3) s t u)) := by
  rcases next3 l a with h | h | h <;> simp [h, pick3]

abbrev IN (n : Nat) : PV := .int .i64 n
@[simp] theorem szs_IN {l : List Nat} : szs 1 (l.map IN) = true := by simp [szs]

end Go.Ab.Prog

/- Part Nodes. -/
namespace Go.Ab.Prog
open Go Go.Ab
set_option linter.unusedSimpArgs false
set_option maxHeartbeats 4000000

theorem arith1 {at_ x b y n e : Int} (hbb : at_ + x = b) (hee : b + 1 + y = e) (h0 : 0 ≤ at_) (hx : 0 ≤ x) (hy : 0 ≤ y) (hy2 : y < n - b) (hn : n ≤ 7) : 1 ≤ e - b ∧ e ≤ n ∧ 0 ≤ b ∧ at_ ≤ b ∧ e - b ≤ 7 := by omega
theorem arith2 {b x e m : Int} (hmm : b + x = m) (hx : 0 ≤ x) (hx2 : x < e - b) (hb : 0 ≤ b) (he : e ≤ 7) : b ≤ m ∧ 1 ≤ e - m ∧ 0 ≤ m ∧ m ≤ 7 ∧ e - m ≤ 7 := by omega
theorem arith3 {x e m g : Int} (hgg : m + 1 + x = g) (hx : 0 ≤ x) (hx2 : x < e - m) (hm : 0 ≤ m) (he : e ≤ 7) : m < g ∧ g ≤ e ∧ 0 ≤ g ∧ g ≤ 7 := by omega
theorem arith5 {n k : Nat} (h : n ≤ 6 - 2 * (k + 1)) (hk : k + 1 ≤ 3) : n + 2 ≤ 6 - 2 * k := by omega
theorem w7 {x : Int} (h1 : 0 ≤ x) (h2 : x ≤ 7) : IntKind.i64.wrap x = x := wrap64 (by omega) (by omega)
theorem w8 {x : Int} (h1 : 0 ≤ x) (h2 : x ≤ 7) : IntKind.i64.wrap (x + 1) = x + 1 := wrap64 (by omega) (by omega)
theorem r7 {x : Int} (h2 : x ≤ 7) : x < 9223372036854775808 := by omega
theorem room4 {n : Nat} (h : n ≤ 4) : (n + 1 + 1) * 40 ≤ room := by unfold room; omega
theorem room5 {n : Nat} (h : n ≤ 4) : n + 1 + 1 ≤ room := by unfold room; omega

theorem nodes_loop {l : List Int} (hl : small l) {n : Int} (hn : 1 ≤ n ∧ n ≤ 7) {c0 c1 c2 c3 c5 c6 : PV} (h0 : refC c0 = []) (h1 : refC c1 = []) (h2 : refC c2 = []) (h3 : refC c3 = []) (h5 : refC c5 = []) (h6 : refC c6 = []) :
    ∀ (k : Nat) (a : Nat) (at_ : Int) (ns : List Nd), k ≤ 3 → 0 ≤ at_ → at_ ≤ n → ns.length ≤ 6 - 2 * k → Tops 0 0 ns at_ → (∀ x ∈ ns, x.label ∈ labels) →
    ∃ a' z ns', z ≤ n ∧ ns'.length ≤ 6 ∧ Tops 0 0 ns' z ∧ (∀ x ∈ ns', x.label ∈ labels) ∧
      evV prog ic51_0 ⟨tm [(0, .ptr 0 0), (1, .ptr 1 0), (4, I n), (5, I at_), (6, I k)], hp [(0, some (.box (tape l a))), (1, some (.box [c0, c1, c2, c3, .arr 100 ns.length 0 ns.length, c5, c6])), (100, some (.arr 4 (ns.map Nd.enc) false))]⟩
        = some (.exit 0, ⟨tm [], hp [(0, some (.box (tape l a'))), (1, some (.box [c0, c1, c2, c3, .arr 100 ns'.length 0 ns'.length, c5, c6])), (100, some (.arr 4 (ns'.map Nd.enc) false))]⟩) := by
  intro k
  induction k with
  | zero =>
    intro a at_ ns _ _ hz hlen hT hL
    refine ⟨a, at_, ns, hz, by omega, hT, hL, ?_⟩
    rw [ic51_0_eq]
    simp [ic51_0_b, h0, h1, h2, h3, h5, h6]
  | succ k ih =>
    intro a at_ ns hk ha0 hz hlen hT hL
    have hk1 : ((k + 1 : Nat) : Int) > 0 := by omega
    by_cases hc : at_ < n
    · have hb1 := next_nonneg l a 2
      have hb2 := next_lt l a (n := 2) (by omega)
      have hw1 : IntKind.i64.wrap (at_ + next l a 2) = at_ + next l a 2 := wrap64 (by omega) (by omega)
      by_cases hb : n ≤ at_ + next l a 2
      · refine ⟨adv l a, at_, ns, hz, by omega, hT, hL, ?_⟩
        rw [ic51_0_eq]
        simp [ic51_0_b, h0, h1, h2, h3, h5, h6, hc, hk1, hw1, hb, hl]
      · have hw2 : IntKind.i64.wrap (at_ + next l a 2 + 1) = at_ + next l a 2 + 1 := wrap64 (by omega) (by omega)
        have hw3 : IntKind.i64.wrap (n - (at_ + next l a 2)) = n - (at_ + next l a 2) := wrap64 (by omega) (by omega)
        have he1 := next_nonneg l (adv l a) (n - (at_ + next l a 2))
        have he2 := next_lt l (adv l a) (n := n - (at_ + next l a 2)) (by omega)
        have hw4 : IntKind.i64.wrap (at_ + next l a 2 + 1 + next l (adv l a) (n - (at_ + next l a 2))) = at_ + next l a 2 + 1 + next l (adv l a) (n - (at_ + next l a 2)) := wrap64 (by omega) (by omega)
        have hr : n - (at_ + next l a 2) < 9223372036854775808 := by omega
        generalize hbb : at_ + next l a 2 = b at *
        generalize hee : b + 1 + next l (adv l a) (n - b) = e at *
        have hlen' : ns.length ≤ 4 := by omega
        have hroom : (ns.length + 1) * 40 ≤ room := by unfold room; omega
        have hroom' : ns.length + 1 ≤ room := by unfold room; omega
        have hwk : IntKind.i64.wrap (k : Int) = k := wrap64 (by omega) (by omega)
        by_cases ht : next l (adv l (adv l (adv l a))) 2 = 1
        · have hb3 := next_nonneg l (adv l (adv l (adv l (adv l a)))) (e - b)
          obtain ⟨hge, hen, hb0, hzb, hebs⟩ := arith1 hbb hee ha0 hb1 he1 he2 hn.2
          have hb4 := next_lt l (adv l (adv l (adv l (adv l a)))) (n := e - b) hge
          have hw5 := w7 (by exact Int.le_trans (by decide) hge) hebs
          have hr5 := r7 hebs
          generalize hmm : b + next l (adv l (adv l (adv l (adv l a)))) (e - b) = m at *
          obtain ⟨hmb, hme, hm0, hm7, hems⟩ := arith2 hmm hb3 hb4 hb0 (Int.le_trans hen hn.2)
          have hw6 := w7 hm0 hm7
          have hw7 := w8 hm0 hm7
          have hw8 := w7 (Int.le_trans (by decide) hme) hems
          have hr8 := r7 hems
          have he3 := next_nonneg l (adv l (adv l (adv l (adv l (adv l (adv l a)))))) (e - m)
          have he4 := next_lt l (adv l (adv l (adv l (adv l (adv l (adv l a)))))) (n := e - m) hme
          generalize hgg : m + 1 + next l (adv l (adv l (adv l (adv l (adv l (adv l a)))))) (e - m) = g at *
          obtain ⟨hgm, hge2, hg0, hg7⟩ := arith3 hgg he3 he4 hm0 (Int.le_trans hen hn.2)
          have hw9 := w7 hg0 hg7
          have hbe : b ≤ e := Int.le_of_lt (Int.lt_of_sub_pos hge)
          have hroom2 : (ns.length + 1 + 1) * 40 ≤ room := room4 hlen'
          have hroom2' : ns.length + 1 + 1 ≤ room := room5 hlen'
          obtain ⟨a', z, ns', i1, i2, i3, i4, i5⟩ := ih (adv l (adv l (adv l (adv l (adv l (adv l (adv l a))))))) e (ns ++ [⟨pick2 (next l (adv l (adv l a)) 2) ⟨#[83]⟩ ⟨#[78, 80]⟩, b, e, -1⟩, ⟨pick2 (next l (adv l (adv l (adv l (adv l (adv l a))))) 2) ⟨#[78, 80]⟩ ⟨#[86, 80]⟩, m, g, (ns.length : Int)⟩]) (Nat.le_of_succ_le hk) (Int.le_trans hb0 hbe) hen (by rw [List.length_append]; exact arith5 hlen hk) (hT.two' (Nat.zero_add _).symm hzb (Int.lt_of_sub_pos hge) hmb hgm hge2) (by
            intro x hx; simp at hx
            rcases hx with hx | hx | hx
            · exact hL x hx
            · subst hx; rcases next2 l (adv l (adv l a)) with h | h <;> simp [h, pick2, labels]
            · subst hx; rcases next2 l (adv l (adv l (adv l (adv l (adv l a))))) with h | h <;> simp [h, pick2, labels])
          refine ⟨a', z, ns', i1, i2, i3, i4, ?_⟩
          rw [ic51_0_eq]
          simp [ic51_0_b, h0, h1, h2, h3, h5, h6, hc, hk1, hw1, hbb, hb, hl, hw2, hw3, hw4, hr, hee, hroom, hroom', hwk, ht, hw5, hr5, hw6, hmm, hw7, hw8, hr8, hw9, hgg, hroom2, hroom2']
          simpa [Nd.enc] using i5
        · obtain ⟨a', z, ns', i1, i2, i3, i4, i5⟩ := ih (adv l (adv l (adv l (adv l a)))) e (ns ++ [⟨pick2 (next l (adv l (adv l a)) 2) ⟨#[83]⟩ ⟨#[78, 80]⟩, b, e, -1⟩]) (by omega) (by omega) (by omega) (by simp; omega) (hT.one' (by omega) (by omega)) (by
            intro x hx; simp at hx
            rcases hx with hx | hx
            · exact hL x hx
            · subst hx; rcases next2 l (adv l (adv l a)) with h | h <;> simp [h, pick2, labels])
          refine ⟨a', z, ns', i1, i2, i3, i4, ?_⟩
          rw [ic51_0_eq]
          simp [ic51_0_b, h0, h1, h2, h3, h5, h6, hc, hk1, hw1, hbb, hb, hl, hw2, hw3, hw4, hr, hee, hroom, hroom', hwk, ht]
          simpa [Nd.enc] using i5
    · refine ⟨a, at_, ns, hz, by omega, hT, hL, ?_⟩
      rw [ic51_0_eq]
      simp [ic51_0_b, h0, h1, h2, h3, h5, h6, hc]

theorem nodes_spec {l : List Int} (hl : small l) (a : Nat) {attrs toks texts regs : List PV} (hn : 1 ≤ toks.length ∧ toks.length ≤ 7) :
    ∃ a' z ns, z ≤ (toks.length : Int) ∧ ns.length ≤ 6 ∧ Tops 0 0 ns z ∧ (∀ x ∈ ns, x.label ∈ labels) ∧
      callV prog 51 [.boxed (tape l a), .boxed [.list attrs, .list toks, .list texts, .list regs, .nil, .nil, .nil]] = some (.tuple [], [tape l a', [.list attrs, .list toks, .list texts, .list regs, .list (ns.map Nd.enc), .nil, .nil]]) := by
  have h1 := next_nonneg l a 4
  have h2 := next_lt l a (n := 4) (by omega)
  obtain ⟨a', z, ns, i1, i2, i3, i4, i5⟩ := nodes_loop hl (n := toks.length) (by omega) (c0 := .list attrs) (c1 := .list toks) (c2 := .list texts) (c3 := .list regs) (c5 := .nil) (c6 := .nil) rfl rfl rfl rfl rfl rfl (next l a 4).toNat (adv l a) 0 [] (by omega) (by omega) (by omega) (by simp) .nil (by simp)
  refine ⟨a', z, ns, i1, i2, i3, i4, ?_⟩
  refine callV_fn (body := ic51) rfl rfl ?_
  have e : ((next l a 4).toNat : Int) = next l a 4 := by omega
  rw [e] at i5
  simp at i5
  simp [ic51, hl, i5]

end Go.Ab.Prog

/- Part Heads. -/
namespace Go.Ab.Prog
open Go Go.Ab
set_option linter.unusedSimpArgs false
set_option maxHeartbeats 4000000

theorem all_one {l : List Int} : (∀ x, x ∈ l.map I → (x.cells.length == 1) = true) = True := by simp
theorem h_room {a b : Nat} (h : a ≤ b) (hb : b ≤ 7) : a * 8 ≤ room ∧ a ≤ room ∧ (a + 1) * 8 ≤ room ∧ a + 1 ≤ room := by unfold room; omega

theorem heads_loop0 {l : List Int} (hl : small l) {n : Nat} (hn : n ≤ 7) {attrs toks texts regs nds : List PV} :
    ∀ (m i a : Nat) (ord : List Nat), i + m = n → ord.Perm (List.range i) →
    ∃ (a' : Nat) (ord' : List Nat), ord'.Perm (List.range n) ∧
      evV prog ic52_0 ⟨tm [(0, .ptr 0 0), (1, .ptr 1 0), (4, I n), (5, .list (ord.map IN)), (6, I i)], hp [(0, some (.box (tape l a))), (1, some (.box [.list attrs, .list toks, .list texts, .list regs, .list nds, .nil, .nil])), (100, none), (101, none)]⟩
        = some (.exit 0, ⟨tm [(0, .ptr 0 0), (1, .ptr 1 0), (4, I n), (5, .list (ord'.map IN))], hp [(0, some (.box (tape l a'))), (1, some (.box [.list attrs, .list toks, .list texts, .list regs, .list nds, .nil, .nil])), (100, none), (101, none)]⟩) := by
  intro m
  induction m with
  | zero =>
    intro i a ord hi hp
    have : i = n := by omega
    subst this
    refine ⟨a, ord, hp, ?_⟩
    rw [ic52_0_eq]
    simp [ic52_0_b]
  | succ m ih =>
    intro i a ord hi hp
    have hlen : ord.length = i := by have := hp.length_eq; simpa using this
    have hlt : i < n := by omega
    have hw1 : IntKind.i64.wrap ((i : Int) + 1) = i + 1 := wrap64 (by omega) (by omega)
    have hr : (i : Int) + 1 < 9223372036854775808 := by omega
    have k0 := next_nonneg l a ((i : Int) + 1)
    have k1 := next_lt l a (n := (i : Int) + 1) (by omega)
    generalize hk : next l a ((i : Int) + 1) = k at *
    have hki : k.toNat ≤ i := by omega
    have hkl : k.toNat ≤ ord.length := by omega
    have q1 : k.toNat * 8 ≤ room := by unfold room; omega
    have q2 : k.toNat ≤ room := by unfold room; omega
    have q3 : (k.toNat + 1) * 8 ≤ room := by unfold room; omega
    have q4 : k.toNat + 1 ≤ room := by unfold room; omega
    have q5 : (k.toNat + 1 + (i - k.toNat)) * 8 ≤ room := by unfold room; omega
    have q6 : k.toNat + 1 + (i - k.toNat) ≤ room := by unfold room; omega
    have q7 : k.toNat + (i - k.toNat + 1) = k.toNat + 1 + (i - k.toNat) := by omega
    have q8 : (ord.map IN).take i = ord.map IN := List.take_of_length_le (by simp [hlen])
    obtain ⟨a', ord', h1, h2⟩ := ih (i + 1) (adv l a) (ord.take k.toNat ++ [i] ++ ord.drop k.toNat) (by omega) (by
      have e1 : (ord.take k.toNat ++ [i] ++ ord.drop k.toNat).Perm ([i] ++ ord) := by
        have := List.perm_middle (a := i) (l₁ := ord.take k.toNat) (l₂ := ord.drop k.toNat)
        simpa using this
      have e2 : ([i] ++ ord).Perm (ord ++ [i]) := List.perm_append_comm
      refine e1.trans (e2.trans ?_)
      rw [List.range_succ]
      exact List.Perm.append hp (by simp))
    refine ⟨a', ord', h1, ?_⟩
    rw [ic52_0_eq]
    simp [ic52_0_b, hl, hlt, hw1, hr, hk, k0, hlen, hki, hkl, List.length_take, q1, q2, q3, q4, q5, q6, q7, q8]
    simp [List.map_take, List.map_drop] at h2
    exact h2

def relNames : List ByteArray := [⟨#[111, 98, 106]⟩, ⟨#[100, 101, 116]⟩, ⟨#[]⟩]

/-- Of the tokens in an order, the first i have a head that came before, or none. -/
def Forest (ord : List Nat) (hs : List Int) (i : Nat) : Prop := ∀ p x, p < i → ord[p]? = some x → hs[x]? = some (-1) ∨ ∃ q y, q < p ∧ ord[q]? = some y ∧ hs[x]? = some (y : Int)

theorem Forest.step {ord : List Nat} {hs : List Int} {i x : Nat} {v : Int} (h : Forest ord hs i) (hd : ord.Nodup) (hx : ord[i]? = some x) (hl : x < hs.length) (hv : v = -1 ∨ ∃ q y, q < i ∧ ord[q]? = some y ∧ v = (y : Int)) : Forest ord (hs.set x v) (i + 1) := by
  intro p z hp hz
  by_cases e : p = i
  · subst e
    rw [hx] at hz; injection hz with hz; subst hz
    rw [List.getElem?_set_self hl]
    rcases hv with rfl | ⟨q, y, h1, h2, rfl⟩
    · exact .inl rfl
    · exact .inr ⟨q, y, h1, h2, rfl⟩
  · have hne : x ≠ z := by
      rintro rfl
      obtain ⟨h2, _⟩ := List.getElem?_eq_some_iff.1 hz
      exact e ((List.getElem?_inj h2 hd).1 (hz.trans hx.symm))
    rw [List.getElem?_set_ne hne]
    exact h p z (by omega) hz

theorem heads_loop1 {l : List Int} (hl : small l) {n : Nat} (hn : n ≤ 7) {ord : List Nat} (hp : ord.Perm (List.range n)) {attrs toks texts regs nds : List PV} :
    ∀ (m i a : Nat) (hs : List Int) (rs : List ByteArray) (sm : Bool), i + m = n → hs.length = n → rs.length = n → (∀ r ∈ rs, r ∈ relNames) → Forest ord hs i →
    ∃ (a' : Nat) (hs' : List Int) (rs' : List ByteArray) (sm' : Bool), hs'.length = n ∧ rs'.length = n ∧ (∀ r ∈ rs', r ∈ relNames) ∧ Forest ord hs' n ∧
      evV prog ic52_1 ⟨tm [(0, .ptr 0 0), (1, .ptr 1 0), (5, .list (ord.map IN)), (8, .arr 100 n 0 n), (9, .arr 101 n 0 n), (10, .bool sm), (43, .list (ord.map IN)), (44, I n), (45, I i)], Ab.hp [(0, some (.box (tape l a))), (1, some (.box [.list attrs, .list toks, .list texts, .list regs, .list nds, .nil, .nil])), (100, some (.arr 1 (hs.map I) false)), (101, some (.arr 1 (rs.map .str) false))]⟩
        = some (.exit 2, ⟨tm [(1, .ptr 1 0), (8, .arr 100 n 0 n), (9, .arr 101 n 0 n), (10, .bool sm')], Ab.hp [(0, some (.box (tape l a'))), (1, some (.box [.list attrs, .list toks, .list texts, .list regs, .list nds, .nil, .nil])), (100, some (.arr 1 (hs'.map I) false)), (101, some (.arr 1 (rs'.map .str) false))]⟩) := by
  have hlen : ord.length = n := by simpa using hp.length_eq
  have hd : ord.Nodup := hp.nodup_iff.2 List.nodup_range
  intro m
  induction m with
  | zero =>
    intro i a hs rs sm hi hhs hrs hR hF
    have : i = n := by omega
    subst this
    refine ⟨a, hs, rs, sm, hhs, hrs, hR, hF, ?_⟩
    rw [ic52_1_eq]
    simp [ic52_1_b]
  | succ m ih =>
    intro i a hs rs sm hi hhs hrs hR hF
    have hlt : i < n := by omega
    obtain ⟨x, hx⟩ : ∃ x, ord[i]? = some x := ⟨ord[i]'(by omega), List.getElem?_eq_getElem _⟩
    have hxn : x < n := by
      have : x ∈ List.range n := hp.mem_iff.1 (List.mem_of_getElem? hx)
      simpa using this
    have hw1 : IntKind.i64.wrap ((i : Int) + 1) = i + 1 := wrap64 (by omega) (by omega)
    have hxr : x < rs.length := by omega
    have hxh : x < hs.length := by omega
    have hhv : hs[x]? = some hs[x] := List.getElem?_eq_getElem _
    have hrv : rs[x]? = some rs[x] := List.getElem?_eq_getElem _
    by_cases hi0 : 0 < i
    · by_cases h4 : 0 < next l a 4
      · have k0 := next_nonneg l (adv l a) (i : Int)
        have k1 := next_lt l (adv l a) (n := (i : Int)) (by omega)
        have hr : (i : Int) < 9223372036854775808 := by omega
        generalize hk : next l (adv l a) (i : Int) = k at *
        have hkl : k.toNat < ord.length := by omega
        have hy : ord[k.toNat]? = some ord[k.toNat] := List.getElem?_eq_getElem _
        have hne : ¬ ((ord[k.toNat] : Nat) : Int) = -1 := by omega
        have hpk : pick3 (next l (adv l (adv l a)) 3) (⟨#[111, 98, 106]⟩ : ByteArray) ⟨#[100, 101, 116]⟩ ⟨#[]⟩ ∈ relNames := by
          rcases next3 l (adv l (adv l a)) with h | h | h <;> simp [h, pick3, relNames]
        obtain ⟨a', hs', rs', sm', j1, j2, j3, j4, j5⟩ := ih (i + 1) (adv l (adv l (adv l a))) (hs.set x (ord[k.toNat] : Nat)) (rs.set x (pick3 (next l (adv l (adv l a)) 3) ⟨#[111, 98, 106]⟩ ⟨#[100, 101, 116]⟩ ⟨#[]⟩)) true (by omega) (by simpa using hhs) (by simpa using hrs) (fun r hr => by
          rcases List.mem_or_eq_of_mem_set hr with h | h
          · exact hR r h
          · rw [h]; exact hpk) (hF.step hd hx hxh (.inr ⟨k.toNat, _, by omega, hy, rfl⟩))
        refine ⟨a', hs', rs', sm', j1, j2, j3, j4, ?_⟩
        rw [ic52_1_eq]
        cases sm
        · simp [ic52_1_b, hlt, hx, hxn, hhs, hhv, hrs, hrv, hi0, hw1, hl, h4, hr, hk, k0, hy, hkl, hne]
          simpa [List.map_set] using j5
        · simp [ic52_1_b, hlt, hx, hxn, hhs, hhv, hrs, hrv, hi0, hw1, hl, h4, hr, hk, k0, hy, hkl, hne]
          simpa [List.map_set] using j5
      · obtain ⟨a', hs', rs', sm', j1, j2, j3, j4, j5⟩ := ih (i + 1) (adv l a) (hs.set x (-1)) rs (if sm = true then true else !(rs[x].toList == (⟨#[]⟩ : ByteArray).toList)) (by omega) (by simpa using hhs) hrs hR (hF.step hd hx hxh (.inl rfl))
        refine ⟨a', hs', rs', sm', j1, j2, j3, j4, ?_⟩
        rw [ic52_1_eq]
        cases sm
        · simp [ic52_1_b, hlt, hx, hxn, hhs, hhv, hrs, hrv, hi0, hw1, hl, h4]
          simpa using j5
        · simp [ic52_1_b, hlt, hx, hxn, hhs, hhv, hrs, hrv, hi0, hw1, hl, h4]
          simpa using j5
    · obtain ⟨a', hs', rs', sm', j1, j2, j3, j4, j5⟩ := ih (i + 1) a (hs.set x (-1)) rs (if sm = true then true else !(rs[x].toList == (⟨#[]⟩ : ByteArray).toList)) (by omega) (by simpa using hhs) hrs hR (hF.step hd hx hxh (.inl rfl))
      refine ⟨a', hs', rs', sm', j1, j2, j3, j4, ?_⟩
      rw [ic52_1_eq]
      cases sm
      · simp [ic52_1_b, hlt, hx, hxn, hhs, hhv, hrs, hrv, hi0, hw1]
        simpa using j5
      · simp [ic52_1_b, hlt, hx, hxn, hhs, hhv, hrs, hrv, hi0, hw1]
        simpa using j5

theorem heads_spec {l : List Int} (hl : small l) (a : Nat) {attrs toks texts regs nds : List PV} (hn : 1 ≤ toks.length ∧ toks.length ≤ 7) :
    ∃ (a' : Nat) (hs : List Int) (rs : List ByteArray) (ord : List Nat), hs.length = toks.length ∧ rs.length = toks.length ∧ (∀ r ∈ rs, r ∈ relNames) ∧ ord.Perm (List.range toks.length) ∧ Forest ord hs toks.length ∧
      (callV prog 52 [.boxed (tape l a), .boxed [.list attrs, .list toks, .list texts, .list regs, .list nds, .nil, .nil]] = some (.tuple [], [tape l a', [.list attrs, .list toks, .list texts, .list regs, .list nds, .nil, .nil]]) ∨
       callV prog 52 [.boxed (tape l a), .boxed [.list attrs, .list toks, .list texts, .list regs, .list nds, .nil, .nil]] = some (.tuple [], [tape l a', [.list attrs, .list toks, .list texts, .list regs, .list nds, .list (hs.map I), .list (rs.map .str)]])) := by
  obtain ⟨a1, ord, p1, p2⟩ := heads_loop0 hl hn.2 (attrs := attrs) (toks := toks) (texts := texts) (regs := regs) (nds := nds) toks.length 0 a [] (by omega) (by simp)
  obtain ⟨a2, hs, rs, sm, q1, q2, q3, q4, q5⟩ := heads_loop1 hl hn.2 p1 (attrs := attrs) (toks := toks) (texts := texts) (regs := regs) (nds := nds) toks.length 0 a1 (List.replicate toks.length 0) (List.replicate toks.length ⟨#[]⟩) false (by omega) (by simp) (by simp) (by simp [relNames]) (fun p x hp => by omega)
  have hlen : ord.length = toks.length := by simpa using p1.length_eq
  have m1 : toks.length * 8 ≤ room := by unfold room; omega
  have m2 : toks.length * 16 ≤ room := by unfold room; omega
  have m3 : toks.length ≤ room := by unfold room; omega
  have m4 : (toks.length : Int) ≤ (room : Int) := by unfold room; omega
  refine ⟨a2, hs, rs, ord, q1, q2, q3, p1, q4, ?_⟩
  simp at p2 q5
  cases sm
  · left
    refine callV_fn (body := ic52) rfl rfl ?_
    simp [ic52, p2, hlen, m1, m2, m3, m4, q5]
  · right
    refine callV_fn (body := ic52) rfl rfl ?_
    simp [ic52, p2, hlen, m1, m2, m3, m4, q5, q1, q2]

end Go.Ab.Prog

/- Part Cmp. -/
namespace Go.Ab.Prog
open Go Go.Ab
set_option linter.unusedSimpArgs false
set_option maxHeartbeats 4000000

abbrev Pr := ByteArray × ByteArray
def prEnc (p : Pr) : PV := .agg [.str p.1, .str p.2]
structure Rg where
  typ : ByteArray
  b : Int
  e : Int
  keys : List Pr
def Rg.enc (x : Rg) : PV := .agg [.str x.typ, I x.b, I x.e, .list (x.keys.map prEnc)]

@[simp] theorem sign_spec (b : Bool) : callV prog 111 [.bool b] = some (I (if b then -1 else 1), []) := by
  refine callV_fn (body := ic111) rfl rfl ?_
  cases b <;> simp [ic111]

theorem strcmp_ex (x y : ByteArray) : ∃ v, callV prog 112 [.str x, .str y] = some (I v, []) := by
  cases h1 : Op.bytesLess x.toList y.toList
  · cases h2 : x.toList == y.toList
    · refine ⟨1, callV_fn (body := ic112) rfl rfl ?_⟩
      simp [ic112, h1, h2]
    · refine ⟨0, callV_fn (body := ic112) rfl rfl ?_⟩
      simp [ic112, h1, h2]
  · refine ⟨-1, callV_fn (body := ic112) rfl rfl ?_⟩
    simp [ic112, h1]
noncomputable def strcmp (x y : ByteArray) : Int := (strcmp_ex x y).choose
@[simp] theorem strcmp_spec (x y : ByteArray) : callV prog 112 [.str x, .str y] = some (I (strcmp x y), []) := (strcmp_ex x y).choose_spec

theorem cmp_loop (x y : Rg) (hx : x.keys.length < 1000000) : ∀ (m i : Nat), i + m = x.keys.length + 1 →
    (∃ v, evV prog ic85_0 ⟨tm [(2, .ptr 100 0), (3, .ptr 101 0), (5, I i)], hp [(100, some (.box x.enc.cells)), (101, some (.box y.enc.cells))]⟩ = some (.ret, ⟨tm [(4, I v)], hp []⟩)) ∨
    evV prog ic85_0 ⟨tm [(2, .ptr 100 0), (3, .ptr 101 0), (5, I i)], hp [(100, some (.box x.enc.cells)), (101, some (.box y.enc.cells))]⟩ = some (.exit 1, ⟨tm [(2, .ptr 100 0), (3, .ptr 101 0)], hp [(100, some (.box x.enc.cells)), (101, some (.box y.enc.cells))]⟩) := by
  intro m
  induction m with
  | zero =>
    intro i hi
    right
    have h1 : ¬ i < x.keys.length := by omega
    rw [ic85_0_eq]
    simp [ic85_0_b, Rg.enc, h1]
  | succ m ih =>
    intro i hi
    by_cases h1 : i < x.keys.length
    · by_cases h2 : i < y.keys.length
      · have e1 : x.keys[i]? = some x.keys[i] := List.getElem?_eq_getElem _
        have e2 : y.keys[i]? = some y.keys[i] := List.getElem?_eq_getElem _
        have hw1 : IntKind.i64.wrap ((i : Int) + 1) = i + 1 := wrap64 (by omega) (by omega)
        cases k1 : (x.keys[i]).1.toList == (y.keys[i]).1.toList
        · left
          refine ⟨strcmp (x.keys[i]).1 (y.keys[i]).1, ?_⟩
          rw [ic85_0_eq]
          simp [ic85_0_b, Rg.enc, h1, h2, e1, e2, k1, prEnc]
        · cases k2 : (x.keys[i]).2.toList == (y.keys[i]).2.toList
          · left
            refine ⟨strcmp (x.keys[i]).2 (y.keys[i]).2, ?_⟩
            rw [ic85_0_eq]
            simp [ic85_0_b, Rg.enc, h1, h2, e1, e2, k1, k2, prEnc]
          · have ih' := ih (i + 1) (by omega)
            rw [ic85_0_eq]
            simp [ic85_0_b, Rg.enc, h1, h2, e1, e2, k1, k2, prEnc, hw1]
            simpa [Rg.enc] using ih'
      · right
        rw [ic85_0_eq]
        simp [ic85_0_b, Rg.enc, h1, h2]
    · right
      rw [ic85_0_eq]
      simp [ic85_0_b, Rg.enc, h1]

theorem cmp_ex (x y : Rg) (hx : x.keys.length < 1000000) : ∃ v, callV prog 85 [x.enc, y.enc] = some (I v, []) := by
  by_cases h1 : x.b = y.b
  · by_cases h2 : x.e = y.e
    · cases h3 : x.typ.toList == y.typ.toList
      · refine ⟨strcmp x.typ y.typ, callV_fn (body := ic85) rfl rfl ?_⟩
        simp [ic85, Rg.enc, h1, h2, h3]
      · rcases cmp_loop x y hx (x.keys.length + 1) 0 (by omega) with ⟨v, hv⟩ | hv
        · refine ⟨v, callV_fn (body := ic85) rfl rfl ?_⟩
          simp [Rg.enc] at hv
          simp [ic85, Rg.enc, h1, h2, h3]
          simp [h1, h2] at hv
          simp [hv]
        · by_cases h4 : x.keys.length = y.keys.length
          · refine ⟨0, callV_fn (body := ic85) rfl rfl ?_⟩
            simp [Rg.enc, h1, h2] at hv
            simp [ic85, Rg.enc, h1, h2, h3, hv, h4]
          · refine ⟨if decide (x.keys.length < y.keys.length) = true then -1 else 1, callV_fn (body := ic85) rfl rfl ?_⟩
            have h4' : ¬ ((x.keys.length : Int) = y.keys.length) := by omega
            simp [Rg.enc, h1, h2] at hv
            simp [ic85, Rg.enc, h1, h2, h3, hv, h4']
    · refine ⟨if decide (x.e > y.e) = true then -1 else 1, callV_fn (body := ic85) rfl rfl ?_⟩
      simp [ic85, Rg.enc, h1, h2]
  · refine ⟨if decide (x.b < y.b) = true then -1 else 1, callV_fn (body := ic85) rfl rfl ?_⟩
    simp [ic85, Rg.enc, h1]

open Classical in
noncomputable def cmp (x y : Rg) : Int := if h : ∃ v, callV prog 85 [x.enc, y.enc] = some (I v, []) then h.choose else 0
def KeysOk (x : Rg) : Prop := x.keys.length < 1000000
@[simp] theorem cmp_spec (x y : Rg) (hx : KeysOk x) : callV prog 85 [x.enc, y.enc] = some (I (cmp x y), []) := by
  have h := cmp_ex x y hx
  unfold cmp
  rw [dif_pos h]
  exact h.choose_spec

@[simp] theorem szs_Rg {l : List Rg} : szs 4 (l.map Rg.enc) = true := by simp [szs, Rg.enc]

/-! ### Sorted -/

/-- What the regions that lie there come to as the insertion goes on: some list of the same regions. -/
theorem sort_in {ms : List Rg} {x : Rg} {rest : List PV} (hm : ∀ y ∈ ms, KeysOk y) (hlen : ms.length ≤ 1000) {n c : Nat} : ∀ (k : Nat), k ≤ ms.length →
    ∃ j : Nat, j ≤ ms.length ∧
      evV prog ic50_0 ⟨tm [(3, .arr 100 ms.length 0 ms.length), (5, .ptr 101 0), (6, I k), (7, .list rest), (8, I n), (9, I c)], hp [(100, some (.arr 4 (ms.map Rg.enc) false)), (101, some (.box x.enc.cells))]⟩
        = some (.exit 2, ⟨tm [(3, .arr 100 ms.length 0 ms.length), (5, .ptr 101 0), (6, I j), (7, .list rest), (8, I n), (9, I c)], hp [(100, some (.arr 4 (ms.map Rg.enc) false)), (101, some (.box x.enc.cells))]⟩) := by
  intro k
  induction k with
  | zero =>
    intro _
    refine ⟨0, by omega, ?_⟩
    rw [ic50_0_eq]
    simp [ic50_0_b, Rg.enc]
  | succ k ih =>
    intro hk
    have hkl : k < ms.length := by omega
    have e1 : ms[k]? = some ms[k] := List.getElem?_eq_getElem _
    have hw : IntKind.i64.wrap (k : Int) = k := wrap64 (by omega) (by omega)
    have hp0 : (0 : Int) < (k : Int) + 1 := by omega
    have hok : KeysOk ms[k] := hm _ (List.getElem_mem _)
    have hc := cmp_spec ms[k] x hok
    by_cases h : cmp ms[k] x > 0
    · obtain ⟨j, j1, j2⟩ := ih (by omega)
      refine ⟨j, j1, ?_⟩
      rw [ic50_0_eq]
      simp [Rg.enc] at hc j2
      simp [ic50_0_b, Rg.enc, hp0, hw, e1, hkl, hc, h]
      exact j2
    · refine ⟨k + 1, by omega, ?_⟩
      rw [ic50_0_eq]
      simp [Rg.enc] at hc
      simp [ic50_0_b, Rg.enc, hp0, hw, e1, hkl, hc, h]

end Go.Ab.Prog

/- Part Sorted. -/
namespace Go.Ab.Prog
open Go Go.Ab
set_option linter.unusedSimpArgs false
set_option maxHeartbeats 4000000

def zeroRg : Rg := ⟨⟨#[]⟩, 0, 0, []⟩

theorem as_map {L : List Rg} : ∀ {R : List PV}, (∀ r ∈ R, r ∈ L.map Rg.enc) → ∃ ms : List Rg, R = ms.map Rg.enc ∧ ∀ y ∈ ms, y ∈ L
  | [], _ => ⟨[], rfl, by simp⟩
  | r :: R, h => by
    obtain ⟨ms, h1, h2⟩ := as_map (R := R) (L := L) (fun r hr => h r (by simp [hr]))
    obtain ⟨y, hy, rfl⟩ := List.mem_map.1 (h r (by simp))
    exact ⟨y :: ms, by simp [h1], fun z hz => by
      rcases List.mem_cons.1 hz with rfl | hz
      · exact hy
      · exact h2 z hz⟩

theorem sort_loop {L : List Rg} (hL : ∀ y ∈ L, KeysOk y) {all : List Rg} (hall : ∀ y ∈ all, y ∈ L) (h0 : zeroRg ∈ L) (hal : all.length ≤ 100) : ∀ (m i : Nat) (ms : List Rg), i + m = all.length → ms.length = i → (∀ y ∈ ms, y ∈ L) →
    ∃ ms' : List Rg, ms'.length = all.length ∧ (∀ y ∈ ms', y ∈ L) ∧
      evV prog ic50_1 ⟨tm [(3, .arr 100 ms.length 0 ms.length), (7, .list (all.map Rg.enc)), (8, I all.length), (9, I i)], hp [(100, some (.arr 4 (ms.map Rg.enc) false))]⟩
        = some (.exit 0, ⟨tm [(3, .arr 100 ms'.length 0 ms'.length)], hp [(100, some (.arr 4 (ms'.map Rg.enc) false))]⟩) := by
  intro m
  induction m with
  | zero =>
    intro i ms hi hm hms
    refine ⟨ms, by omega, hms, ?_⟩
    have : ¬ i < all.length := by omega
    rw [ic50_1_eq]
    simp [ic50_1_b, this]
  | succ m ih =>
    intro i ms hi hm hms
    have hlt : i < all.length := by omega
    have e1 : all[i]? = some all[i] := List.getElem?_eq_getElem _
    have hxL : all[i] ∈ L := hall _ (List.getElem_mem _)
    obtain ⟨j, j1, j2⟩ := sort_in (ms := ms) (x := all[i]) (rest := all.map Rg.enc) (fun y hy => hL y (hms y hy)) (by omega) (n := all.length) (c := i) ms.length (by omega)
    have hw1 : IntKind.i64.wrap ((i : Int) + 1) = i + 1 := wrap64 (by omega) (by omega)
    have hw2 : IntKind.i64.wrap ((j : Int) + 1) = j + 1 := wrap64 (by omega) (by omega)
    have m1 : (ms.length + 1) * 56 ≤ room := by unfold room; omega
    have m2 : ms.length + 1 ≤ room := by unfold room; omega
    have m3 : j < ms.length + 1 := by omega
    have m4 : j ≤ ms.length + 1 := by omega
    have m5 : 0 ≤ (j : Int) + 1 := by omega
    have m6 : ((j : Int) + 1).toNat = j + 1 := by omega
    have m7 : j + 1 + (ms.length - j) ≤ ms.length + 1 := by clear j2 ih; omega
    have m8 : j + (ms.length + 1 - j) ≤ ms.length + 1 := by clear j2 ih; omega
    have hR0 : ∀ r ∈ ms.map Rg.enc ++ [zeroRg.enc], r ∈ L.map Rg.enc := fun r hr => by
      rcases List.mem_append.1 hr with h | h
      · obtain ⟨y, hy, rfl⟩ := List.mem_map.1 h
        exact List.mem_map.2 ⟨y, hms y hy, rfl⟩
      · rw [List.mem_singleton.1 h]; exact List.mem_map.2 ⟨_, h0, rfl⟩
    have hRl : (ms.map Rg.enc ++ [zeroRg.enc]).length = ms.length + 1 := by simp
    generalize hR : ms.map Rg.enc ++ [zeroRg.enc] = R at *
    have hsub : sub R (ms.length + 1) j (ms.length + 1 - j) = R.drop j := by
      rw [sub_eq hRl, List.take_of_length_le (by simp [hRl])]
    have hszR : szs 4 R = true := by rw [← hR]; simp [zeroRg, Rg.enc]
    have hszR' : szs 4 (R.drop j) = true := szs_drop hszR
    have hmin : min (ms.length + 1 - j) (ms.length - j) = ms.length - j := by omega
    have hdl : (R.drop j).length = ms.length + 1 - j := by simp [hRl]
    have hcl : (cpy R (j + 1) (R.drop j) (ms.length - j)).length = ms.length + 1 := by
      rw [cpy_length (by omega) (by omega), hRl]
    have hcm : ∀ r ∈ cpy R (j + 1) (R.drop j) (ms.length - j), r ∈ L.map Rg.enc := fun r hr => by
      rcases cpy_mem hr with h | h
      · exact hR0 r h
      · exact hR0 r (List.mem_of_mem_drop h)
    generalize hC : cpy R (j + 1) (R.drop j) (ms.length - j) = C at *
    obtain ⟨cs, hcs, hcsL⟩ := as_map hcm
    have hcsl : cs.length = ms.length + 1 := by rw [hcs] at hcl; simpa using hcl
    obtain ⟨ms', k1, k2, k3⟩ := ih (i + 1) (cs.set j all[i]) (by omega) (by simp; omega) (fun y hy => by
      rcases List.mem_or_eq_of_mem_set hy with h | h
      · exact hcsL y h
      · rw [h]; exact hxL)
    have e2 : cs[j]? = some cs[j] := List.getElem?_eq_getElem _
    have hjc : j < cs.length := by omega
    refine ⟨ms', k1, k2, ?_⟩
    rw [ic50_1_eq]
    simp [Rg.enc] at j2
    simp [Rg.enc, zeroRg] at hR
    simp [ic50_1_b, hlt, e1, Rg.enc, j2, m1, m2, hw1, hw2, j1, m3, m4, m5, m6, m7, m8, hR, hsub, hszR', hmin, hRl, hC, hcs, e2, hjc, hcsl]
    simpa [Rg.enc, hcsl, List.map_set] using k3

theorem sort_spec {all : List Rg} (hk : ∀ y ∈ all, KeysOk y) (hal : all.length ≤ 100) : ∃ ms : List Rg, ms.length = all.length ∧ (∀ y ∈ ms, y = zeroRg ∨ y ∈ all) ∧
    callV prog 50 [.list (all.map Rg.enc)] = some (.list (ms.map Rg.enc), []) := by
  obtain ⟨ms, h1, h2, h3⟩ := sort_loop (L := zeroRg :: all) (fun y hy => by
    rcases List.mem_cons.1 hy with rfl | h
    · show ([] : List Pr).length < 1000000; decide
    · exact hk y h) (all := all) (fun y hy => by simp [hy]) (by simp) hal all.length 0 [] (by omega) rfl (by simp)
  refine ⟨ms, h1, fun y hy => by simpa using h2 y hy, ?_⟩
  refine callV_fn (body := ic50) rfl rfl ?_
  simp at h3
  simp [ic50, h3]

end Go.Ab.Prog

/- Part DocA. -/
namespace Go.Ab.Prog
open Go Go.Ab
set_option linter.unusedSimpArgs false
set_option maxHeartbeats 4000000

def attrs : List PV := [.agg [.str ⟨#[119, 111, 114, 100]⟩, .bool false], .agg [.str ⟨#[116, 97, 103]⟩, .bool false], .agg [.str ⟨#[102, 101, 97, 116]⟩, .bool true]]
@[simp] theorem attrs_spec : callV prog 46 [] = some (.list attrs, []) := by
  refine callV_fn (body := ic46) rfl rfl ?_
  simp [ic46, attrs]

def words : List ByteArray := [⟨#[97]⟩, ⟨#[98]⟩, ⟨#[99]⟩, ⟨#[65]⟩, ⟨#[97, 98]⟩, ⟨#[]⟩]
def tags : List ByteArray := [⟨#[88]⟩, ⟨#[89]⟩]
def feats : List ByteArray := [⟨#[124]⟩, ⟨#[124, 112, 124]⟩, ⟨#[124, 112, 124, 113, 124]⟩, ⟨#[124, 113, 124]⟩]
def types : List ByteArray := [⟨#[115]⟩, ⟨#[110, 112]⟩, ⟨#[116]⟩]

theorem word_ex {n : Int} (h0 : 0 ≤ n) (h1 : n < 6) : ∃ s ∈ words, callV prog 47 [I n] = some (.str s, []) := by
  have : n = 0 ∨ n = 1 ∨ n = 2 ∨ n = 3 ∨ n = 4 ∨ n = 5 := by omega
  rcases this with rfl | rfl | rfl | rfl | rfl | rfl
  · exact ⟨⟨#[97]⟩, by simp [words], by refine callV_fn (body := ic47) rfl rfl ?_; simp [ic47]⟩
  · exact ⟨⟨#[98]⟩, by simp [words], by refine callV_fn (body := ic47) rfl rfl ?_; simp [ic47]⟩
  · exact ⟨⟨#[99]⟩, by simp [words], by refine callV_fn (body := ic47) rfl rfl ?_; simp [ic47]⟩
  · exact ⟨⟨#[65]⟩, by simp [words], by refine callV_fn (body := ic47) rfl rfl ?_; simp [ic47]⟩
  · exact ⟨⟨#[97, 98]⟩, by simp [words], by refine callV_fn (body := ic47) rfl rfl ?_; simp [ic47]⟩
  · exact ⟨⟨#[]⟩, by simp [words], by refine callV_fn (body := ic47) rfl rfl ?_; simp [ic47]⟩
theorem tag_ex {n : Int} (h0 : 0 ≤ n) (h1 : n < 2) : ∃ s ∈ tags, callV prog 48 [I n] = some (.str s, []) := by
  have : n = 0 ∨ n = 1 := by omega
  rcases this with rfl | rfl
  · exact ⟨⟨#[88]⟩, by simp [tags], by refine callV_fn (body := ic48) rfl rfl ?_; simp [ic48]⟩
  · exact ⟨⟨#[89]⟩, by simp [tags], by refine callV_fn (body := ic48) rfl rfl ?_; simp [ic48]⟩
theorem feat_ex {n : Int} (h0 : 0 ≤ n) (h1 : n < 4) : ∃ s ∈ feats, callV prog 49 [I n] = some (.str s, []) := by
  have : n = 0 ∨ n = 1 ∨ n = 2 ∨ n = 3 := by omega
  rcases this with rfl | rfl | rfl | rfl
  · exact ⟨⟨#[124]⟩, by simp [feats], by refine callV_fn (body := ic49) rfl rfl ?_; simp [ic49]⟩
  · exact ⟨⟨#[124, 112, 124]⟩, by simp [feats], by refine callV_fn (body := ic49) rfl rfl ?_; simp [ic49]⟩
  · exact ⟨⟨#[124, 112, 124, 113, 124]⟩, by simp [feats], by refine callV_fn (body := ic49) rfl rfl ?_; simp [ic49]⟩
  · exact ⟨⟨#[124, 113, 124]⟩, by simp [feats], by refine callV_fn (body := ic49) rfl rfl ?_; simp [ic49]⟩
theorem type_ex {n : Int} (h0 : 0 ≤ n) (h1 : n < 3) : ∃ s ∈ types, callV prog 28 [I n] = some (.str s, []) := by
  have : n = 0 ∨ n = 1 ∨ n = 2 := by omega
  rcases this with rfl | rfl | rfl
  · exact ⟨⟨#[115]⟩, by simp [types], by refine callV_fn (body := ic28) rfl rfl ?_; simp [ic28, mod]⟩
  · exact ⟨⟨#[110, 112]⟩, by simp [types], by refine callV_fn (body := ic28) rfl rfl ?_; simp [ic28, mod]⟩
  · exact ⟨⟨#[116]⟩, by simp [types], by refine callV_fn (body := ic28) rfl rfl ?_; simp [ic28, mod]⟩

end Go.Ab.Prog

/- Part DocB. -/
namespace Go.Ab.Prog
open Go Go.Ab
set_option linter.unusedSimpArgs false
set_option maxHeartbeats 4000000

def tokEnc (t : List ByteArray) : PV := .list (t.map .str)
def TokOk (t : List ByteArray) : Prop := ∃ a b c, t = [a, b, c] ∧ a ∈ words ∧ b ∈ tags ∧ c ∈ feats
@[simp] theorem szs_tok {l : List (List ByteArray)} : szs 1 (l.map tokEnc) = true := by simp [szs, tokEnc]

theorem idx8 {k : Int} (h : 0 ≤ k) : ∃ w : Int, 0 ≤ w ∧ w < 6 ∧ ([.int .i64 0, .int .i64 1, .int .i64 0, .int .i64 2, .int .i64 3, .int .i64 4, .int .i64 1, .int .i64 5] : List PV)[(k % 8).toNat]? = some (.int .i64 w) := by
  have : k % 8 = 0 ∨ k % 8 = 1 ∨ k % 8 = 2 ∨ k % 8 = 3 ∨ k % 8 = 4 ∨ k % 8 = 5 ∨ k % 8 = 6 ∨ k % 8 = 7 := by omega
  rcases this with h | h | h | h | h | h | h | h <;> rw [h]
  · exact ⟨0, by decide, by decide, rfl⟩
  · exact ⟨1, by decide, by decide, rfl⟩
  · exact ⟨0, by decide, by decide, rfl⟩
  · exact ⟨2, by decide, by decide, rfl⟩
  · exact ⟨3, by decide, by decide, rfl⟩
  · exact ⟨4, by decide, by decide, rfl⟩
  · exact ⟨1, by decide, by decide, rfl⟩
  · exact ⟨5, by decide, by decide, rfl⟩

theorem tok_ar {k : Int} (h0 : 0 ≤ k) (h1 : k < 48) : k.tmod 8 = k % 8 ∧ k.tdiv 8 = k / 8 ∧ k.tdiv 12 = k / 12 ∧ (k / 8).tmod 2 = k / 8 % 2 ∧ 0 ≤ k % 8 ∧ 0 ≤ k / 8 % 2 ∧ k / 8 % 2 < 2 ∧ 0 ≤ k / 12 ∧ k / 12 < 4 ∧ IntKind.i64.wrap (k / 8) = k / 8 ∧ IntKind.i64.wrap (k / 12) = k / 12 := by
  refine ⟨Int.tmod_eq_emod_of_nonneg h0, Int.tdiv_eq_ediv_of_nonneg h0, Int.tdiv_eq_ediv_of_nonneg h0, Int.tmod_eq_emod_of_nonneg (by omega), by omega, by omega, by omega, by omega, by omega, wrap64 (by omega) (by omega), wrap64 (by omega) (by omega)⟩

abbrev emptyC : List PV := [.nil, .nil, .nil, .nil, .nil, .nil, .nil]
def docBox (n : Nat) : List PV := [.list attrs, .arr 100 n 0 n, .arr 103 1 0 1, .nil, .nil, .nil, .nil]

theorem tok_loop {l : List Int} (hl : small l) {n : Nat} (hn : n ≤ 7) {tx : PV} :
    ∀ (m i a : Nat) (ts : List (List ByteArray)), i + m = n → ts.length = i → (∀ t ∈ ts, TokOk t) →
    ∃ (a' : Nat) (ts' : List (List ByteArray)), ts'.length = n ∧ (∀ t ∈ ts', TokOk t) ∧
      evV prog ic25_0 ⟨tm [(0, .ptr 0 0), (6, .ptr 105 0), (7, I n), (8, .ptr 104 0), (9, I i)], hp [(0, some (.box (tape l a))), (100, some (.arr 1 (ts.map tokEnc) false)), (103, some (.arr 4 [tx] false)), (104, some (.box (docBox ts.length))), (105, some (.box emptyC))]⟩
        = some (.exit 0, ⟨tm [(0, .ptr 0 0), (6, .ptr 105 0), (7, I n), (8, .ptr 104 0)], hp [(0, some (.box (tape l a'))), (100, some (.arr 1 (ts'.map tokEnc) false)), (103, some (.arr 4 [tx] false)), (104, some (.box (docBox ts'.length))), (105, some (.box emptyC))]⟩) := by
  intro m
  induction m with
  | zero =>
    intro i a ts hi hlen hts
    refine ⟨a, ts, by omega, hts, ?_⟩
    have : ¬ i < n := by omega
    rw [ic25_0_eq]
    simp [ic25_0_b, this, docBox]
  | succ m ih =>
    intro i a ts hi hlen hts
    have hlt : i < n := by omega
    have hw1 : IntKind.i64.wrap ((i : Int) + 1) = i + 1 := wrap64 (by omega) (by omega)
    have k0 := next_nonneg l a 48
    have k1 := next_lt l a (n := 48) (by omega)
    have m1 : (ts.length + 1) * 24 ≤ room := by unfold room; omega
    have m2 : ts.length + 1 ≤ room := by unfold room; omega
    generalize hk : next l a 48 = k at *
    obtain ⟨r1, r2, r3, r4, r5, r6, r7, r8, r9, r10, r11⟩ := tok_ar k0 k1
    obtain ⟨w, w0, w1, w2⟩ := idx8 k0
    obtain ⟨s1, s1m, s1c⟩ := word_ex w0 w1
    obtain ⟨s2, s2m, s2c⟩ := tag_ex r6 r7
    obtain ⟨s3, s3m, s3c⟩ := feat_ex r8 r9
    obtain ⟨a', ts', j1, j2, j3⟩ := ih (i + 1) (adv l a) (ts ++ [[s1, s2, s3]]) (by omega) (by simp; omega) (fun t ht => by
      rcases List.mem_append.1 ht with h | h
      · exact hts t h
      · rw [List.mem_singleton.1 h]; exact ⟨s1, s2, s3, rfl, s1m, s2m, s3m⟩)
    refine ⟨a', ts', j1, j2, ?_⟩
    rw [ic25_0_eq]
    simp [ic25_0_b, hlt, docBox, hl, hk, r1, r2, r3, r4, r5, r6, r7, r8, r9, r10, r11, w2, s1c, s2c, s3c, m1, m2, hw1]
    simpa [tokEnc, docBox] using j3

end Go.Ab.Prog

/- Part DocC. -/
namespace Go.Ab.Prog
open Go Go.Ab
set_option linter.unusedSimpArgs false
set_option maxHeartbeats 4000000

theorem cross_loop {l : List Int} {a : Nat} {ms : List Rg} {r : Rg} (hlen : ms.length ≤ 100) {kv : PV} (hkv : refC kv = []) {n k nt : Nat} {tr tx : List PV} : ∀ (m i : Nat) (cr : Bool), i + m = ms.length →
    ∃ cr' : Bool, evV prog ic25_1 ⟨tm [(0, .ptr 0 0), (6, .ptr 105 0), (7, I n), (8, .ptr 104 0), (11, .arr 102 ms.length 0 ms.length), (12, I k), (14, .ptr 106 0), (15, .bool cr), (101, .arr 102 ms.length 0 ms.length), (102, I ms.length), (103, I i)], hp [(0, some (.box (tape l a))), (100, some (.arr 1 tr false)), (102, some (.arr 4 (ms.map Rg.enc) false)), (103, some (.arr 4 tx false)), (104, some (.box (docBox nt))), (105, some (.box emptyC)), (106, some (.box [.str r.typ, I r.b, I r.e, kv]))]⟩
      = some (.exit 4, ⟨tm [(0, .ptr 0 0), (6, .ptr 105 0), (7, I n), (8, .ptr 104 0), (11, .arr 102 ms.length 0 ms.length), (12, I k), (14, .ptr 106 0), (15, .bool cr')], hp [(0, some (.box (tape l a))), (100, some (.arr 1 tr false)), (102, some (.arr 4 (ms.map Rg.enc) false)), (103, some (.arr 4 tx false)), (104, some (.box (docBox nt))), (105, some (.box emptyC)), (106, some (.box [.str r.typ, I r.b, I r.e, kv]))]⟩) := by
  intro m
  induction m with
  | zero =>
    intro i cr hi
    have : ¬ i < ms.length := by omega
    refine ⟨cr, ?_⟩
    rw [ic25_1_eq]
    simp [ic25_1_b, this, docBox, Rg.enc, hkv]
  | succ m ih =>
    intro i cr hi
    have hlt : i < ms.length := by omega
    have e1 : ms[i]? = some ms[i] := List.getElem?_eq_getElem _
    have hw1 : IntKind.i64.wrap ((i : Int) + 1) = i + 1 := wrap64 (by omega) (by omega)
    cases cr
    · cases c1 : ms[i].typ.toList == r.typ.toList
      · obtain ⟨c', hc⟩ := ih (i + 1) false (by omega)
        refine ⟨c', ?_⟩
        rw [ic25_1_eq]
        simp [ic25_1_b, hlt, e1, hw1, docBox, Rg.enc, hkv, c1]
        simpa [Rg.enc, docBox] using hc
      · by_cases c2 : ms[i].b < r.e
        · by_cases c3 : r.b < ms[i].e
          · by_cases c4 : ms[i].b ≤ r.b
            · by_cases c5 : r.e ≤ ms[i].e
              · obtain ⟨c', hc⟩ := ih (i + 1) false (by omega)
                refine ⟨c', ?_⟩
                rw [ic25_1_eq]
                simp [ic25_1_b, hlt, e1, hw1, docBox, Rg.enc, hkv, c1, c2, c3, c4, c5]
                simpa [Rg.enc, docBox] using hc
              · by_cases c6 : r.b ≤ ms[i].b
                · by_cases c7 : ms[i].e ≤ r.e
                  · obtain ⟨c', hc⟩ := ih (i + 1) false (by omega)
                    refine ⟨c', ?_⟩
                    rw [ic25_1_eq]
                    simp [ic25_1_b, hlt, e1, hw1, docBox, Rg.enc, hkv, c1, c2, c3, c4, c5, c6, c7]
                    simpa [Rg.enc, docBox] using hc
                  · obtain ⟨c', hc⟩ := ih (i + 1) true (by omega)
                    refine ⟨c', ?_⟩
                    rw [ic25_1_eq]
                    simp [ic25_1_b, hlt, e1, hw1, docBox, Rg.enc, hkv, c1, c2, c3, c4, c5, c6, c7]
                    simpa [Rg.enc, docBox] using hc
                · obtain ⟨c', hc⟩ := ih (i + 1) true (by omega)
                  refine ⟨c', ?_⟩
                  rw [ic25_1_eq]
                  simp [ic25_1_b, hlt, e1, hw1, docBox, Rg.enc, hkv, c1, c2, c3, c4, c5, c6]
                  simpa [Rg.enc, docBox] using hc
            · by_cases c6 : r.b ≤ ms[i].b
              · by_cases c7 : ms[i].e ≤ r.e
                · obtain ⟨c', hc⟩ := ih (i + 1) false (by omega)
                  refine ⟨c', ?_⟩
                  rw [ic25_1_eq]
                  simp [ic25_1_b, hlt, e1, hw1, docBox, Rg.enc, hkv, c1, c2, c3, c4, c6, c7]
                  simpa [Rg.enc, docBox] using hc
                · obtain ⟨c', hc⟩ := ih (i + 1) true (by omega)
                  refine ⟨c', ?_⟩
                  rw [ic25_1_eq]
                  simp [ic25_1_b, hlt, e1, hw1, docBox, Rg.enc, hkv, c1, c2, c3, c4, c6, c7]
                  simpa [Rg.enc, docBox] using hc
              · obtain ⟨c', hc⟩ := ih (i + 1) true (by omega)
                refine ⟨c', ?_⟩
                rw [ic25_1_eq]
                simp [ic25_1_b, hlt, e1, hw1, docBox, Rg.enc, hkv, c1, c2, c3, c4, c6]
                simpa [Rg.enc, docBox] using hc
          · obtain ⟨c', hc⟩ := ih (i + 1) false (by omega)
            refine ⟨c', ?_⟩
            rw [ic25_1_eq]
            simp [ic25_1_b, hlt, e1, hw1, docBox, Rg.enc, hkv, c1, c2, c3]
            simpa [Rg.enc, docBox] using hc
        · obtain ⟨c', hc⟩ := ih (i + 1) false (by omega)
          refine ⟨c', ?_⟩
          rw [ic25_1_eq]
          simp [ic25_1_b, hlt, e1, hw1, docBox, Rg.enc, hkv, c1, c2]
          simpa [Rg.enc, docBox] using hc
    · obtain ⟨c', hc⟩ := ih (i + 1) true (by omega)
      refine ⟨c', ?_⟩
      rw [ic25_1_eq]
      simp [ic25_1_b, hlt, e1, hw1, docBox, Rg.enc, hkv]
      simpa [Rg.enc, docBox] using hc

end Go.Ab.Prog

/- Part DocD. -/
namespace Go.Ab.Prog
open Go Go.Ab
set_option linter.unusedSimpArgs false
set_option maxHeartbeats 4000000

def PrOk (p : Pr) : Prop := p.1 = ⟨#[110]⟩ ∧ (p.2 = ⟨#[49]⟩ ∨ p.2 = ⟨#[50]⟩)
def RgOk (r : Rg) : Prop := r.typ ∈ types ∧ (r.keys = [] ∨ ∃ p, PrOk p ∧ r.keys = [p])

theorem reg_ar {b x n y e : Int} (hx0 : 0 ≤ b) (hx1 : b < n) (hn : n ≤ 7) (hy0 : 0 ≤ y) (hy1 : y < n - b) : IntKind.i64.wrap (b + 1) = b + 1 ∧ IntKind.i64.wrap (n - b) = n - b ∧ IntKind.i64.wrap (b + 1 + y) = b + 1 + y :=
  ⟨wrap64 (by omega) (by omega), wrap64 (by omega) (by omega), wrap64 (by omega) (by omega)⟩

theorem reg_loop {l : List Int} (hl : small l) {n : Int} (hn : 1 ≤ n ∧ n ≤ 7) {nt : Nat} {tr tx : List PV} : ∀ (k a : Nat) (ms : List Rg), k ≤ 4 → ms.length ≤ 4 - k → (∀ r ∈ ms, RgOk r) →
    ∃ (a' : Nat) (ms' : List Rg), ms'.length ≤ 4 ∧ (∀ r ∈ ms', RgOk r) ∧
      evV prog ic25_2 ⟨tm [(0, .ptr 0 0), (6, .ptr 105 0), (7, I n), (8, .ptr 104 0), (11, .arr 102 ms.length 0 ms.length), (12, I k)], hp [(0, some (.box (tape l a))), (100, some (.arr 1 tr false)), (102, some (.arr 4 (ms.map Rg.enc) false)), (103, some (.arr 4 tx false)), (104, some (.box (docBox nt))), (105, some (.box emptyC))]⟩
        = some (.exit 2, ⟨tm [(0, .ptr 0 0), (6, .ptr 105 0), (8, .ptr 104 0), (11, .arr 102 ms'.length 0 ms'.length)], hp [(0, some (.box (tape l a'))), (100, some (.arr 1 tr false)), (102, some (.arr 4 (ms'.map Rg.enc) false)), (103, some (.arr 4 tx false)), (104, some (.box (docBox nt))), (105, some (.box emptyC))]⟩) := by
  intro k
  induction k with
  | zero =>
    intro a ms _ hlen hms
    refine ⟨a, ms, by omega, hms, ?_⟩
    rw [ic25_2_eq]
    simp [ic25_2_b, docBox]
  | succ k ih =>
    intro a ms hk hlen hms
    have hkp : (0 : Int) < (k : Int) + 1 := by omega
    have hwk : IntKind.i64.wrap (k : Int) = k := wrap64 (by omega) (by omega)
    have m1 : (ms.length + 1) * 56 ≤ room := by unfold room; omega
    have m2 : ms.length + 1 ≤ room := by unfold room; omega
    have hml : ms.length ≤ 100 := by omega
    have b0 := next_nonneg l a n
    have b1 := next_lt l a (n := n) hn.1
    have hn9 : n < 9223372036854775808 := by omega
    generalize hb : next l a n = b at *
    have y0 := next_nonneg l (adv l (adv l a)) (n - b)
    have y1 := next_lt l (adv l (adv l a)) (n := n - b) (by omega)
    have hn10 : n - b < 9223372036854775808 := by omega
    obtain ⟨w1, w2, w3⟩ := reg_ar (x := 0) (e := 0) b0 b1 hn.2 y0 y1
    generalize hy : b + 1 + next l (adv l (adv l a)) (n - b) = e at *
    obtain ⟨ty, tym, tyc⟩ := type_ex (next_nonneg l (adv l a) 2) (Int.lt_trans (next_lt l (adv l a) (n := 2) (by decide)) (by decide))
    by_cases hq : next l (adv l (adv l (adv l a))) 2 = 1
    · obtain ⟨cr, hcr⟩ := cross_loop (l := l) (a := adv l (adv l (adv l (adv l (adv l a))))) (ms := ms) (r := ⟨ty, b, e, []⟩) hml (kv := .list [.agg [.str ⟨#[110]⟩, .str (pick2 (next l (adv l (adv l (adv l (adv l a)))) 2) ⟨#[49]⟩ ⟨#[50]⟩)]]) rfl (n := n.toNat) (k := k + 1) (nt := nt) (tr := tr) (tx := tx) ms.length 0 false (by omega)
      have hnn : ((n.toNat : Nat) : Int) = n := by omega
      simp [Rg.enc, docBox, hnn] at hcr
      cases cr
      · obtain ⟨a', ms', j1, j2, j3⟩ := ih (adv l (adv l (adv l (adv l (adv l a))))) (ms ++ [⟨ty, b, e, [(⟨#[110]⟩, pick2 (next l (adv l (adv l (adv l (adv l a)))) 2) ⟨#[49]⟩ ⟨#[50]⟩)]⟩]) (by omega) (by simp; omega) (fun r hr => by
          rcases List.mem_append.1 hr with h | h
          · exact hms r h
          · rw [List.mem_singleton.1 h]; exact ⟨tym, .inr ⟨_, ⟨rfl, by rcases next2 l (adv l (adv l (adv l (adv l a)))) with h | h <;> simp [h, pick2]⟩, rfl⟩⟩)
        refine ⟨a', ms', j1, j2, ?_⟩
        rw [ic25_2_eq]
        simp [ic25_2_b, docBox, hkp, hl, hb, hn9, hn10, w1, w2, w3, hy, tyc, hq, hcr, m1, m2, hwk]
        simpa [Rg.enc, docBox, prEnc] using j3
      · obtain ⟨a', ms', j1, j2, j3⟩ := ih (adv l (adv l (adv l (adv l (adv l a))))) ms (by omega) (by omega) hms
        refine ⟨a', ms', j1, j2, ?_⟩
        rw [ic25_2_eq]
        simp [ic25_2_b, docBox, hkp, hl, hb, hn9, hn10, w1, w2, w3, hy, tyc, hq, hcr, m1, m2, hwk]
        simpa [Rg.enc, docBox, prEnc] using j3
    · obtain ⟨cr, hcr⟩ := cross_loop (l := l) (a := adv l (adv l (adv l (adv l a)))) (ms := ms) (r := ⟨ty, b, e, []⟩) hml (kv := .nil) rfl (n := n.toNat) (k := k + 1) (nt := nt) (tr := tr) (tx := tx) ms.length 0 false (by omega)
      have hnn : ((n.toNat : Nat) : Int) = n := by omega
      simp [Rg.enc, docBox, hnn] at hcr
      cases cr
      · obtain ⟨a', ms', j1, j2, j3⟩ := ih (adv l (adv l (adv l (adv l a)))) (ms ++ [⟨ty, b, e, []⟩]) (by omega) (by simp; omega) (fun r hr => by
          rcases List.mem_append.1 hr with h | h
          · exact hms r h
          · rw [List.mem_singleton.1 h]; exact ⟨tym, .inl rfl⟩)
        refine ⟨a', ms', j1, j2, ?_⟩
        rw [ic25_2_eq]
        simp [ic25_2_b, docBox, hkp, hl, hb, hn9, hn10, w1, w2, w3, hy, tyc, hq, hcr, m1, m2, hwk]
        simpa [Rg.enc, docBox, prEnc] using j3
      · obtain ⟨a', ms', j1, j2, j3⟩ := ih (adv l (adv l (adv l (adv l a)))) ms (by omega) (by omega) hms
        refine ⟨a', ms', j1, j2, ?_⟩
        rw [ic25_2_eq]
        simp [ic25_2_b, docBox, hkp, hl, hb, hn9, hn10, w1, w2, w3, hy, tyc, hq, hcr, m1, m2, hwk]
        simpa [Rg.enc, docBox, prEnc] using j3

end Go.Ab.Prog

/- Part DocE. -/
namespace Go.Ab.Prog
open Go Go.Ab
set_option linter.unusedSimpArgs false
set_option maxHeartbeats 8000000

structure Tx where
  name : ByteArray
  b : Int
  e : Int
  info : List Pr
def Tx.enc (x : Tx) : PV := .agg [.str x.name, I x.b, I x.e, .list (x.info.map prEnc)]

structure Corp where
  toks : List (List ByteArray)
  texts : List Tx
  regs : List Rg
  nodes : List Nd
  heads : List Int
  rels : List ByteArray
def Corp.cells (c : Corp) : List PV := [.list attrs, .list (c.toks.map tokEnc), .list (c.texts.map Tx.enc), .list (c.regs.map Rg.enc), .list (c.nodes.map Nd.enc), .list (c.heads.map I), .list (c.rels.map .str)]

def InfoOk (p : Pr) : Prop := p.1 = ⟨#[121, 101, 97, 114]⟩ ∧ (p.2 = ⟨#[49]⟩ ∨ p.2 = ⟨#[50]⟩ ∨ p.2 = ⟨#[]⟩)

structure DocOk (name : ByteArray) (c : Corp) : Prop where
  n1 : 1 ≤ c.toks.length
  n7 : c.toks.length ≤ 7
  toks : ∀ t ∈ c.toks, TokOk t
  texts : ∃ info, c.texts = [⟨name, 0, c.toks.length, info⟩] ∧ (info = [] ∨ ∃ p, InfoOk p ∧ info = [p])
  regs : c.regs.length ≤ 4 ∧ ∀ r ∈ c.regs, r = zeroRg ∨ RgOk r
  nodes : c.nodes.length ≤ 6 ∧ (∀ x ∈ c.nodes, x.label ∈ labels) ∧ ∃ z, z ≤ (c.toks.length : Int) ∧ Tops 0 0 c.nodes z
  heads : (c.heads = [] ∧ c.rels = []) ∨ (c.heads.length = c.toks.length ∧ c.rels.length = c.toks.length ∧ (∀ r ∈ c.rels, r ∈ relNames) ∧ ∃ ord : List Nat, ord.Perm (List.range c.toks.length) ∧ Forest ord c.heads c.toks.length)

theorem rgok_keys {ms : List Rg} (h : ∀ r ∈ ms, RgOk r) : ∀ y ∈ ms, KeysOk y := fun y hy => by
  rcases (h y hy).2 with h | ⟨p, _, h⟩ <;> simp [KeysOk, h]

@[simp] theorem flat_tok {ts : List (List ByteArray)} : (ts.map tokEnc).flatMap refC = [] := by
  induction ts with
  | nil => rfl
  | cons t ts ih => simp [tokEnc] at ih ⊢

theorem doc_spec {l : List Int} (hl : small l) (a : Nat) (name : ByteArray) {most : Int} (hm : 1 ≤ most ∧ most ≤ 7) :
    ∃ (a' : Nat) (c : Corp), DocOk name c ∧ callV prog 25 [.boxed (tape l a), .str name, I most] = some (.agg c.cells, [tape l a']) := by
  have n0 := next_nonneg l a most
  have n1 := next_lt l a (n := most) hm.1
  have hmr : most < 9223372036854775808 := by omega
  have hw : IntKind.i64.wrap (1 + next l a most) = 1 + next l a most := wrap64 (by omega) (by omega)
  generalize hn : 1 + next l a most = n at *
  have hn1 : 1 ≤ n := by omega
  have hn7 : n ≤ 7 := by omega
  have hnn : ((n.toNat : Nat) : Int) = n := by omega
  by_cases hq : next l (adv l a) 3 = 2
  · obtain ⟨a3, ts, t1, t2, t3⟩ := tok_loop hl (n := n.toNat) (by omega) (tx := Tx.enc ⟨name, 0, n, [(⟨#[121, 101, 97, 114]⟩, pick3 (next l (adv l (adv l a)) 3) ⟨#[49]⟩ ⟨#[50]⟩ ⟨#[]⟩)]⟩) n.toNat 0 (adv l (adv l (adv l a))) [] (by omega) rfl (by simp)
    have k0 := next_nonneg l a3 5
    have k1 := next_lt l a3 (n := 5) (by omega)
    obtain ⟨a4, ms, r1, r2, r3⟩ := reg_loop hl ⟨hn1, hn7⟩ (nt := n.toNat) (tr := ts.map tokEnc) (tx := [Tx.enc ⟨name, 0, n, [(⟨#[121, 101, 97, 114]⟩, pick3 (next l (adv l (adv l a)) 3) ⟨#[49]⟩ ⟨#[50]⟩ ⟨#[]⟩)]⟩]) (next l a3 5).toNat (adv l a3) [] (by omega) (by simp) (by simp)
    have hk : (((next l a3 5).toNat : Nat) : Int) = next l a3 5 := by omega
    obtain ⟨ss, s1, s2, s3⟩ := sort_spec (rgok_keys r2) (by omega)
    have tn : 1 ≤ (ts.map tokEnc).length ∧ (ts.map tokEnc).length ≤ 7 := by simp; omega
    obtain ⟨a5, z, ns, d1, d2, d3, d4, d5⟩ := nodes_spec hl a4 (attrs := attrs) (texts := [Tx.enc ⟨name, 0, n, [(⟨#[121, 101, 97, 114]⟩, pick3 (next l (adv l (adv l a)) 3) ⟨#[49]⟩ ⟨#[50]⟩ ⟨#[]⟩)]⟩]) (regs := ss.map Rg.enc) tn
    have hz : z ≤ (ts.length : Int) := by simpa using d1
    have htl : ((ts.length : Nat) : Int) = n := by omega
    simp [hnn, docBox, t1] at t3
    simp [hk, docBox] at r3
    have hss : ss.length ≤ 4 ∧ ∀ r ∈ ss, r = zeroRg ∨ RgOk r := ⟨by omega, fun r hr => (s2 r hr).imp id (fun h => r2 r h)⟩
    by_cases hh : next l a5 2 = 1
    · obtain ⟨a6, hs, rs, ord, h1, h2, h3, h4, h5, h6⟩ := heads_spec hl (adv l a5) (attrs := attrs) (texts := [Tx.enc ⟨name, 0, n, [(⟨#[121, 101, 97, 114]⟩, pick3 (next l (adv l (adv l a)) 3) ⟨#[49]⟩ ⟨#[50]⟩ ⟨#[]⟩)]⟩]) (regs := ss.map Rg.enc) (nds := ns.map Nd.enc) tn
      simp only [List.length_map] at h1 h2 h4 h5
      rcases h6 with h6 | h6
      · refine ⟨a6, ⟨ts, [⟨name, 0, n, [(⟨#[121, 101, 97, 114]⟩, pick3 (next l (adv l (adv l a)) 3) ⟨#[49]⟩ ⟨#[50]⟩ ⟨#[]⟩)]⟩], ss, ns, [], []⟩, ⟨by show 1 ≤ ts.length; omega, by show ts.length ≤ 7; omega, t2, ⟨[(⟨#[121, 101, 97, 114]⟩, pick3 (next l (adv l (adv l a)) 3) ⟨#[49]⟩ ⟨#[50]⟩ ⟨#[]⟩)], by show [_] = [_]; rw [htl], .inr ⟨_, ⟨rfl, by rcases next3 l (adv l (adv l a)) with h | h | h <;> simp [h, pick3]⟩, rfl⟩⟩, hss, ⟨d2, d4, z, hz, d3⟩, .inl ⟨rfl, rfl⟩⟩, ?_⟩
        refine callV_fn (body := ic25) rfl rfl ?_
        simp [Tx.enc, prEnc] at t3 r3 d5 h6
        simp [ic25, hl, hmr, hw, hn, hq, prEnc, t3, r3, s3, d5, hh, t1, Corp.cells, Tx.enc, h6]
      · refine ⟨a6, ⟨ts, [⟨name, 0, n, [(⟨#[121, 101, 97, 114]⟩, pick3 (next l (adv l (adv l a)) 3) ⟨#[49]⟩ ⟨#[50]⟩ ⟨#[]⟩)]⟩], ss, ns, hs, rs⟩, ⟨by show 1 ≤ ts.length; omega, by show ts.length ≤ 7; omega, t2, ⟨[(⟨#[121, 101, 97, 114]⟩, pick3 (next l (adv l (adv l a)) 3) ⟨#[49]⟩ ⟨#[50]⟩ ⟨#[]⟩)], by show [_] = [_]; rw [htl], .inr ⟨_, ⟨rfl, by rcases next3 l (adv l (adv l a)) with h | h | h <;> simp [h, pick3]⟩, rfl⟩⟩, hss, ⟨d2, d4, z, hz, d3⟩, .inr ⟨h1, h2, h3, ord, h4, h5⟩⟩, ?_⟩
        refine callV_fn (body := ic25) rfl rfl ?_
        simp [Tx.enc, prEnc] at t3 r3 d5 h6
        simp [ic25, hl, hmr, hw, hn, hq, prEnc, t3, r3, s3, d5, hh, t1, Corp.cells, Tx.enc, h6]
    · refine ⟨adv l a5, ⟨ts, [⟨name, 0, n, [(⟨#[121, 101, 97, 114]⟩, pick3 (next l (adv l (adv l a)) 3) ⟨#[49]⟩ ⟨#[50]⟩ ⟨#[]⟩)]⟩], ss, ns, [], []⟩, ⟨by show 1 ≤ ts.length; omega, by show ts.length ≤ 7; omega, t2, ⟨[(⟨#[121, 101, 97, 114]⟩, pick3 (next l (adv l (adv l a)) 3) ⟨#[49]⟩ ⟨#[50]⟩ ⟨#[]⟩)], by show [_] = [_]; rw [htl], .inr ⟨_, ⟨rfl, by rcases next3 l (adv l (adv l a)) with h | h | h <;> simp [h, pick3]⟩, rfl⟩⟩, hss, ⟨d2, d4, z, hz, d3⟩, .inl ⟨rfl, rfl⟩⟩, ?_⟩
      refine callV_fn (body := ic25) rfl rfl ?_
      simp [Tx.enc, prEnc] at t3 r3 d5
      simp [ic25, hl, hmr, hw, hn, hq, prEnc, t3, r3, s3, d5, hh, t1, Corp.cells, Tx.enc]
  · obtain ⟨a3, ts, t1, t2, t3⟩ := tok_loop hl (n := n.toNat) (by omega) (tx := Tx.enc ⟨name, 0, n, []⟩) n.toNat 0 (adv l (adv l a)) [] (by omega) rfl (by simp)
    have k0 := next_nonneg l a3 5
    have k1 := next_lt l a3 (n := 5) (by omega)
    obtain ⟨a4, ms, r1, r2, r3⟩ := reg_loop hl ⟨hn1, hn7⟩ (nt := n.toNat) (tr := ts.map tokEnc) (tx := [Tx.enc ⟨name, 0, n, []⟩]) (next l a3 5).toNat (adv l a3) [] (by omega) (by simp) (by simp)
    have hk : (((next l a3 5).toNat : Nat) : Int) = next l a3 5 := by omega
    obtain ⟨ss, s1, s2, s3⟩ := sort_spec (rgok_keys r2) (by omega)
    have tn : 1 ≤ (ts.map tokEnc).length ∧ (ts.map tokEnc).length ≤ 7 := by simp; omega
    obtain ⟨a5, z, ns, d1, d2, d3, d4, d5⟩ := nodes_spec hl a4 (attrs := attrs) (texts := [Tx.enc ⟨name, 0, n, []⟩]) (regs := ss.map Rg.enc) tn
    have hz : z ≤ (ts.length : Int) := by simpa using d1
    have htl : ((ts.length : Nat) : Int) = n := by omega
    simp [hnn, docBox, t1] at t3
    simp [hk, docBox] at r3
    have hss : ss.length ≤ 4 ∧ ∀ r ∈ ss, r = zeroRg ∨ RgOk r := ⟨by omega, fun r hr => (s2 r hr).imp id (fun h => r2 r h)⟩
    by_cases hh : next l a5 2 = 1
    · obtain ⟨a6, hs, rs, ord, h1, h2, h3, h4, h5, h6⟩ := heads_spec hl (adv l a5) (attrs := attrs) (texts := [Tx.enc ⟨name, 0, n, []⟩]) (regs := ss.map Rg.enc) (nds := ns.map Nd.enc) tn
      simp only [List.length_map] at h1 h2 h4 h5
      rcases h6 with h6 | h6
      · refine ⟨a6, ⟨ts, [⟨name, 0, n, []⟩], ss, ns, [], []⟩, ⟨by show 1 ≤ ts.length; omega, by show ts.length ≤ 7; omega, t2, ⟨[], by show [_] = [_]; rw [htl], .inl rfl⟩, hss, ⟨d2, d4, z, hz, d3⟩, .inl ⟨rfl, rfl⟩⟩, ?_⟩
        refine callV_fn (body := ic25) rfl rfl ?_
        simp [Tx.enc, prEnc] at t3 r3 d5 h6
        simp [ic25, hl, hmr, hw, hn, hq, t3, r3, s3, d5, hh, t1, Corp.cells, Tx.enc, h6]
      · refine ⟨a6, ⟨ts, [⟨name, 0, n, []⟩], ss, ns, hs, rs⟩, ⟨by show 1 ≤ ts.length; omega, by show ts.length ≤ 7; omega, t2, ⟨[], by show [_] = [_]; rw [htl], .inl rfl⟩, hss, ⟨d2, d4, z, hz, d3⟩, .inr ⟨h1, h2, h3, ord, h4, h5⟩⟩, ?_⟩
        refine callV_fn (body := ic25) rfl rfl ?_
        simp [Tx.enc, prEnc] at t3 r3 d5 h6
        simp [ic25, hl, hmr, hw, hn, hq, t3, r3, s3, d5, hh, t1, Corp.cells, Tx.enc, h6]
    · refine ⟨adv l a5, ⟨ts, [⟨name, 0, n, []⟩], ss, ns, [], []⟩, ⟨by show 1 ≤ ts.length; omega, by show ts.length ≤ 7; omega, t2, ⟨[], by show [_] = [_]; rw [htl], .inl rfl⟩, hss, ⟨d2, d4, z, hz, d3⟩, .inl ⟨rfl, rfl⟩⟩, ?_⟩
      refine callV_fn (body := ic25) rfl rfl ?_
      simp [Tx.enc, prEnc] at t3 r3 d5
      simp [ic25, hl, hmr, hw, hn, hq, t3, r3, s3, d5, hh, t1, Corp.cells, Tx.enc]

end Go.Ab.Prog
