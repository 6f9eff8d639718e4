/- What the small functions answer: numbers dealt, and the corpus as plain data. -/
import Derived.Test.YtgiemhcpilkfaaaGreatDoorKLoops

namespace Go.Ab.Prog
open Go Go.Ab
set_option linter.unusedSimpArgs false

theorem emod_of_tmod_neg {x n : Int} (hn : 0 < n) (h : x.tmod n < 0) : x.tmod n + n = x % n := by
  have h1 := Int.emod_nonneg x (b := n) (by omega)
  have h2 := Int.emod_lt_of_pos x hn
  rw [Int.tmod_eq_emod] at h ⊢
  split at h
  · omega
  · rename_i hc
    rw [if_neg hc]; omega
theorem tmod_nonneg_eq {x n : Int} (hn : 0 < n) (h : ¬ x.tmod n < 0) : x.tmod n = x % n := by
  have h1 := Int.emod_nonneg x (b := n) (by omega)
  have h2 := Int.emod_lt_of_pos x hn
  rw [Int.tmod_eq_emod] at h ⊢
  split at h
  · rename_i hc; rw [if_pos hc]; omega
  · rename_i hc
    exfalso; omega

def mod (x n : Int) : Int := if n < 1 then 0 else x % n

theorem mod_nonneg (x n : Int) : 0 ≤ mod x n := by
  unfold mod; split
  · omega
  · exact Int.emod_nonneg _ (by omega)
theorem mod_lt (x : Int) {n : Int} (h : 1 ≤ n) : mod x n < n := by
  unfold mod; split
  · omega
  · exact Int.emod_lt_of_pos _ (by omega)

@[simp] theorem mod_spec (x n : Int) (hn : n < 9223372036854775808) :
    callV prog 17 [.int .i64 x, .int .i64 n] = some (.int .i64 (mod x n), []) := by
  refine callV_fn (body := ic17) rfl rfl ?_
  by_cases h : n < 1
  · simp [ic17, mod, h]
  · have hm : 0 ≤ x % n := Int.emod_nonneg _ (by omega)
    have hm2 : x % n < n := Int.emod_lt_of_pos _ (by omega)
    have hne : n ≠ 0 := by omega
    by_cases h2 : x.tmod n < 0
    · have e := emod_of_tmod_neg (by omega) h2
      simp [ic17, mod, h, h2, hne, e]
      exact wrap64 (by omega) (by omega)
    · have e := tmod_nonneg_eq (by omega) h2
      rw [e] at h2
      simp [ic17, mod, h, h2, hne, e]

/-- A tape that deals numbers. -/
abbrev I (n : Int) : PV := .int .i64 n
def tape (l : List Int) (a : Nat) : List PV := [.list (l.map I), .int .i64 a]
def small (l : List Int) : Prop := l.length < 1000000

def next (l : List Int) (a : Nat) (n : Int) : Int := match l[a]? with
  | some x => mod x n
  | none => 0
def adv (l : List Int) (a : Nat) : Nat := if a < l.length then a + 1 else a

@[simp] theorem next_nonneg (l : List Int) (a : Nat) (n : Int) : 0 ≤ next l a n := by
  unfold next; split
  · exact mod_nonneg _ _
  · omega
theorem next_lt (l : List Int) (a : Nat) {n : Int} (h : 1 ≤ n) : next l a n < n := by
  unfold next; split
  · exact mod_lt _ h
  · omega

@[simp] theorem next_spec (l : List Int) (a : Nat) (n : Int) (hl : small l) (hn : n < 9223372036854775808) :
    callV prog 26 [.boxed (tape l a), .int .i64 n] = some (.int .i64 (next l a n), [tape l (adv l a)]) := by
  refine callV_fn (body := ic26) rfl rfl ?_
  unfold small at hl
  unfold tape
  by_cases h : a < l.length
  · have h' : ¬ l.length ≤ a := by omega
    have hx : (l.map I)[a]? = some (.int .i64 l[a]) := by simp [h]
    have hw : IntKind.i64.wrap ((a : Int) + 1) = a + 1 := wrap64 (by omega) (by omega)
    have hw2 : IntKind.i64.wrap (a : Int) = a := wrap64 (by omega) (by omega)
    simp [ic26, h, h', hw, hw2, hx, next, adv, hn]
  · have h' : l.length ≤ a := by omega
    simp [ic26, h, h', next, adv]

@[simp] theorem purCs_tape {h : Hp} {nrm : Bool} {l : List Int} {a : Nat} : purCs h nrm (tape l a) = some (tape l a) := by simp [tape]
@[simp] theorem refC_tape {l : List Int} {a : Nat} : (tape l a).flatMap refC = [] := by simp [tape]
@[simp] theorem all_tape {l : List Int} {a : Nat} {P : Nat → Prop} : (∀ x, x ∈ tape l a → ∀ y, y ∈ refC x → P y) = True := by simp [tape]

theorem new_spec (l : List Int) (hl : l.length < 9223372036854775808) : callV prog 9 [.list (l.map I)] = some (.boxed (tape (l.take 120) 0), []) := by
  refine callV_fn (body := ic9) rfl rfl ?_
  by_cases h : 120 < l.length
  · have h' : (120 : Int) < l.length := by omega
    have h2 : 120 ≤ l.length := by omega
    have h3 : ¬ l.length < 120 := by omega
    simp [ic9, h, h', h2, h3, tape, List.map_take]
  · have h' : ¬ (120 : Int) < l.length := by omega
    have h2 : l.take 120 = l := List.take_of_length_le (by omega)
    simp [ic9, h, h', h2, tape]

@[simp] theorem szs_I {l : List Int} : szs 1 (l.map I) = true := by simp [szs]

/-! ### Corpora -/

structure Nd where
  label : ByteArray
  b : Int
  e : Int
  p : Int
def Nd.enc (x : Nd) : PV := .agg [.str x.label, .int .i64 x.b, .int .i64 x.e, .int .i64 x.p]
@[simp] theorem Nd.cells (x : Nd) : x.enc.cells = [.str x.label, .int .i64 x.b, .int .i64 x.e, .int .i64 x.p] := rfl

/-- Constituents that were dealt: what is on top ends where the next begins, and has at most one below it, which stands next. -/
inductive Tops : Int → Nat → List Nd → Int → Prop
  | nil {at_ i} : Tops at_ i [] at_
  | one {at_ b e i s l z} (h1 : at_ ≤ b) (h2 : b < e) (hr : Tops e (i + 1) l z) : Tops at_ i (⟨s, b, e, -1⟩ :: l) z
  | two {at_ b e i s l z t b' e'} (h1 : at_ ≤ b) (h2 : b < e) (h3 : b ≤ b') (h4 : b' < e') (h5 : e' ≤ e) (hr : Tops e (i + 2) l z) : Tops at_ i (⟨s, b, e, -1⟩ :: ⟨t, b', e', (i : Int)⟩ :: l) z

theorem Tops.one' {a i l z b e s} (h : Tops a i l z) (h1 : z ≤ b) (h2 : b < e) : Tops a i (l ++ [⟨s, b, e, -1⟩]) e := by
  induction h with
  | nil => exact .one h1 h2 .nil
  | one k1 k2 _ ih => exact .one k1 k2 (ih h1)
  | two k1 k2 k3 k4 k5 _ ih => exact .two k1 k2 k3 k4 k5 (ih h1)


theorem Tops.two' {a i l z b e s t b' e' j} (h : Tops a i l z) (hj : j = i + l.length) (h1 : z ≤ b) (h2 : b < e) (h3 : b ≤ b') (h4 : b' < e') (h5 : e' ≤ e) :
    Tops a i (l ++ [⟨s, b, e, -1⟩, ⟨t, b', e', (j : Int)⟩]) e := by
  induction h with
  | nil => simp at hj; subst hj; exact .two h1 h2 h3 h4 h5 .nil
  | one k1 k2 _ ih => exact .one k1 k2 (ih (by simp at hj; omega) h1)
  | two k1 k2 k3 k4 k5 _ ih => exact .two k1 k2 k3 k4 k5 (ih (by simp at hj; omega) h1)

@[simp] theorem szs_Nd {l : List Nd} : szs 4 (l.map Nd.enc) = true := by simp [szs]

def labels : List ByteArray := [⟨#[83]⟩, ⟨#[78, 80]⟩, ⟨#[86, 80]⟩]

theorem next2 (l : List Int) (a : Nat) : next l a 2 = 0 ∨ next l a 2 = 1 := by
  have h1 := next_nonneg l a 2
  have h2 := next_lt l a (n := 2) (by omega)
  omega

def pick2 {α : Type} (n : Int) (x y : α) : α := if n = 0 then x else y
@[simp] theorem str2_next {s t : ByteArray} {l : List Int} {a : Nat} : ([.str s, .str t] : List PV)[(next l a 2).toNat]? = some (.str (pick2 (next l a 2) s t)) := by
  rcases next2 l a with h | h <;> simp [h, pick2]

theorem next3 (l : List Int) (a : Nat) : next l a 3 = 0 ∨ next l a 3 = 1 ∨ next l a 3 = 2 := by
  have h1 := next_nonneg l a 3
  have h2 := next_lt l a (n := 3) (by omega)
  omega
def pick3 {α : Type} (n : Int) (x y z : α) : α := if n = 0 then x else if n = 1 then y else z
@[simp] theorem str3_next {s t u : ByteArray} {l : List Int} {a : Nat} : ([.str s, .str t, .str u] : List PV)[(next l a 3).toNat]? = some (.str (pick3 (next l a 3) s t u)) := by
  rcases next3 l a with h | h | h <;> simp [h, pick3]

abbrev IN (n : Nat) : PV := .int .i64 n
@[simp] theorem szs_IN {l : List Nat} : szs 1 (l.map IN) = true := by simp [szs]

end Go.Ab.Prog
