/- The way up from a token, as plain lists. -/
import Derived.Test.YtgiemhcpilkfaaaGreatDoorKConF

namespace Go.Ab.Prog
open Go Go.Ab
set_option linter.unusedSimpArgs false
set_option linter.unusedVariables false
set_option maxHeartbeats 4000000

/-- The way up from a token, itself first. -/
inductive Way (c : Corp) : Nat → List Nat → Prop
  | top {i : Nat} (hi : i < c.toks.length) (h : hd c i = -1) : Way c i [i]
  | step {i j : Nat} {w : List Nat} (hi : i < c.toks.length) (h : hd c i = (j : Int)) (hw : Way c j w) : Way c i (i :: w)

theorem HeadsOk.rk_lt {c : Corp} {rk : Nat → Nat} (h : HeadsOk c rk) {i : Nat} (hne : Prog.hd c i ≠ -1) : rk i < c.toks.length := by
  unfold Prog.hd at hne
  cases e : c.heads[i]? with
  | none => simp [e] at hne
  | some v => exact (h.rk i v e).1

theorem way_upF {c : Corp} {rk : Nat → Nat} (h : HeadsOk c rk) : ∀ (f i : Nat), i < c.toks.length → (hd c i = -1 ∨ rk i ≤ f) → Way c i (i :: upF c f (hd c i)) := by
  intro f
  induction f with
  | zero =>
    intro i hi hr
    rcases h.next hi with h1 | ⟨j, h1, h2, h3⟩
    · exact .top hi h1
    · rcases hr with h4 | h4
      · omega
      · omega
  | succ f ih =>
    intro i hi hr
    rcases h.next hi with h1 | ⟨j, h1, h2, h3⟩
    · rw [h1]
      simp [upF]
      exact .top hi h1
    · rw [h1]
      simp only [upF]
      rw [if_pos (by omega)]
      have e : ((j : Int)).toNat = j := by omega
      rw [e]
      refine .step hi h1 (ih j h2 ?_)
      rcases hr with h4 | h4
      · omega
      · right; omega

def way (c : Corp) (i : Nat) : List Nat := i :: up c i
theorem way_ok {c : Corp} {rk : Nat → Nat} (h : HeadsOk c rk) {i : Nat} (hi : i < c.toks.length) : Way c i (way c i) := by
  have e : up c i = upF c c.toks.length (hd c i) := by
    unfold up
    rw [if_pos (by simp [isTok]; omega)]
    rfl
  unfold way
  rw [e]
  refine way_upF h _ i hi ?_
  by_cases h1 : hd c i = -1
  · exact .inl h1
  · exact .inr (Nat.le_of_lt (h.rk_lt h1))

theorem Way.uniq {c : Corp} {i : Nat} {w w' : List Nat} (h : Way c i w) (h' : Way c i w') : w = w' := by
  induction h generalizing w' with
  | top hi h =>
    cases h' with
    | top _ _ => rfl
    | step _ h2 _ => omega
  | @step i j w hi h hw ih =>
    cases h' with
    | top _ h2 => omega
    | @step _ k w2 _ h2 hw2 =>
      have : j = k := by omega
      subst this
      rw [ih hw2]

theorem Way.head {c : Corp} {i : Nat} {w : List Nat} (h : Way c i w) : ∃ t, w = i :: t := by
  cases h with
  | top _ _ => exact ⟨[], rfl⟩
  | step _ _ _ => exact ⟨_, rfl⟩

theorem Way.tok {c : Corp} {i : Nat} {w : List Nat} (h : Way c i w) : ∀ x ∈ w, x < c.toks.length := by
  induction h with
  | top hi _ => intro x hx; rw [List.mem_singleton.1 hx]; exact hi
  | step hi _ _ ih =>
    intro x hx
    rcases List.mem_cons.1 hx with rfl | hx
    · exact hi
    · exact ih x hx

theorem Way.rank {c : Corp} {rk : Nat → Nat} (hh : HeadsOk c rk) {i : Nat} {w : List Nat} (h : Way c i w) : ∀ x ∈ w, x = i ∨ rk x < rk i := by
  induction h with
  | top hi _ => intro x hx; exact .inl (List.mem_singleton.1 hx)
  | step hi h hw ih =>
    rename_i i j w
    intro x hx
    rcases List.mem_cons.1 hx with rfl | hx
    · exact .inl rfl
    · rcases hh.next hi with h1 | ⟨k, h1, _, h3⟩
      · omega
      · have : k = j := by omega
        subst this
        rcases ih x hx with rfl | h4
        · exact .inr h3
        · exact .inr (by omega)

theorem Way.nodup {c : Corp} {rk : Nat → Nat} (hh : HeadsOk c rk) {i : Nat} {w : List Nat} (h : Way c i w) : w.Nodup := by
  induction h with
  | top hi _ => simp
  | step hi h hw ih =>
    rename_i i j w
    refine List.nodup_cons.2 ⟨fun hm => ?_, ih⟩
    rcases hh.next hi with h1 | ⟨k, h1, _, h3⟩
    · omega
    · have : k = j := by omega
      subst this
      rcases hw.rank hh i hm with rfl | h4
      · omega
      · omega

/-- What follows on the way from a token that lies on it is that token's way. -/
theorem Way.suffix {c : Corp} {i : Nat} {w : List Nat} (h : Way c i w) : ∀ {w1 w2 : List Nat} {x : Nat}, w = w1 ++ x :: w2 → Way c x (x :: w2) := by
  induction h with
  | top hi h =>
    intro w1 w2 x e
    cases w1 with
    | nil => simp at e; obtain ⟨rfl, rfl⟩ := e; exact .top hi h
    | cons y w1 => simp at e
  | step hi h hw ih =>
    rename_i i j w
    intro w1 w2 x e
    cases w1 with
    | nil => simp at e; obtain ⟨rfl, rfl⟩ := e; exact .step hi h hw
    | cons y w1 => simp at e; exact ih e.2

theorem Way.of_mem {c : Corp} {i : Nat} {w : List Nat} (h : Way c i w) {x : Nat} (hx : x ∈ w) : ∃ w1 w2, w = w1 ++ x :: w2 ∧ Way c x (x :: w2) := by
  obtain ⟨w1, w2, e⟩ := List.append_of_mem hx
  exact ⟨w1, w2, e, h.suffix e⟩

theorem Way.last {c : Corp} {i : Nat} {w : List Nat} (h : Way c i w) {x : Nat} {v : List Nat} (hx : x ∈ w) (hv : Way c x v) : w.getLast? = v.getLast? := by
  obtain ⟨w1, w2, e, h2⟩ := h.of_mem hx
  have := h2.uniq hv
  subst this
  rw [e, List.getLast?_append]
  cases h3 : (x :: w2).getLast? with
  | none => simp at h3
  | some y => rfl

/-- The first of a way that lies on another. -/
theorem Way.meet {c : Corp} {rk : Nat → Nat} (hh : HeadsOk c rk) {i j : Nat} {w v : List Nat} (hw : Way c i w) (hv : Way c j v) {m m' : Nat}
    (h1 : w.find? (fun x => decide (x ∈ v)) = some m) (h2 : v.find? (fun x => decide (x ∈ w)) = some m') : m = m' := by
  obtain ⟨a1, as, bs, e1, n1⟩ := List.find?_eq_some_iff_append.1 h1
  obtain ⟨a2, cs, ds, e2, n2⟩ := List.find?_eq_some_iff_append.1 h2
  simp at a1 a2 n1 n2
  have k1 := hw.suffix e1
  have k2 := hv.suffix e2
  have hm' : m' ∈ m :: bs := by
    have : m' ∈ as ++ m :: bs := e1 ▸ a2
    rcases List.mem_append.1 this with h | h
    · exact absurd (e2 ▸ (by simp : m' ∈ cs ++ m' :: ds)) (n1 m' h)
    · exact h
  have hm : m ∈ m' :: ds := by
    have : m ∈ cs ++ m' :: ds := e2 ▸ a1
    rcases List.mem_append.1 this with h | h
    · exact absurd (e1 ▸ (by simp : m ∈ as ++ m :: bs)) (n2 m h)
    · exact h
  rcases k1.rank hh m' hm' with h | h
  · exact h.symm
  · rcases k2.rank hh m hm with h3 | h3
    · exact h3
    · omega

end Go.Ab.Prog
