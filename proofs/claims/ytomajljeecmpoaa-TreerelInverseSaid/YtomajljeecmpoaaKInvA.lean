/- What TreerelInverse computes, as plain lists. -/
import Derived.Test.YtomajljeecmpoaaKWay

namespace Go.Ab.Prog
open Go Go.Ab
set_option linter.unusedSimpArgs false
set_option linter.unusedVariables false
set_option maxHeartbeats 4000000

/-! ### Maps to true -/

structure AllTrue (es : List (Int × Bool)) : Prop where
  val : ∀ p ∈ es, p.2 = true
  nodup : (es.map (·.1)).Nodup

theorem put_keys (n x : Int) (b : Bool) : ∀ es : List (Int × Bool), x ∈ (mapPut es n b).map (·.1) ↔ x = n ∨ x ∈ es.map (·.1)
  | [] => by simp [mapPut]
  | (m, c) :: l => by
    have ih := put_keys n x b l
    by_cases h : n = m
    · subst h
      simp [mapPut]
    · simp only [mapPut, if_neg h, List.map_cons, List.mem_cons, ih]
      constructor
      · rintro (h1 | h1 | h1)
        · exact .inr (.inl h1)
        · exact .inl h1
        · exact .inr (.inr h1)
      · rintro (h1 | h1 | h1)
        · exact .inr (.inl h1)
        · exact .inl h1
        · exact .inr (.inr h1)

theorem put_true {n : Int} : ∀ {es : List (Int × Bool)}, AllTrue es → AllTrue (mapPut es n true)
  | [], h => ⟨by simp [mapPut], by simp [mapPut]⟩
  | (m, c) :: l, h => by
    have hl : AllTrue l := ⟨fun p hp => h.val p (by simp [hp]), (List.nodup_cons.1 h.nodup).2⟩
    have hm : m ∉ l.map (·.1) := (List.nodup_cons.1 h.nodup).1
    by_cases e : n = m
    · subst e
      refine ⟨fun p hp => ?_, ?_⟩
      · simp only [mapPut, if_true, List.mem_cons] at hp
        rcases hp with rfl | hp
        · rfl
        · exact hl.val p hp
      · simp only [mapPut, if_true, List.map_cons]
        exact List.nodup_cons.2 ⟨hm, hl.nodup⟩
    · have ih := put_true (n := n) hl
      refine ⟨fun p hp => ?_, ?_⟩
      · simp only [mapPut, if_neg e, List.mem_cons] at hp
        rcases hp with rfl | hp
        · exact h.val _ (by simp)
        · exact ih.val p hp
      · simp only [mapPut, if_neg e, List.map_cons]
        refine List.nodup_cons.2 ⟨fun hc => ?_, ih.nodup⟩
        rcases (put_keys n m true l).1 hc with h1 | h1
        · exact e h1.symm
        · exact hm h1

theorem at_true {n : Int} : ∀ {es : List (Int × Bool)}, AllTrue es → n ∈ es.map (·.1) → mapAt es n = true
  | [], h, hn => by simp at hn
  | (m, c) :: l, h, hn => by
    by_cases e : n = m
    · simp only [mapAt, if_pos e]
      exact h.val (m, c) (by simp)
    · simp only [mapAt, if_neg e]
      refine at_true ⟨fun p hp => h.val p (by simp [hp]), (List.nodup_cons.1 h.nodup).2⟩ ?_
      simpa [e] using hn

def putAll (es : List (Int × Bool)) (u : List Nat) : List (Int × Bool) := u.foldl (fun e (k : Nat) => mapPut e (k : Int) true) es

theorem putAll_keys (x : Int) : ∀ (u : List Nat) (es : List (Int × Bool)), x ∈ (putAll es u).map (·.1) ↔ x ∈ es.map (·.1) ∨ ∃ k ∈ u, x = (k : Int)
  | [], es => by simp [putAll]
  | k :: u, es => by
    have ih := putAll_keys x u (mapPut es (k : Int) true)
    have e : putAll es (k :: u) = putAll (mapPut es (k : Int) true) u := rfl
    rw [e, ih, put_keys]
    constructor
    · rintro ((h | h) | ⟨m, h1, h2⟩)
      · exact .inr ⟨k, by simp, h⟩
      · exact .inl h
      · exact .inr ⟨m, by simp [h1], h2⟩
    · rintro (h | ⟨m, h1, h2⟩)
      · exact .inl (.inr h)
      · rcases List.mem_cons.1 h1 with rfl | h1
        · exact .inl (.inl h2)
        · exact .inr ⟨m, h1, h2⟩

theorem putAll_true : ∀ (u : List Nat) {es : List (Int × Bool)}, AllTrue es → AllTrue (putAll es u)
  | [], es, h => h
  | k :: u, es, h => putAll_true u (put_true h)

/-! ### The tokens below -/

def esAt (c : Corp) (i : Nat) : Nat → List (Int × Bool)
  | 0 => [((i : Int), true)]
  | j + 1 => if hd c j = (i : Int) then putAll (esAt c i j) (under c j) else esAt c i j

theorem esAt_true (c : Corp) (i : Nat) : ∀ j, AllTrue (esAt c i j)
  | 0 => ⟨by simp [esAt], by simp [esAt]⟩
  | j + 1 => by
    simp only [esAt]
    split
    · exact putAll_true _ (esAt_true c i j)
    · exact esAt_true c i j

theorem esAt_keys (c : Corp) (i : Nat) (x : Int) : ∀ j, x ∈ (esAt c i j).map (·.1) ↔ x = (i : Int) ∨ ∃ k, k < j ∧ hd c k = (i : Int) ∧ ∃ y ∈ under c k, x = (y : Int)
  | 0 => by simp [esAt]
  | j + 1 => by
    have ih := esAt_keys c i x j
    simp only [esAt]
    split
    · rename_i h
      rw [putAll_keys, ih]
      constructor
      · rintro ((h1 | ⟨k, h1, h2, h3⟩) | h1)
        · exact .inl h1
        · exact .inr ⟨k, by omega, h2, h3⟩
        · exact .inr ⟨j, by omega, h, h1⟩
      · rintro (h1 | ⟨k, h1, h2, h3⟩)
        · exact .inl (.inl h1)
        · by_cases e : k = j
          · subst e; exact .inr h3
          · exact .inl (.inr ⟨k, by omega, h2, h3⟩)
    · rename_i h
      rw [ih]
      constructor
      · rintro (h1 | ⟨k, h1, h2, h3⟩)
        · exact .inl h1
        · exact .inr ⟨k, by omega, h2, h3⟩
      · rintro (h1 | ⟨k, h1, h2, h3⟩)
        · exact .inl h1
        · by_cases e : k = j
          · subst e; exact absurd h2 h
          · exact .inr ⟨k, by omega, h2, h3⟩

theorem Way.parent {c : Corp} {x : Nat} {w : List Nat} (h : Way c x w) (i : Nat) : i ∈ w.tail ↔ ∃ j ∈ w, hd c j = (i : Int) := by
  induction h with
  | @top x hi h =>
    constructor
    · intro h1; simp at h1
    · rintro ⟨j, h1, h2⟩
      rw [List.mem_singleton.1 h1] at h2
      omega
  | @step x y w hi h hw ih =>
    obtain ⟨t, rfl⟩ := hw.head
    simp only [List.tail_cons] at ih ⊢
    constructor
    · intro h1
      rcases List.mem_cons.1 h1 with rfl | h1
      · exact ⟨x, by simp, h⟩
      · obtain ⟨j, h2, h3⟩ := ih.1 h1
        exact ⟨j, List.mem_cons_of_mem _ h2, h3⟩
    · rintro ⟨j, h1, h2⟩
      rcases List.mem_cons.1 h1 with rfl | h1
      · have : i = y := by omega
        rw [this]; simp
      · exact List.mem_cons_of_mem _ (ih.2 ⟨j, h1, h2⟩)

theorem under_mem {c : Corp} {i : Nat} (hi : i < c.toks.length) (x : Nat) : x ∈ under c i ↔ x < c.toks.length ∧ i ∈ way c x := by
  unfold under
  rw [if_pos (by simp [isTok]; omega)]
  simp only [List.mem_filter, List.mem_range, isUnder, Bool.or_eq_true, decide_eq_true_eq, way, List.mem_cons]
  constructor
  · rintro ⟨h1, h2 | h2⟩
    · exact ⟨h1, .inl (by omega)⟩
    · refine ⟨h1, .inr ?_⟩
      simp only [has, List.any_eq_true, decide_eq_true_eq] at h2
      obtain ⟨y, h3, h4⟩ := h2
      have : i = y := by omega
      rw [this]; exact h3
  · rintro ⟨h1, h2 | h2⟩
    · exact ⟨h1, .inl (by omega)⟩
    · refine ⟨h1, .inr ?_⟩
      simp only [has, List.any_eq_true, decide_eq_true_eq]
      exact ⟨i, h2, rfl⟩

theorem under_split {c : Corp} {rk : Nat → Nat} (hh : HeadsOk c rk) {i : Nat} (hi : i < c.toks.length) (x : Nat) :
    x ∈ under c i ↔ x = i ∨ ∃ k, k < c.toks.length ∧ hd c k = (i : Int) ∧ x ∈ under c k := by
  rw [under_mem hi]
  constructor
  · rintro ⟨h1, h2⟩
    rcases List.mem_cons.1 h2 with h2 | h2
    · exact .inl h2.symm
    · right
      have hw := way_ok hh h1
      obtain ⟨j, h3, h4⟩ := (hw.parent i).1 h2
      have hj := hw.tok j h3
      exact ⟨j, hj, h4, (under_mem hj x).2 ⟨h1, h3⟩⟩
  · rintro (rfl | ⟨k, h1, h2, h3⟩)
    · exact ⟨hi, by simp [way]⟩
    · obtain ⟨h4, h5⟩ := (under_mem h1 x).1 h3
      have hw := way_ok hh h4
      exact ⟨h4, List.mem_cons_of_mem _ ((hw.parent i).2 ⟨k, h5, h2⟩)⟩

theorem under_nodup (c : Corp) (i : Int) : (under c i).Nodup := by
  unfold under
  split
  · exact List.Nodup.sublist List.filter_sublist List.nodup_range
  · simp

theorem es_len {c : Corp} {rk : Nat → Nat} (hh : HeadsOk c rk) {i : Nat} (hi : i < c.toks.length) : (esAt c i c.toks.length).length = (under c i).length := by
  have hp : ((esAt c i c.toks.length).map (·.1)).Perm ((under c i).map (fun (n : Nat) => (n : Int))) := by
    rw [List.perm_ext_iff_of_nodup (esAt_true c i _).nodup]
    · intro x
      rw [esAt_keys]
      constructor
      · rintro (rfl | ⟨k, h1, h2, y, h3, rfl⟩)
        · exact List.mem_map.2 ⟨i, (under_split hh hi i).2 (.inl rfl), rfl⟩
        · exact List.mem_map.2 ⟨y, (under_split hh hi y).2 (.inr ⟨k, h1, h2, h3⟩), rfl⟩
      · intro hx
        obtain ⟨y, h1, rfl⟩ := List.mem_map.1 hx
        rcases (under_split hh hi y).1 h1 with rfl | ⟨k, h2, h3, h4⟩
        · exact .inl rfl
        · exact .inr ⟨k, h2, h3, y, h4, rfl⟩
    · have h := under_nodup c i
      refine List.Pairwise.map _ ?_ h
      intro a b hab
      omega
  simpa using hp.length_eq

theorem es_at {c : Corp} {rk : Nat → Nat} (hh : HeadsOk c rk) {i : Nat} (hi : i < c.toks.length) {x : Nat} (hx : x ∈ under c i) : mapAt (esAt c i c.toks.length) x = true := by
  refine at_true (esAt_true c i _) ((esAt_keys c i x _).2 ?_)
  rcases (under_split hh hi x).1 hx with rfl | ⟨k, h2, h3, h4⟩
  · exact .inl rfl
  · exact .inr ⟨k, h2, h3, x, h4, rfl⟩

/-! ### The tokens right below, in order -/

theorem filter_at {p : Nat → Bool} {n j : Nat} (hj : j < n) (hp : p j = true) : ((List.range n).filter p)[((List.range j).filter p).length]? = some j := by
  obtain ⟨d, rfl⟩ : ∃ d, n = j + 1 + d := ⟨n - (j + 1), by omega⟩
  rw [List.range_add, List.filter_append, List.range_succ, List.filter_append]
  simp [hp]

theorem filter_not {p : Nat → Bool} {n j m : Nat} (hp : p j = false) : ((List.range n).filter p)[m]? ≠ some j := by
  intro h
  have := List.mem_of_getElem? h
  rw [List.mem_filter, hp] at this
  cases this.2

theorem up_first {c : Corp} {j : Nat} (hj : j < c.toks.length) : up c j = if 0 ≤ hd c j then (hd c j).toNat :: upF c (c.toks.length - 1) (hd c (hd c j).toNat) else [] := by
  unfold up
  rw [if_pos (by simp [isTok]; omega)]
  obtain ⟨n, hn⟩ : ∃ n, c.toks.length = n + 1 := ⟨c.toks.length - 1, by omega⟩
  rw [hn, Int.toNat_natCast]
  simp only [upF, Nat.add_sub_cancel]

end Go.Ab.Prog
