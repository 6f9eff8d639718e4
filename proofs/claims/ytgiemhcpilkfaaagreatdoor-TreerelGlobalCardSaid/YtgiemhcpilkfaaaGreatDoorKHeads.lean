/- The heads that are dealt. -/
import Derived.Test.YtgiemhcpilkfaaaGreatDoorKSpec1

namespace Go.Ab.Prog
open Go Go.Ab
set_option linter.unusedSimpArgs false
set_option maxHeartbeats 4000000

theorem all_one {l : List Int} : (∀ x, x ∈ l.map I → (x.cells.length == 1) = true) = True := by simp
theorem h_room {a b : Nat} (h : a ≤ b) (hb : b ≤ 7) : a * 8 ≤ room ∧ a ≤ room ∧ (a + 1) * 8 ≤ room ∧ a + 1 ≤ room := by unfold room; omega

theorem heads_loop0 {l : List Int} (hl : small l) {n : Nat} (hn : n ≤ 7) {attrs toks texts regs nds : List PV} :
    ∀ (m i a : Nat) (ord : List Nat), i + m = n → ord.Perm (List.range i) →
    ∃ (a' : Nat) (ord' : List Nat), ord'.Perm (List.range n) ∧
      evV prog ic52_0 ⟨tm [(0, .ptr 0 0), (1, .ptr 1 0), (4, I n), (5, .list (ord.map IN)), (6, I i)], hp [(0, some (.box (tape l a))), (1, some (.box [.list attrs, .list toks, .list texts, .list regs, .list nds, .nil, .nil])), (100, none), (101, none)]⟩
        = some (.exit 0, ⟨tm [(0, .ptr 0 0), (1, .ptr 1 0), (4, I n), (5, .list (ord'.map IN))], hp [(0, some (.box (tape l a'))), (1, some (.box [.list attrs, .list toks, .list texts, .list regs, .list nds, .nil, .nil])), (100, none), (101, none)]⟩) := by
  intro m
  induction m with
  | zero =>
    intro i a ord hi hp
    have : i = n := by omega
    subst this
    refine ⟨a, ord, hp, ?_⟩
    rw [ic52_0_eq]
    simp [ic52_0_b]
  | succ m ih =>
    intro i a ord hi hp
    have hlen : ord.length = i := by have := hp.length_eq; simpa using this
    have hlt : i < n := by omega
    have hw1 : IntKind.i64.wrap ((i : Int) + 1) = i + 1 := wrap64 (by omega) (by omega)
    have hr : (i : Int) + 1 < 9223372036854775808 := by omega
    have k0 := next_nonneg l a ((i : Int) + 1)
    have k1 := next_lt l a (n := (i : Int) + 1) (by omega)
    generalize hk : next l a ((i : Int) + 1) = k at *
    have hki : k.toNat ≤ i := by omega
    have hkl : k.toNat ≤ ord.length := by omega
    have q1 : k.toNat * 8 ≤ room := by unfold room; omega
    have q2 : k.toNat ≤ room := by unfold room; omega
    have q3 : (k.toNat + 1) * 8 ≤ room := by unfold room; omega
    have q4 : k.toNat + 1 ≤ room := by unfold room; omega
    have q5 : (k.toNat + 1 + (i - k.toNat)) * 8 ≤ room := by unfold room; omega
    have q6 : k.toNat + 1 + (i - k.toNat) ≤ room := by unfold room; omega
    have q7 : k.toNat + (i - k.toNat + 1) = k.toNat + 1 + (i - k.toNat) := by omega
    have q8 : (ord.map IN).take i = ord.map IN := List.take_of_length_le (by simp [hlen])
    obtain ⟨a', ord', h1, h2⟩ := ih (i + 1) (adv l a) (ord.take k.toNat ++ [i] ++ ord.drop k.toNat) (by omega) (by
      have e1 : (ord.take k.toNat ++ [i] ++ ord.drop k.toNat).Perm ([i] ++ ord) := by
        have := List.perm_middle (a := i) (l₁ := ord.take k.toNat) (l₂ := ord.drop k.toNat)
        simpa using this
      have e2 : ([i] ++ ord).Perm (ord ++ [i]) := List.perm_append_comm
      refine e1.trans (e2.trans ?_)
      rw [List.range_succ]
      exact List.Perm.append hp (by simp))
    refine ⟨a', ord', h1, ?_⟩
    rw [ic52_0_eq]
    simp [ic52_0_b, hl, hlt, hw1, hr, hk, k0, hlen, hki, hkl, List.length_take, q1, q2, q3, q4, q5, q6, q7, q8]
    simp [List.map_take, List.map_drop] at h2
    exact h2

def relNames : List ByteArray := [⟨#[111, 98, 106]⟩, ⟨#[100, 101, 116]⟩, ⟨#[]⟩]

/-- Of the tokens in an order, the first i have a head that came before, or none. -/
def Forest (ord : List Nat) (hs : List Int) (i : Nat) : Prop := ∀ p x, p < i → ord[p]? = some x → hs[x]? = some (-1) ∨ ∃ q y, q < p ∧ ord[q]? = some y ∧ hs[x]? = some (y : Int)

theorem Forest.step {ord : List Nat} {hs : List Int} {i x : Nat} {v : Int} (h : Forest ord hs i) (hd : ord.Nodup) (hx : ord[i]? = some x) (hl : x < hs.length) (hv : v = -1 ∨ ∃ q y, q < i ∧ ord[q]? = some y ∧ v = (y : Int)) : Forest ord (hs.set x v) (i + 1) := by
  intro p z hp hz
  by_cases e : p = i
  · subst e
    rw [hx] at hz; injection hz with hz; subst hz
    rw [List.getElem?_set_self hl]
    rcases hv with rfl | ⟨q, y, h1, h2, rfl⟩
    · exact .inl rfl
    · exact .inr ⟨q, y, h1, h2, rfl⟩
  · have hne : x ≠ z := by
      rintro rfl
      obtain ⟨h2, _⟩ := List.getElem?_eq_some_iff.1 hz
      exact e ((List.getElem?_inj h2 hd).1 (hz.trans hx.symm))
    rw [List.getElem?_set_ne hne]
    exact h p z (by omega) hz

theorem heads_loop1 {l : List Int} (hl : small l) {n : Nat} (hn : n ≤ 7) {ord : List Nat} (hp : ord.Perm (List.range n)) {attrs toks texts regs nds : List PV} :
    ∀ (m i a : Nat) (hs : List Int) (rs : List ByteArray) (sm : Bool), i + m = n → hs.length = n → rs.length = n → (∀ r ∈ rs, r ∈ relNames) → Forest ord hs i →
    ∃ (a' : Nat) (hs' : List Int) (rs' : List ByteArray) (sm' : Bool), hs'.length = n ∧ rs'.length = n ∧ (∀ r ∈ rs', r ∈ relNames) ∧ Forest ord hs' n ∧
      evV prog ic52_1 ⟨tm [(0, .ptr 0 0), (1, .ptr 1 0), (5, .list (ord.map IN)), (8, .arr 100 n 0 n), (9, .arr 101 n 0 n), (10, .bool sm), (43, .list (ord.map IN)), (44, I n), (45, I i)], Ab.hp [(0, some (.box (tape l a))), (1, some (.box [.list attrs, .list toks, .list texts, .list regs, .list nds, .nil, .nil])), (100, some (.arr 1 (hs.map I) false)), (101, some (.arr 1 (rs.map .str) false))]⟩
        = some (.exit 2, ⟨tm [(1, .ptr 1 0), (8, .arr 100 n 0 n), (9, .arr 101 n 0 n), (10, .bool sm')], Ab.hp [(0, some (.box (tape l a'))), (1, some (.box [.list attrs, .list toks, .list texts, .list regs, .list nds, .nil, .nil])), (100, some (.arr 1 (hs'.map I) false)), (101, some (.arr 1 (rs'.map .str) false))]⟩) := by
  have hlen : ord.length = n := by simpa using hp.length_eq
  have hd : ord.Nodup := hp.nodup_iff.2 List.nodup_range
  intro m
  induction m with
  | zero =>
    intro i a hs rs sm hi hhs hrs hR hF
    have : i = n := by omega
    subst this
    refine ⟨a, hs, rs, sm, hhs, hrs, hR, hF, ?_⟩
    rw [ic52_1_eq]
    simp [ic52_1_b]
  | succ m ih =>
    intro i a hs rs sm hi hhs hrs hR hF
    have hlt : i < n := by omega
    obtain ⟨x, hx⟩ : ∃ x, ord[i]? = some x := ⟨ord[i]'(by omega), List.getElem?_eq_getElem _⟩
    have hxn : x < n := by
      have : x ∈ List.range n := hp.mem_iff.1 (List.mem_of_getElem? hx)
      simpa using this
    have hw1 : IntKind.i64.wrap ((i : Int) + 1) = i + 1 := wrap64 (by omega) (by omega)
    have hxr : x < rs.length := by omega
    have hxh : x < hs.length := by omega
    have hhv : hs[x]? = some hs[x] := List.getElem?_eq_getElem _
    have hrv : rs[x]? = some rs[x] := List.getElem?_eq_getElem _
    by_cases hi0 : 0 < i
    · by_cases h4 : 0 < next l a 4
      · have k0 := next_nonneg l (adv l a) (i : Int)
        have k1 := next_lt l (adv l a) (n := (i : Int)) (by omega)
        have hr : (i : Int) < 9223372036854775808 := by omega
        generalize hk : next l (adv l a) (i : Int) = k at *
        have hkl : k.toNat < ord.length := by omega
        have hy : ord[k.toNat]? = some ord[k.toNat] := List.getElem?_eq_getElem _
        have hne : ¬ ((ord[k.toNat] : Nat) : Int) = -1 := by omega
        have hpk : pick3 (next l (adv l (adv l a)) 3) (⟨#[111, 98, 106]⟩ : ByteArray) ⟨#[100, 101, 116]⟩ ⟨#[]⟩ ∈ relNames := by
          rcases next3 l (adv l (adv l a)) with h | h | h <;> simp [h, pick3, relNames]
        obtain ⟨a', hs', rs', sm', j1, j2, j3, j4, j5⟩ := ih (i + 1) (adv l (adv l (adv l a))) (hs.set x (ord[k.toNat] : Nat)) (rs.set x (pick3 (next l (adv l (adv l a)) 3) ⟨#[111, 98, 106]⟩ ⟨#[100, 101, 116]⟩ ⟨#[]⟩)) true (by omega) (by simpa using hhs) (by simpa using hrs) (fun r hr => by
          rcases List.mem_or_eq_of_mem_set hr with h | h
          · exact hR r h
          · rw [h]; exact hpk) (hF.step hd hx hxh (.inr ⟨k.toNat, _, by omega, hy, rfl⟩))
        refine ⟨a', hs', rs', sm', j1, j2, j3, j4, ?_⟩
        rw [ic52_1_eq]
        cases sm
        · simp [ic52_1_b, hlt, hx, hxn, hhs, hhv, hrs, hrv, hi0, hw1, hl, h4, hr, hk, k0, hy, hkl, hne]
          simpa [List.map_set] using j5
        · simp [ic52_1_b, hlt, hx, hxn, hhs, hhv, hrs, hrv, hi0, hw1, hl, h4, hr, hk, k0, hy, hkl, hne]
          simpa [List.map_set] using j5
      · obtain ⟨a', hs', rs', sm', j1, j2, j3, j4, j5⟩ := ih (i + 1) (adv l a) (hs.set x (-1)) rs (if sm = true then true else !(rs[x].toList == (⟨#[]⟩ : ByteArray).toList)) (by omega) (by simpa using hhs) hrs hR (hF.step hd hx hxh (.inl rfl))
        refine ⟨a', hs', rs', sm', j1, j2, j3, j4, ?_⟩
        rw [ic52_1_eq]
        cases sm
        · simp [ic52_1_b, hlt, hx, hxn, hhs, hhv, hrs, hrv, hi0, hw1, hl, h4]
          simpa using j5
        · simp [ic52_1_b, hlt, hx, hxn, hhs, hhv, hrs, hrv, hi0, hw1, hl, h4]
          simpa using j5
    · obtain ⟨a', hs', rs', sm', j1, j2, j3, j4, j5⟩ := ih (i + 1) a (hs.set x (-1)) rs (if sm = true then true else !(rs[x].toList == (⟨#[]⟩ : ByteArray).toList)) (by omega) (by simpa using hhs) hrs hR (hF.step hd hx hxh (.inl rfl))
      refine ⟨a', hs', rs', sm', j1, j2, j3, j4, ?_⟩
      rw [ic52_1_eq]
      cases sm
      · simp [ic52_1_b, hlt, hx, hxn, hhs, hhv, hrs, hrv, hi0, hw1]
        simpa using j5
      · simp [ic52_1_b, hlt, hx, hxn, hhs, hhv, hrs, hrv, hi0, hw1]
        simpa using j5

theorem heads_spec {l : List Int} (hl : small l) (a : Nat) {attrs toks texts regs nds : List PV} (hn : 1 ≤ toks.length ∧ toks.length ≤ 7) :
    ∃ (a' : Nat) (hs : List Int) (rs : List ByteArray) (ord : List Nat), hs.length = toks.length ∧ rs.length = toks.length ∧ (∀ r ∈ rs, r ∈ relNames) ∧ ord.Perm (List.range toks.length) ∧ Forest ord hs toks.length ∧
      (callV prog 52 [.boxed (tape l a), .boxed [.list attrs, .list toks, .list texts, .list regs, .list nds, .nil, .nil]] = some (.tuple [], [tape l a', [.list attrs, .list toks, .list texts, .list regs, .list nds, .nil, .nil]]) ∨
       callV prog 52 [.boxed (tape l a), .boxed [.list attrs, .list toks, .list texts, .list regs, .list nds, .nil, .nil]] = some (.tuple [], [tape l a', [.list attrs, .list toks, .list texts, .list regs, .list nds, .list (hs.map I), .list (rs.map .str)]])) := by
  obtain ⟨a1, ord, p1, p2⟩ := heads_loop0 hl hn.2 (attrs := attrs) (toks := toks) (texts := texts) (regs := regs) (nds := nds) toks.length 0 a [] (by omega) (by simp)
  obtain ⟨a2, hs, rs, sm, q1, q2, q3, q4, q5⟩ := heads_loop1 hl hn.2 p1 (attrs := attrs) (toks := toks) (texts := texts) (regs := regs) (nds := nds) toks.length 0 a1 (List.replicate toks.length 0) (List.replicate toks.length ⟨#[]⟩) false (by omega) (by simp) (by simp) (by simp [relNames]) (fun p x hp => by omega)
  have hlen : ord.length = toks.length := by simpa using p1.length_eq
  have m1 : toks.length * 8 ≤ room := by unfold room; omega
  have m2 : toks.length * 16 ≤ room := by unfold room; omega
  have m3 : toks.length ≤ room := by unfold room; omega
  have m4 : (toks.length : Int) ≤ (room : Int) := by unfold room; omega
  refine ⟨a2, hs, rs, ord, q1, q2, q3, p1, q4, ?_⟩
  simp at p2 q5
  cases sm
  · left
    refine callV_fn (body := ic52) rfl rfl ?_
    simp [ic52, p2, hlen, m1, m2, m3, m4, q5]
  · right
    refine callV_fn (body := ic52) rfl rfl ?_
    simp [ic52, p2, hlen, m1, m2, m3, m4, q5, q1, q2]

end Go.Ab.Prog
