/- The texts' check answers. -/
import Derived.Test.YtgiemhcpilkfaaaGreatDoorKValE

namespace Go.Ab.Prog
open Go Go.Ab
set_option linter.unusedSimpArgs false
set_option maxHeartbeats 8000000

@[simp] theorem szs_Tx {l : List Tx} : szs 4 (l.map Tx.enc) = true := by simp [szs, Tx.enc]
def InfosOk (x : Tx) : Prop := x.info = [] ∨ ∃ p, InfoOk p ∧ x.info = [p]

theorem txt_in {c : Corp} {x : Tx} {n e k i : Int} {m r : Nat} {rest : List PV} : ∀ (d j : Nat), j + d = m → m ≤ c.texts.length → c.texts.length ≤ 100 →
    (∃ b d' : Int, evV prog ic115_0 ⟨tm [(1, .ptr 100 0), (4, I n), (5, I e), (6, I i), (7, .ptr 101 0), (26, .list rest), (27, I r), (28, I k), (41, .list ((c.texts.take m).map Tx.enc)), (42, I m), (43, I j)], hp [(100, some (.box c.cells)), (101, some (.box x.enc.cells))]⟩
      = some (.ret, ⟨tm [(2, I b), (3, I d')], hp []⟩)) ∨
    evV prog ic115_0 ⟨tm [(1, .ptr 100 0), (4, I n), (5, I e), (6, I i), (7, .ptr 101 0), (26, .list rest), (27, I r), (28, I k), (41, .list ((c.texts.take m).map Tx.enc)), (42, I m), (43, I j)], hp [(100, some (.box c.cells)), (101, some (.box x.enc.cells))]⟩
      = some (.exit 2, ⟨tm [(1, .ptr 100 0), (4, I n), (5, I e), (6, I i), (7, .ptr 101 0), (26, .list rest), (27, I r), (28, I k)], hp [(100, some (.box c.cells)), (101, some (.box x.enc.cells))]⟩) := by
  intro d
  induction d with
  | zero =>
    intro j hj hm hn
    right
    have : ¬ j < m := by omega
    rw [ic115_0_eq]
    simp [ic115_0_b, this, Corp.cells, Tx.enc]
  | succ d ih =>
    intro j hj hm hn
    have hlt : j < m := by omega
    have hlt' : j < c.texts.length := by omega
    have hw : IntKind.i64.wrap ((j : Int) + 1) = j + 1 := wrap64 (by omega) (by omega)
    have e : c.texts[j]? = some c.texts[j] := List.getElem?_eq_getElem _
    cases h : c.texts[j].name.toList == x.name.toList
    rotate_left
    · left
      refine ⟨i, 5, ?_⟩
      rw [ic115_0_eq]
      simp [ic115_0_b, hlt, Corp.cells, Tx.enc, hw, h, hlt', List.getElem?_take]
    · have hi := ih (j + 1) (by omega) hm hn
      simp [Corp.cells, Tx.enc] at hi
      rcases hi with ⟨b, d', hi⟩ | hi
      · left
        refine ⟨b, d', ?_⟩
        rw [ic115_0_eq]
        simp [ic115_0_b, hlt, Corp.cells, Tx.enc, hw, h, hlt', List.getElem?_take]
        simpa using hi
      · right
        rw [ic115_0_eq]
        simp [ic115_0_b, hlt, Corp.cells, Tx.enc, hw, h, hlt', List.getElem?_take]
        simpa using hi

def Totals (c : Corp) : Prop := ∀ x ∈ c.texts, NameAns x.name ∧ InfosOk x

theorem txt_loop {c : Corp} (hc : Totals c) (hn : c.texts.length ≤ 100) (ht : c.toks.length ≤ 100) : ∀ (d i : Nat) (e : Int), i + d = c.texts.length →
    (∃ b d' : Int, evV prog ic115_1 ⟨tm [(1, .ptr 100 0), (4, I c.toks.length), (5, I e), (26, .list (c.texts.map Tx.enc)), (27, I c.texts.length), (28, I i)], hp [(100, some (.box c.cells))]⟩
      = some (.ret, ⟨tm [(2, I b), (3, I d')], hp []⟩)) ∨
    evV prog ic115_1 ⟨tm [(1, .ptr 100 0), (4, I c.toks.length), (5, I e), (26, .list (c.texts.map Tx.enc)), (27, I c.texts.length), (28, I i)], hp [(100, some (.box c.cells))]⟩
      = some (.exit 0, ⟨tm [], hp []⟩) := by
  intro d
  induction d with
  | zero =>
    intro i e hi
    right
    have : ¬ i < c.texts.length := by omega
    rw [ic115_1_eq]
    simp [ic115_1_b, this, Corp.cells]
  | succ d ih =>
    intro i e hi
    have hlt : i < c.texts.length := by omega
    have hle : i ≤ c.texts.length := by omega
    have hw : IntKind.i64.wrap ((i : Int) + 1) = i + 1 := wrap64 (by omega) (by omega)
    have hw2 : IntKind.i64.wrap ((c.texts.length : Int) - 1) = (c.texts.length : Int) - 1 := wrap64 (by omega) (by omega)
    have he : c.texts[i]? = some c.texts[i] := List.getElem?_eq_getElem _
    obtain ⟨⟨nb, hnm⟩, hpr⟩ := hc c.texts[i] (List.getElem_mem _)
    have hpr := info_val hpr
    have hin := txt_in (c := c) (x := c.texts[i]) (n := c.toks.length) (e := e) (k := i) (i := i) (m := i) (r := c.texts.length) (rest := c.texts.map Tx.enc) i 0 (by omega) hle hn
    have hnext := ih (i + 1) c.texts[i].e (by omega)
    generalize hx : c.texts[i] = x at *
    simp [Corp.cells, Tx.enc] at hin hnext
    cases nb
    · left
      refine ⟨i, 4, ?_⟩
      rw [ic115_1_eq]
      simp [ic115_1_b, hlt, Corp.cells, hw, hx, Tx.enc, hnm]
    · rcases hin with ⟨b, d', hin⟩ | hin
      · left
        refine ⟨b, d', ?_⟩
        rw [ic115_1_eq]
        simp [ic115_1_b, hlt, hle, Corp.cells, hw, hx, Tx.enc, hnm, hin, List.map_take]
      · cases c1 : decide (x.b = e)
        rotate_left
        · by_cases c2 : x.e ≤ x.b
          · left
            refine ⟨i, 8, ?_⟩
            rw [ic115_1_eq]
            simp [ic115_1_b, hlt, hle, Corp.cells, hw, hw2, hx, Tx.enc, hnm, hin, c1, c2]
          · by_cases c3 : (c.toks.length : Int) < x.e
            · left
              refine ⟨i, 8, ?_⟩
              rw [ic115_1_eq]
              simp [ic115_1_b, hlt, hle, Corp.cells, hw, hw2, hx, Tx.enc, hnm, hin, c1, c2, c3]
            · cases c4 : decide ((i : Int) = (c.texts.length : Int) - 1)
              rotate_left
              · cases c5 : decide (x.e = (c.toks.length : Int))
                rotate_left
                · rcases hnext with ⟨b, d', hnext⟩ | hnext
                  · left
                    refine ⟨b, d', ?_⟩
                    rw [ic115_1_eq]
                    simp [ic115_1_b, hlt, hle, Corp.cells, hw, hw2, hx, hpr, Tx.enc, hnm, hin, c1, c2, c3, c4, c5]
                    simpa using hnext
                  · right
                    rw [ic115_1_eq]
                    simp [ic115_1_b, hlt, hle, Corp.cells, hw, hw2, hx, hpr, Tx.enc, hnm, hin, c1, c2, c3, c4, c5]
                    simpa using hnext
                · left
                  refine ⟨i, 8, ?_⟩
                  rw [ic115_1_eq]
                  simp [ic115_1_b, hlt, hle, Corp.cells, hw, hw2, hx, Tx.enc, hnm, hin, c1, c2, c3, c4, c5]
              · rcases hnext with ⟨b, d', hnext⟩ | hnext
                · left
                  refine ⟨b, d', ?_⟩
                  rw [ic115_1_eq]
                  simp [ic115_1_b, hlt, hle, Corp.cells, hw, hw2, hx, hpr, Tx.enc, hnm, hin, c1, c2, c3, c4]
                  simpa using hnext
                · right
                  rw [ic115_1_eq]
                  simp [ic115_1_b, hlt, hle, Corp.cells, hw, hw2, hx, hpr, Tx.enc, hnm, hin, c1, c2, c3, c4]
                  simpa using hnext
        · left
          refine ⟨i, 8, ?_⟩
          rw [ic115_1_eq]
          simp [ic115_1_b, hlt, hle, Corp.cells, hw, hw2, hx, Tx.enc, hnm, hin, c1]

end Go.Ab.Prog
