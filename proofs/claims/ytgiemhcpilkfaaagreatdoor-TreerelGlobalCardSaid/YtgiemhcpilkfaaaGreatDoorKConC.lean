/- Concat of good corpora: the loops over names and heads. -/
import Derived.Test.YtgiemhcpilkfaaaGreatDoorKConB

namespace Go.Ab.Prog
open Go Go.Ab
set_option linter.unusedSimpArgs false
set_option linter.unusedVariables false
set_option maxHeartbeats 8000000

theorem con_names {a b : Corp} (ha : a.texts.length ≤ 100) (hb : b.texts.length ≤ 100) : ∀ (d j : Nat), j + d = b.texts.length →
    evV prog ic27_0 ⟨tm [(2, .ptr 111 0), (3, .ptr 112 0), (4, .ptr 113 0), (37, .list (b.texts.map Tx.enc)), (38, I b.texts.length), (39, I j)], hp [(104, none), (105, none), (106, none), (107, none), (108, none), (109, none), (110, none), (111, some (.box a.cells)), (112, some (.box b.cells)), (113, some (.box nil7))]⟩
      = some (.ret, ⟨tm [(4, .ptr 113 0), (5, I 5)], hp [(104, none), (105, none), (106, none), (107, none), (108, none), (109, none), (110, none), (113, some (.box nil7))]⟩) ∨
    evV prog ic27_0 ⟨tm [(2, .ptr 111 0), (3, .ptr 112 0), (4, .ptr 113 0), (37, .list (b.texts.map Tx.enc)), (38, I b.texts.length), (39, I j)], hp [(104, none), (105, none), (106, none), (107, none), (108, none), (109, none), (110, none), (111, some (.box a.cells)), (112, some (.box b.cells)), (113, some (.box nil7))]⟩
      = some (.exit 0, ⟨tm [(2, .ptr 111 0), (3, .ptr 112 0), (4, .ptr 113 0)], hp [(104, none), (105, none), (106, none), (107, none), (108, none), (109, none), (110, none), (111, some (.box a.cells)), (112, some (.box b.cells)), (113, some (.box nil7))]⟩) := by
  intro d
  induction d with
  | zero =>
    intro j hj
    right
    have : ¬ j < b.texts.length := by omega
    rw [ic27_0_eq]
    simp [ic27_0_b, this, Corp.cells, nil7]
  | succ d ih =>
    intro j hj
    have hlt : j < b.texts.length := by omega
    have hw : IntKind.i64.wrap ((j : Int) + 1) = j + 1 := wrap64 (by omega) (by omega)
    have hi := ih (j + 1) (by omega)
    generalize hy : b.texts[j] = y at *
    obtain ⟨r, hr⟩ := find_ex a y.name ha
    simp [Corp.cells, nil7] at hi hr
    by_cases h0 : 0 ≤ r
    · left
      rw [ic27_0_eq]
      simp [ic27_0_b, hlt, hw, hy, Tx.enc, Corp.cells, nil7, hr, h0]
    · rcases hi with hi | hi
      · left
        rw [ic27_0_eq]
        simp [ic27_0_b, hlt, hw, hy, Tx.enc, Corp.cells, nil7, hr, h0]
        simpa [Tx.enc] using hi
      · right
        rw [ic27_0_eq]
        simp [ic27_0_b, hlt, hw, hy, Tx.enc, Corp.cells, nil7, hr, h0]
        simpa [Tx.enc] using hi

def shH (n : Int) (h : Int) : Int := if 0 ≤ h then w64 (h + n) else h

theorem con_heads {n : Int} {TS XS RS NS LS : List PV} {K : List Int} (hK : K.length ≤ 1000) : ∀ (d j : Nat) (H : List Int), j + d = K.length → H.length ≤ 1000 + j →
    evV prog ic27_4 ⟨tm [(4, .ptr 113 0), (8, I n), (10, .ptr 115 0), (254, .list (K.map I)), (255, I K.length), (256, I j)], hp [(104, some (.arr 2 attrs false)), (105, some (.arr 1 TS false)), (106, some (.arr 4 XS false)), (107, some (.arr 4 RS false)), (108, some (.arr 4 NS false)), (109, some (.arr 1 (H.map I) false)), (110, some (.arr 1 LS false)), (113, some (.box nil7)), (115, some (.box [.arr 104 3 0 3, .arr 105 TS.length 0 TS.length, .arr 106 XS.length 0 XS.length, .arr 107 RS.length 0 RS.length, .arr 108 NS.length 0 NS.length, .arr 109 H.length 0 H.length, .arr 110 LS.length 0 LS.length]))]⟩
      = some (.exit 8, ⟨tm [(4, .ptr 113 0), (10, .ptr 115 0)], hp [(104, some (.arr 2 attrs false)), (105, some (.arr 1 TS false)), (106, some (.arr 4 XS false)), (107, some (.arr 4 RS false)), (108, some (.arr 4 NS false)), (109, some (.arr 1 ((H ++ (K.drop j).map (shH n)).map I) false)), (110, some (.arr 1 LS false)), (113, some (.box nil7)), (115, some (.box [.arr 104 3 0 3, .arr 105 TS.length 0 TS.length, .arr 106 XS.length 0 XS.length, .arr 107 RS.length 0 RS.length, .arr 108 NS.length 0 NS.length, .arr 109 (H ++ (K.drop j).map (shH n)).length 0 (H ++ (K.drop j).map (shH n)).length, .arr 110 LS.length 0 LS.length]))]⟩) := by
  intro d
  induction d with
  | zero =>
    intro j H hj hH
    have h1 : ¬ j < K.length := by omega
    have h2 : K.drop j = [] := List.drop_eq_nil_of_le (by omega)
    rw [ic27_4_eq]
    simp [ic27_4_b, h1, h2, nil7]
  | succ d ih =>
    intro j H hj hH
    have hlt : j < K.length := by omega
    have hw : IntKind.i64.wrap ((j : Int) + 1) = j + 1 := wrap64 (by omega) (by omega)
    have m1 : (H.length + 1) * 8 ≤ room := by unfold room; omega
    have m2 : H.length + 1 ≤ room := by unfold room; omega
    have hi := ih (j + 1) (H ++ [shH n K[j]]) (by omega) (by simp; omega)
    rw [List.drop_eq_getElem_cons hlt]
    generalize hy : K[j] = y at *
    simp [nil7] at hi
    by_cases h0 : 0 ≤ y
    · rw [ic27_4_eq]
      simp [ic27_4_b, hlt, hw, hy, nil7, h0, m1, m2, shH, w64]
      simpa [shH, w64, h0] using hi
    · rw [ic27_4_eq]
      simp [ic27_4_b, hlt, hw, hy, nil7, h0, m1, m2, shH, w64]
      simpa [shH, w64, h0] using hi

end Go.Ab.Prog
