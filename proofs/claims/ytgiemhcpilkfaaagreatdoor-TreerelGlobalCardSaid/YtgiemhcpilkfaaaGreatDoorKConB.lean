/- The loops of Concat. -/
import Derived.Test.YtgiemhcpilkfaaaGreatDoorKConA

namespace Go.Ab.Prog
open Go Go.Ab
set_option linter.unusedSimpArgs false
set_option linter.unusedVariables false
set_option maxHeartbeats 8000000

def w64 (n : Int) : Int := IntKind.i64.wrap n
def shTx (n : Int) (x : Tx) : Tx := ⟨x.name, w64 (x.b + n), w64 (x.e + n), x.info⟩
def shRg (n : Int) (x : Rg) : Rg := ⟨x.typ, w64 (x.b + n), w64 (x.e + n), x.keys⟩
def shNd (n m : Int) (x : Nd) : Nd := ⟨x.label, w64 (x.b + n), w64 (x.e + n), if 0 ≤ x.p then w64 (x.p + m) else x.p⟩
def nil7 : List PV := [.nil, .nil, .nil, .nil, .nil, .nil, .nil]

theorem tk {α : Type} {L : List α} {i : Nat} {x x' : α} {B : List α} (h : i + (B.length + 1) = L.length) (hB : ∀ j, j < B.length + 1 → L[i + j]? = (x :: B)[j]?) :
    L[i]? = some x ∧ (∀ j, j < B.length → (L.set i x')[i + 1 + j]? = B[j]?) ∧ ∀ M, (L.set i x').take (i + 1) ++ M = L.take i ++ x' :: M := by
  refine ⟨by simpa using hB 0 (by omega), fun j hj => ?_, fun M => ?_⟩
  · rw [List.getElem?_set_ne (by omega)]
    have := hB (j + 1) (by omega)
    simpa [Nat.add_assoc, Nat.add_comm 1 j] using this
  · rw [List.take_set, List.take_succ_eq_append_getElem (by omega), List.set_append_right _ _ (by simp; omega)]
    simp
    rw [Nat.min_eq_left (by omega)]
    simp

@[simp] theorem Tx.cells (x : Tx) : x.enc.cells = [.str x.name, I x.b, I x.e, .list (x.info.map prEnc)] := rfl

theorem con_texts {a b : Corp} {n m : Int} {TS : List PV} : ∀ (B : List Tx) (i : Nat) (L : List Tx), L.length ≤ 1000 → i + B.length = L.length → (∀ j, j < B.length → L[i + j]? = B[j]?) →
    evV prog ic27_1 ⟨tm [(2, .ptr 111 0), (3, .ptr 112 0), (4, .ptr 113 0), (8, I n), (9, I m), (10, .ptr 115 0), (11, I i)], hp [(104, some (.arr 2 attrs false)), (105, some (.arr 1 TS false)), (106, some (.arr 4 (L.map Tx.enc) false)), (107, none), (108, none), (109, none), (110, none), (111, some (.box a.cells)), (112, some (.box b.cells)), (113, some (.box nil7)), (115, some (.box [.arr 104 3 0 3, .arr 105 TS.length 0 TS.length, .arr 106 L.length 0 L.length, .nil, .nil, .nil, .nil]))]⟩
      = some (.exit 2, ⟨tm [(2, .ptr 111 0), (3, .ptr 112 0), (4, .ptr 113 0), (8, I n), (9, I m), (10, .ptr 115 0)], hp [(104, some (.arr 2 attrs false)), (105, some (.arr 1 TS false)), (106, some (.arr 4 ((L.take i ++ B.map (shTx n)).map Tx.enc) false)), (107, none), (108, none), (109, none), (110, none), (111, some (.box a.cells)), (112, some (.box b.cells)), (113, some (.box nil7)), (115, some (.box [.arr 104 3 0 3, .arr 105 TS.length 0 TS.length, .arr 106 (L.take i ++ B.map (shTx n)).length 0 (L.take i ++ B.map (shTx n)).length, .nil, .nil, .nil, .nil]))]⟩) := by
  intro B
  induction B with
  | nil =>
    intro i L hL hi _
    have h1 : ¬ i < L.length := by simp at hi; omega
    have h2 : L.take i = L := List.take_of_length_le (by simp at hi; omega)
    rw [ic27_1_eq]
    simp [ic27_1_b, h1, h2, Corp.cells, nil7]
  | cons x B ih =>
    intro i L hL hi hB
    have hlt : i < L.length := by simp at hi; omega
    have hw : IntKind.i64.wrap ((i : Int) + 1) = i + 1 := wrap64 (by omega) (by omega)
    obtain ⟨k1, k2, k3⟩ := tk (x' := shTx n x) hi hB
    have hx : L[i] = x := by rw [List.getElem?_eq_getElem hlt] at k1; exact Option.some.inj k1
    have hn := ih (i + 1) (L.set i (shTx n x)) (by simpa using hL) (by simp at hi ⊢; omega) k2
    rw [k3] at hn
    rw [ic27_1_eq]
    simp [Corp.cells, nil7] at hn
    simp [ic27_1_b, hlt, hw, hx, Corp.cells, nil7, Tx.enc, shTx, w64, rowSet]
    simpa [List.map_set, Tx.enc, shTx, w64] using hn

theorem con_regs {a b : Corp} {n m : Int} {TS : List PV} {XS : List PV} : ∀ (B : List Rg) (i : Nat) (L : List Rg), L.length ≤ 1000 → i + B.length = L.length → (∀ j, j < B.length → L[i + j]? = B[j]?) →
    evV prog ic27_2 ⟨tm [(2, .ptr 111 0), (3, .ptr 112 0), (4, .ptr 113 0), (8, I n), (9, I m), (10, .ptr 115 0), (12, I i)], hp [(104, some (.arr 2 attrs false)), (105, some (.arr 1 TS false)), (106, some (.arr 4 XS false)), (107, some (.arr 4 (L.map Rg.enc) false)), (108, none), (109, none), (110, none), (111, some (.box a.cells)), (112, some (.box b.cells)), (113, some (.box nil7)), (115, some (.box [.arr 104 3 0 3, .arr 105 TS.length 0 TS.length, .arr 106 XS.length 0 XS.length, .arr 107 L.length 0 L.length, .nil, .nil, .nil]))]⟩
      = some (.exit 4, ⟨tm [(2, .ptr 111 0), (3, .ptr 112 0), (4, .ptr 113 0), (8, I n), (9, I m), (10, .ptr 115 0)], hp [(104, some (.arr 2 attrs false)), (105, some (.arr 1 TS false)), (106, some (.arr 4 XS false)), (107, some (.arr 4 ((L.take i ++ B.map (shRg n)).map Rg.enc) false)), (108, none), (109, none), (110, none), (111, some (.box a.cells)), (112, some (.box b.cells)), (113, some (.box nil7)), (115, some (.box [.arr 104 3 0 3, .arr 105 TS.length 0 TS.length, .arr 106 XS.length 0 XS.length, .arr 107 (L.take i ++ B.map (shRg n)).length 0 (L.take i ++ B.map (shRg n)).length, .nil, .nil, .nil]))]⟩) := by
  intro B
  induction B with
  | nil =>
    intro i L hL hi _
    have h1 : ¬ i < L.length := by simp at hi; omega
    have h2 : L.take i = L := List.take_of_length_le (by simp at hi; omega)
    rw [ic27_2_eq]
    simp [ic27_2_b, h1, h2, Corp.cells, nil7]
  | cons x B ih =>
    intro i L hL hi hB
    have hlt : i < L.length := by simp at hi; omega
    have hw : IntKind.i64.wrap ((i : Int) + 1) = i + 1 := wrap64 (by omega) (by omega)
    obtain ⟨k1, k2, k3⟩ := tk (x' := shRg n x) hi hB
    have hx : L[i] = x := by rw [List.getElem?_eq_getElem hlt] at k1; exact Option.some.inj k1
    have hn := ih (i + 1) (L.set i (shRg n x)) (by simpa using hL) (by simp at hi ⊢; omega) k2
    rw [k3] at hn
    rw [ic27_2_eq]
    simp [Corp.cells, nil7] at hn
    simp [ic27_2_b, hlt, hw, hx, Corp.cells, nil7, Rg.enc, shRg, w64, rowSet]
    simpa [List.map_set, Rg.enc, shRg, w64] using hn

theorem con_nodes {a b : Corp} {n m : Int} {TS : List PV} {XS RS : List PV} : ∀ (B : List Nd) (i : Nat) (L : List Nd), L.length ≤ 1000 → i + B.length = L.length → (∀ j, j < B.length → L[i + j]? = B[j]?) →
    evV prog ic27_3 ⟨tm [(2, .ptr 111 0), (3, .ptr 112 0), (4, .ptr 113 0), (8, I n), (9, I m), (10, .ptr 115 0), (13, I i)], hp [(104, some (.arr 2 attrs false)), (105, some (.arr 1 TS false)), (106, some (.arr 4 XS false)), (107, some (.arr 4 RS false)), (108, some (.arr 4 (L.map Nd.enc) false)), (109, none), (110, none), (111, some (.box a.cells)), (112, some (.box b.cells)), (113, some (.box nil7)), (115, some (.box [.arr 104 3 0 3, .arr 105 TS.length 0 TS.length, .arr 106 XS.length 0 XS.length, .arr 107 RS.length 0 RS.length, .arr 108 L.length 0 L.length, .nil, .nil]))]⟩
      = some (.exit 6, ⟨tm [(2, .ptr 111 0), (3, .ptr 112 0), (4, .ptr 113 0), (8, I n), (10, .ptr 115 0)], hp [(104, some (.arr 2 attrs false)), (105, some (.arr 1 TS false)), (106, some (.arr 4 XS false)), (107, some (.arr 4 RS false)), (108, some (.arr 4 ((L.take i ++ B.map (shNd n m)).map Nd.enc) false)), (109, none), (110, none), (111, some (.box a.cells)), (112, some (.box b.cells)), (113, some (.box nil7)), (115, some (.box [.arr 104 3 0 3, .arr 105 TS.length 0 TS.length, .arr 106 XS.length 0 XS.length, .arr 107 RS.length 0 RS.length, .arr 108 (L.take i ++ B.map (shNd n m)).length 0 (L.take i ++ B.map (shNd n m)).length, .nil, .nil]))]⟩) := by
  intro B
  induction B with
  | nil =>
    intro i L hL hi _
    have h1 : ¬ i < L.length := by simp at hi; omega
    have h2 : L.take i = L := List.take_of_length_le (by simp at hi; omega)
    rw [ic27_3_eq]
    simp [ic27_3_b, h1, h2, Corp.cells, nil7]
  | cons x B ih =>
    intro i L hL hi hB
    have hlt : i < L.length := by simp at hi; omega
    have hw : IntKind.i64.wrap ((i : Int) + 1) = i + 1 := wrap64 (by omega) (by omega)
    obtain ⟨k1, k2, k3⟩ := tk (x' := shNd n m x) hi hB
    have hx : L[i] = x := by rw [List.getElem?_eq_getElem hlt] at k1; exact Option.some.inj k1
    have hn := ih (i + 1) (L.set i (shNd n m x)) (by simpa using hL) (by simp at hi ⊢; omega) k2
    rw [k3] at hn
    by_cases hp : 0 ≤ x.p
    · rw [ic27_3_eq]
      simp [Corp.cells, nil7] at hn
      simp [ic27_3_b, hlt, hw, hx, Corp.cells, nil7, Nd.enc, shNd, w64, rowSet, hp]
      simpa [List.map_set, Nd.enc, shNd, w64, hp] using hn
    · rw [ic27_3_eq]
      simp [Corp.cells, nil7] at hn
      simp [ic27_3_b, hlt, hw, hx, Corp.cells, nil7, Nd.enc, shNd, w64, rowSet, hp]
      simpa [List.map_set, Nd.enc, shNd, w64, hp] using hn

end Go.Ab.Prog
