/- Regions compared: some number comes out. -/
import Derived.Test.YtgiemhcpilkfaaaGreatDoorKSpec1

namespace Go.Ab.Prog
open Go Go.Ab
set_option linter.unusedSimpArgs false
set_option maxHeartbeats 4000000

abbrev Pr := ByteArray × ByteArray
def prEnc (p : Pr) : PV := .agg [.str p.1, .str p.2]
structure Rg where
  typ : ByteArray
  b : Int
  e : Int
  keys : List Pr
def Rg.enc (x : Rg) : PV := .agg [.str x.typ, I x.b, I x.e, .list (x.keys.map prEnc)]

@[simp] theorem sign_spec (b : Bool) : callV prog 111 [.bool b] = some (I (if b then -1 else 1), []) := by
  refine callV_fn (body := ic111) rfl rfl ?_
  cases b <;> simp [ic111]

theorem strcmp_ex (x y : ByteArray) : ∃ v, callV prog 112 [.str x, .str y] = some (I v, []) := by
  cases h1 : Op.bytesLess x.toList y.toList
  · cases h2 : x.toList == y.toList
    · refine ⟨1, callV_fn (body := ic112) rfl rfl ?_⟩
      simp [ic112, h1, h2]
    · refine ⟨0, callV_fn (body := ic112) rfl rfl ?_⟩
      simp [ic112, h1, h2]
  · refine ⟨-1, callV_fn (body := ic112) rfl rfl ?_⟩
    simp [ic112, h1]
noncomputable def strcmp (x y : ByteArray) : Int := (strcmp_ex x y).choose
@[simp] theorem strcmp_spec (x y : ByteArray) : callV prog 112 [.str x, .str y] = some (I (strcmp x y), []) := (strcmp_ex x y).choose_spec

theorem cmp_loop (x y : Rg) (hx : x.keys.length < 1000000) : ∀ (m i : Nat), i + m = x.keys.length + 1 →
    (∃ v, evV prog ic85_0 ⟨tm [(2, .ptr 100 0), (3, .ptr 101 0), (5, I i)], hp [(100, some (.box x.enc.cells)), (101, some (.box y.enc.cells))]⟩ = some (.ret, ⟨tm [(4, I v)], hp []⟩)) ∨
    evV prog ic85_0 ⟨tm [(2, .ptr 100 0), (3, .ptr 101 0), (5, I i)], hp [(100, some (.box x.enc.cells)), (101, some (.box y.enc.cells))]⟩ = some (.exit 1, ⟨tm [(2, .ptr 100 0), (3, .ptr 101 0)], hp [(100, some (.box x.enc.cells)), (101, some (.box y.enc.cells))]⟩) := by
  intro m
  induction m with
  | zero =>
    intro i hi
    right
    have h1 : ¬ i < x.keys.length := by omega
    rw [ic85_0_eq]
    simp [ic85_0_b, Rg.enc, h1]
  | succ m ih =>
    intro i hi
    by_cases h1 : i < x.keys.length
    · by_cases h2 : i < y.keys.length
      · have e1 : x.keys[i]? = some x.keys[i] := List.getElem?_eq_getElem _
        have e2 : y.keys[i]? = some y.keys[i] := List.getElem?_eq_getElem _
        have hw1 : IntKind.i64.wrap ((i : Int) + 1) = i + 1 := wrap64 (by omega) (by omega)
        cases k1 : (x.keys[i]).1.toList == (y.keys[i]).1.toList
        · left
          refine ⟨strcmp (x.keys[i]).1 (y.keys[i]).1, ?_⟩
          rw [ic85_0_eq]
          simp [ic85_0_b, Rg.enc, h1, h2, e1, e2, k1, prEnc]
        · cases k2 : (x.keys[i]).2.toList == (y.keys[i]).2.toList
          · left
            refine ⟨strcmp (x.keys[i]).2 (y.keys[i]).2, ?_⟩
            rw [ic85_0_eq]
            simp [ic85_0_b, Rg.enc, h1, h2, e1, e2, k1, k2, prEnc]
          · have ih' := ih (i + 1) (by omega)
            rw [ic85_0_eq]
            simp [ic85_0_b, Rg.enc, h1, h2, e1, e2, k1, k2, prEnc, hw1]
            simpa [Rg.enc] using ih'
      · right
        rw [ic85_0_eq]
        simp [ic85_0_b, Rg.enc, h1, h2]
    · right
      rw [ic85_0_eq]
      simp [ic85_0_b, Rg.enc, h1]

theorem cmp_ex (x y : Rg) (hx : x.keys.length < 1000000) : ∃ v, callV prog 85 [x.enc, y.enc] = some (I v, []) := by
  by_cases h1 : x.b = y.b
  · by_cases h2 : x.e = y.e
    · cases h3 : x.typ.toList == y.typ.toList
      · refine ⟨strcmp x.typ y.typ, callV_fn (body := ic85) rfl rfl ?_⟩
        simp [ic85, Rg.enc, h1, h2, h3]
      · rcases cmp_loop x y hx (x.keys.length + 1) 0 (by omega) with ⟨v, hv⟩ | hv
        · refine ⟨v, callV_fn (body := ic85) rfl rfl ?_⟩
          simp [Rg.enc] at hv
          simp [ic85, Rg.enc, h1, h2, h3]
          simp [h1, h2] at hv
          simp [hv]
        · by_cases h4 : x.keys.length = y.keys.length
          · refine ⟨0, callV_fn (body := ic85) rfl rfl ?_⟩
            simp [Rg.enc, h1, h2] at hv
            simp [ic85, Rg.enc, h1, h2, h3, hv, h4]
          · refine ⟨if decide (x.keys.length < y.keys.length) = true then -1 else 1, callV_fn (body := ic85) rfl rfl ?_⟩
            have h4' : ¬ ((x.keys.length : Int) = y.keys.length) := by omega
            simp [Rg.enc, h1, h2] at hv
            simp [ic85, Rg.enc, h1, h2, h3, hv, h4']
    · refine ⟨if decide (x.e > y.e) = true then -1 else 1, callV_fn (body := ic85) rfl rfl ?_⟩
      simp [ic85, Rg.enc, h1, h2]
  · refine ⟨if decide (x.b < y.b) = true then -1 else 1, callV_fn (body := ic85) rfl rfl ?_⟩
    simp [ic85, Rg.enc, h1]

open Classical in
noncomputable def cmp (x y : Rg) : Int := if h : ∃ v, callV prog 85 [x.enc, y.enc] = some (I v, []) then h.choose else 0
def KeysOk (x : Rg) : Prop := x.keys.length < 1000000
@[simp] theorem cmp_spec (x y : Rg) (hx : KeysOk x) : callV prog 85 [x.enc, y.enc] = some (I (cmp x y), []) := by
  have h := cmp_ex x y hx
  unfold cmp
  rw [dif_pos h]
  exact h.choose_spec

@[simp] theorem szs_Rg {l : List Rg} : szs 4 (l.map Rg.enc) = true := by simp [szs, Rg.enc]

/-! ### Sorted -/

/-- What the regions that lie there come to as the insertion goes on: some list of the same regions. -/
theorem sort_in {ms : List Rg} {x : Rg} {rest : List PV} (hm : ∀ y ∈ ms, KeysOk y) (hlen : ms.length ≤ 1000) {n c : Nat} : ∀ (k : Nat), k ≤ ms.length →
    ∃ j : Nat, j ≤ ms.length ∧
      evV prog ic50_0 ⟨tm [(3, .arr 100 ms.length 0 ms.length), (5, .ptr 101 0), (6, I k), (7, .list rest), (8, I n), (9, I c)], hp [(100, some (.arr 4 (ms.map Rg.enc) false)), (101, some (.box x.enc.cells))]⟩
        = some (.exit 2, ⟨tm [(3, .arr 100 ms.length 0 ms.length), (5, .ptr 101 0), (6, I j), (7, .list rest), (8, I n), (9, I c)], hp [(100, some (.arr 4 (ms.map Rg.enc) false)), (101, some (.box x.enc.cells))]⟩) := by
  intro k
  induction k with
  | zero =>
    intro _
    refine ⟨0, by omega, ?_⟩
    rw [ic50_0_eq]
    simp [ic50_0_b, Rg.enc]
  | succ k ih =>
    intro hk
    have hkl : k < ms.length := by omega
    have e1 : ms[k]? = some ms[k] := List.getElem?_eq_getElem _
    have hw : IntKind.i64.wrap (k : Int) = k := wrap64 (by omega) (by omega)
    have hp0 : (0 : Int) < (k : Int) + 1 := by omega
    have hok : KeysOk ms[k] := hm _ (List.getElem_mem _)
    have hc := cmp_spec ms[k] x hok
    by_cases h : cmp ms[k] x > 0
    · obtain ⟨j, j1, j2⟩ := ih (by omega)
      refine ⟨j, j1, ?_⟩
      rw [ic50_0_eq]
      simp [Rg.enc] at hc j2
      simp [ic50_0_b, Rg.enc, hp0, hw, e1, hkl, hc, h]
      exact j2
    · refine ⟨k + 1, by omega, ?_⟩
      rw [ic50_0_eq]
      simp [Rg.enc] at hc
      simp [ic50_0_b, Rg.enc, hp0, hw, e1, hkl, hc, h]

end Go.Ab.Prog
