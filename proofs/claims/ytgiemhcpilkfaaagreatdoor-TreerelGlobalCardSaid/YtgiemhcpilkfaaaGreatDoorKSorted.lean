/- Regions sorted: some list of the regions that were there. -/
import Derived.Test.YtgiemhcpilkfaaaGreatDoorKCmp

namespace Go.Ab.Prog
open Go Go.Ab
set_option linter.unusedSimpArgs false
set_option maxHeartbeats 4000000

def zeroRg : Rg := ⟨⟨#[]⟩, 0, 0, []⟩

theorem as_map {L : List Rg} : ∀ {R : List PV}, (∀ r ∈ R, r ∈ L.map Rg.enc) → ∃ ms : List Rg, R = ms.map Rg.enc ∧ ∀ y ∈ ms, y ∈ L
  | [], _ => ⟨[], rfl, by simp⟩
  | r :: R, h => by
    obtain ⟨ms, h1, h2⟩ := as_map (R := R) (L := L) (fun r hr => h r (by simp [hr]))
    obtain ⟨y, hy, rfl⟩ := List.mem_map.1 (h r (by simp))
    exact ⟨y :: ms, by simp [h1], fun z hz => by
      rcases List.mem_cons.1 hz with rfl | hz
      · exact hy
      · exact h2 z hz⟩

theorem sort_loop {L : List Rg} (hL : ∀ y ∈ L, KeysOk y) {all : List Rg} (hall : ∀ y ∈ all, y ∈ L) (h0 : zeroRg ∈ L) (hal : all.length ≤ 100) : ∀ (m i : Nat) (ms : List Rg), i + m = all.length → ms.length = i → (∀ y ∈ ms, y ∈ L) →
    ∃ ms' : List Rg, ms'.length = all.length ∧ (∀ y ∈ ms', y ∈ L) ∧
      evV prog ic50_1 ⟨tm [(3, .arr 100 ms.length 0 ms.length), (7, .list (all.map Rg.enc)), (8, I all.length), (9, I i)], hp [(100, some (.arr 4 (ms.map Rg.enc) false))]⟩
        = some (.exit 0, ⟨tm [(3, .arr 100 ms'.length 0 ms'.length)], hp [(100, some (.arr 4 (ms'.map Rg.enc) false))]⟩) := by
  intro m
  induction m with
  | zero =>
    intro i ms hi hm hms
    refine ⟨ms, by omega, hms, ?_⟩
    have : ¬ i < all.length := by omega
    rw [ic50_1_eq]
    simp [ic50_1_b, this]
  | succ m ih =>
    intro i ms hi hm hms
    have hlt : i < all.length := by omega
    have e1 : all[i]? = some all[i] := List.getElem?_eq_getElem _
    have hxL : all[i] ∈ L := hall _ (List.getElem_mem _)
    obtain ⟨j, j1, j2⟩ := sort_in (ms := ms) (x := all[i]) (rest := all.map Rg.enc) (fun y hy => hL y (hms y hy)) (by omega) (n := all.length) (c := i) ms.length (by omega)
    have hw1 : IntKind.i64.wrap ((i : Int) + 1) = i + 1 := wrap64 (by omega) (by omega)
    have hw2 : IntKind.i64.wrap ((j : Int) + 1) = j + 1 := wrap64 (by omega) (by omega)
    have m1 : (ms.length + 1) * 56 ≤ room := by unfold room; omega
    have m2 : ms.length + 1 ≤ room := by unfold room; omega
    have m3 : j < ms.length + 1 := by omega
    have m4 : j ≤ ms.length + 1 := by omega
    have m5 : 0 ≤ (j : Int) + 1 := by omega
    have m6 : ((j : Int) + 1).toNat = j + 1 := by omega
    have m7 : j + 1 + (ms.length - j) ≤ ms.length + 1 := by clear j2 ih; omega
    have m8 : j + (ms.length + 1 - j) ≤ ms.length + 1 := by clear j2 ih; omega
    have hR0 : ∀ r ∈ ms.map Rg.enc ++ [zeroRg.enc], r ∈ L.map Rg.enc := fun r hr => by
      rcases List.mem_append.1 hr with h | h
      · obtain ⟨y, hy, rfl⟩ := List.mem_map.1 h
        exact List.mem_map.2 ⟨y, hms y hy, rfl⟩
      · rw [List.mem_singleton.1 h]; exact List.mem_map.2 ⟨_, h0, rfl⟩
    have hRl : (ms.map Rg.enc ++ [zeroRg.enc]).length = ms.length + 1 := by simp
    generalize hR : ms.map Rg.enc ++ [zeroRg.enc] = R at *
    have hsub : sub R (ms.length + 1) j (ms.length + 1 - j) = R.drop j := by
      rw [sub_eq hRl, List.take_of_length_le (by simp [hRl])]
    have hszR : szs 4 R = true := by rw [← hR]; simp [zeroRg, Rg.enc]
    have hszR' : szs 4 (R.drop j) = true := szs_drop hszR
    have hmin : min (ms.length + 1 - j) (ms.length - j) = ms.length - j := by omega
    have hdl : (R.drop j).length = ms.length + 1 - j := by simp [hRl]
    have hcl : (cpy R (j + 1) (R.drop j) (ms.length - j)).length = ms.length + 1 := by
      rw [cpy_length (by omega) (by omega), hRl]
    have hcm : ∀ r ∈ cpy R (j + 1) (R.drop j) (ms.length - j), r ∈ L.map Rg.enc := fun r hr => by
      rcases cpy_mem hr with h | h
      · exact hR0 r h
      · exact hR0 r (List.mem_of_mem_drop h)
    generalize hC : cpy R (j + 1) (R.drop j) (ms.length - j) = C at *
    obtain ⟨cs, hcs, hcsL⟩ := as_map hcm
    have hcsl : cs.length = ms.length + 1 := by rw [hcs] at hcl; simpa using hcl
    obtain ⟨ms', k1, k2, k3⟩ := ih (i + 1) (cs.set j all[i]) (by omega) (by simp; omega) (fun y hy => by
      rcases List.mem_or_eq_of_mem_set hy with h | h
      · exact hcsL y h
      · rw [h]; exact hxL)
    have e2 : cs[j]? = some cs[j] := List.getElem?_eq_getElem _
    have hjc : j < cs.length := by omega
    refine ⟨ms', k1, k2, ?_⟩
    rw [ic50_1_eq]
    simp [Rg.enc] at j2
    simp [Rg.enc, zeroRg] at hR
    simp [ic50_1_b, hlt, e1, Rg.enc, j2, m1, m2, hw1, hw2, j1, m3, m4, m5, m6, m7, m8, hR, hsub, hszR', hmin, hRl, hC, hcs, e2, hjc, hcsl]
    simpa [Rg.enc, hcsl, List.map_set] using k3

theorem sort_spec {all : List Rg} (hk : ∀ y ∈ all, KeysOk y) (hal : all.length ≤ 100) : ∃ ms : List Rg, ms.length = all.length ∧ (∀ y ∈ ms, y = zeroRg ∨ y ∈ all) ∧
    callV prog 50 [.list (all.map Rg.enc)] = some (.list (ms.map Rg.enc), []) := by
  obtain ⟨ms, h1, h2, h3⟩ := sort_loop (L := zeroRg :: all) (fun y hy => by
    rcases List.mem_cons.1 hy with rfl | h
    · show ([] : List Pr).length < 1000000; decide
    · exact hk y h) (all := all) (fun y hy => by simp [hy]) (by simp) hal all.length 0 [] (by omega) rfl (by simp)
  refine ⟨ms, h1, fun y hy => by simpa using h2 y hy, ?_⟩
  refine callV_fn (body := ic50) rfl rfl ?_
  simp at h3
  simp [ic50, h3]

end Go.Ab.Prog
