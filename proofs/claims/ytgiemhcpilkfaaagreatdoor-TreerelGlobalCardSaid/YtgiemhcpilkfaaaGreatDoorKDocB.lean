/- The tokens of a document. -/
import Derived.Test.YtgiemhcpilkfaaaGreatDoorKDocA

namespace Go.Ab.Prog
open Go Go.Ab
set_option linter.unusedSimpArgs false
set_option maxHeartbeats 4000000

def tokEnc (t : List ByteArray) : PV := .list (t.map .str)
def TokOk (t : List ByteArray) : Prop := ∃ a b c, t = [a, b, c] ∧ a ∈ words ∧ b ∈ tags ∧ c ∈ feats
@[simp] theorem szs_tok {l : List (List ByteArray)} : szs 1 (l.map tokEnc) = true := by simp [szs, tokEnc]

theorem idx8 {k : Int} (h : 0 ≤ k) : ∃ w : Int, 0 ≤ w ∧ w < 6 ∧ ([.int .i64 0, .int .i64 1, .int .i64 0, .int .i64 2, .int .i64 3, .int .i64 4, .int .i64 1, .int .i64 5] : List PV)[(k % 8).toNat]? = some (.int .i64 w) := by
  have : k % 8 = 0 ∨ k % 8 = 1 ∨ k % 8 = 2 ∨ k % 8 = 3 ∨ k % 8 = 4 ∨ k % 8 = 5 ∨ k % 8 = 6 ∨ k % 8 = 7 := by omega
  rcases this with h | h | h | h | h | h | h | h <;> rw [h]
  · exact ⟨0, by decide, by decide, rfl⟩
  · exact ⟨1, by decide, by decide, rfl⟩
  · exact ⟨0, by decide, by decide, rfl⟩
  · exact ⟨2, by decide, by decide, rfl⟩
  · exact ⟨3, by decide, by decide, rfl⟩
  · exact ⟨4, by decide, by decide, rfl⟩
  · exact ⟨1, by decide, by decide, rfl⟩
  · exact ⟨5, by decide, by decide, rfl⟩

theorem tok_ar {k : Int} (h0 : 0 ≤ k) (h1 : k < 48) : k.tmod 8 = k % 8 ∧ k.tdiv 8 = k / 8 ∧ k.tdiv 12 = k / 12 ∧ (k / 8).tmod 2 = k / 8 % 2 ∧ 0 ≤ k % 8 ∧ 0 ≤ k / 8 % 2 ∧ k / 8 % 2 < 2 ∧ 0 ≤ k / 12 ∧ k / 12 < 4 ∧ IntKind.i64.wrap (k / 8) = k / 8 ∧ IntKind.i64.wrap (k / 12) = k / 12 := by
  refine ⟨Int.tmod_eq_emod_of_nonneg h0, Int.tdiv_eq_ediv_of_nonneg h0, Int.tdiv_eq_ediv_of_nonneg h0, Int.tmod_eq_emod_of_nonneg (by omega), by omega, by omega, by omega, by omega, by omega, wrap64 (by omega) (by omega), wrap64 (by omega) (by omega)⟩

abbrev emptyC : List PV := [.nil, .nil, .nil, .nil, .nil, .nil, .nil]
def docBox (n : Nat) : List PV := [.list attrs, .arr 100 n 0 n, .arr 103 1 0 1, .nil, .nil, .nil, .nil]

theorem tok_loop {l : List Int} (hl : small l) {n : Nat} (hn : n ≤ 7) {tx : PV} :
    ∀ (m i a : Nat) (ts : List (List ByteArray)), i + m = n → ts.length = i → (∀ t ∈ ts, TokOk t) →
    ∃ (a' : Nat) (ts' : List (List ByteArray)), ts'.length = n ∧ (∀ t ∈ ts', TokOk t) ∧
      evV prog ic25_0 ⟨tm [(0, .ptr 0 0), (6, .ptr 105 0), (7, I n), (8, .ptr 104 0), (9, I i)], hp [(0, some (.box (tape l a))), (100, some (.arr 1 (ts.map tokEnc) false)), (103, some (.arr 4 [tx] false)), (104, some (.box (docBox ts.length))), (105, some (.box emptyC))]⟩
        = some (.exit 0, ⟨tm [(0, .ptr 0 0), (6, .ptr 105 0), (7, I n), (8, .ptr 104 0)], hp [(0, some (.box (tape l a'))), (100, some (.arr 1 (ts'.map tokEnc) false)), (103, some (.arr 4 [tx] false)), (104, some (.box (docBox ts'.length))), (105, some (.box emptyC))]⟩) := by
  intro m
  induction m with
  | zero =>
    intro i a ts hi hlen hts
    refine ⟨a, ts, by omega, hts, ?_⟩
    have : ¬ i < n := by omega
    rw [ic25_0_eq]
    simp [ic25_0_b, this, docBox]
  | succ m ih =>
    intro i a ts hi hlen hts
    have hlt : i < n := by omega
    have hw1 : IntKind.i64.wrap ((i : Int) + 1) = i + 1 := wrap64 (by omega) (by omega)
    have k0 := next_nonneg l a 48
    have k1 := next_lt l a (n := 48) (by omega)
    have m1 : (ts.length + 1) * 24 ≤ room := by unfold room; omega
    have m2 : ts.length + 1 ≤ room := by unfold room; omega
    generalize hk : next l a 48 = k at *
    obtain ⟨r1, r2, r3, r4, r5, r6, r7, r8, r9, r10, r11⟩ := tok_ar k0 k1
    obtain ⟨w, w0, w1, w2⟩ := idx8 k0
    obtain ⟨s1, s1m, s1c⟩ := word_ex w0 w1
    obtain ⟨s2, s2m, s2c⟩ := tag_ex r6 r7
    obtain ⟨s3, s3m, s3c⟩ := feat_ex r8 r9
    obtain ⟨a', ts', j1, j2, j3⟩ := ih (i + 1) (adv l a) (ts ++ [[s1, s2, s3]]) (by omega) (by simp; omega) (fun t ht => by
      rcases List.mem_append.1 ht with h | h
      · exact hts t h
      · rw [List.mem_singleton.1 h]; exact ⟨s1, s2, s3, rfl, s1m, s2m, s3m⟩)
    refine ⟨a', ts', j1, j2, ?_⟩
    rw [ic25_0_eq]
    simp [ic25_0_b, hlt, docBox, hl, hk, r1, r2, r3, r4, r5, r6, r7, r8, r9, r10, r11, w2, s1c, s2c, s3c, m1, m2, hw1]
    simpa [tokEnc, docBox] using j3

end Go.Ab.Prog
