/- Concat of good corpora: what comes out. -/
import Derived.Test.YtgiemhcpilkfaaaGreatDoorKConC

namespace Go.Ab.Prog
open Go Go.Ab
set_option linter.unusedSimpArgs false
set_option linter.unusedVariables false
set_option maxHeartbeats 16000000

def cat (a b : Corp) : Corp :=
  ⟨a.toks ++ b.toks, a.texts ++ b.texts.map (shTx a.toks.length), a.regs ++ b.regs.map (shRg a.toks.length), a.nodes ++ b.nodes.map (shNd a.toks.length a.nodes.length),
   if a.heads.length + b.heads.length = 0 then [] else allH a ++ (allH b).map (shH a.toks.length),
   if a.heads.length + b.heads.length = 0 then [] else allR a ++ allR b⟩

theorem rooms {x y z : Nat} (h : x + y ≤ 100) (hz : z ≤ 56) : x * z ≤ room ∧ (x + y) * z ≤ room := by
  have h1 : x * z ≤ 100 * 56 := Nat.mul_le_mul (by omega) hz
  have h2 : (x + y) * z ≤ 100 * 56 := Nat.mul_le_mul (by omega) hz
  unfold room; omega
@[simp] theorem attrs_len : attrs.length = 3 := rfl
@[simp] theorem attrs_szs : szs 2 attrs = true := rfl
theorem roomn {x y : Nat} (h : x + y ≤ 100) : x ≤ room ∧ x + y ≤ room := by unfold room; omega
theorem wsum {x y : Nat} (h : x + y ≤ 100) : IntKind.i64.wrap ((x : Int) + y) = (x : Int) + y := wrap64 (by omega) (by omega)
theorem nat_lt {x y : Nat} {c : Int} (h : x + y ≤ 100) (hc : 100 ≤ c) : ¬ c < (x : Int) + y := by omega
theorem drops {α : Type} (f : α → α) (a b : List α) : ∀ j, j < b.length → (a ++ b)[a.length + j]? = b[j]? := by
  intro j _
  rw [List.getElem?_append_right (by omega)]
  simp

theorem allh_len {k : Nat} {c : Corp} (h : Okc k c) : (allH c).length = c.toks.length ∧ (allR c).length = c.toks.length ∧ c.heads.length ≤ c.toks.length ∧ c.rels.length ≤ c.toks.length := by
  obtain ⟨rk, hh⟩ := h.heads
  unfold allH allR
  rcases hh.len with ⟨h1, h2⟩ | ⟨h1, h2⟩
  · simp [h1, h2]
  · by_cases h0 : c.heads.length = 0
    · simp [h0]; omega
    · simp [h0]; omega

theorem concat_spec {a b : Corp} {k : Nat} (ha : Okc k a) (hb : Okc 1 b) (hk : k ≤ 2) :
    (∃ e : Int, e ≠ 0 ∧ callV prog 27 [.agg a.cells, .agg b.cells] = some (.tuple [.agg (List.replicate 7 (.list [])), I e], [])) ∨
    callV prog 27 [.agg a.cells, .agg b.cells] = some (.tuple [.agg (cat a b).cells, I 0], []) := by
  obtain ⟨va, hva⟩ := ha.valid (by omega)
  obtain ⟨vb, hvb⟩ := hb.valid (by omega)
  have hs := same_spec
  have a1 := ha.n7
  have b1 := hb.n7
  have a2 := ha.texts
  have b2 := hb.texts
  have a3 := ha.regs.1
  have b3 := hb.regs.1
  have a4 := ha.nodes.1
  have b4 := hb.nodes.1
  have ta : a.texts.length ≤ 100 := by omega
  have tb : b.texts.length ≤ 100 := by omega
  have hnm := con_names (a := a) (b := b) ta tb b.texts.length 0 (by omega)
  simp [Corp.cells, nil7] at hva hvb hnm
  cases va
  · left
    refine ⟨1, by decide, callV_fn (body := ic27) rfl rfl ?_⟩
    simp [ic27, List.replicate, Corp.cells, nil7, hva]
  cases vb
  · left
    refine ⟨1, by decide, callV_fn (body := ic27) rfl rfl ?_⟩
    simp [ic27, List.replicate, Corp.cells, nil7, hva, hvb]
  rcases hnm with hnm | hnm
  · left
    refine ⟨5, by decide, callV_fn (body := ic27) rfl rfl ?_⟩
    simp [ic27, List.replicate, Corp.cells, nil7, hva, hvb, hs, hnm]
  right
  have l1 : a.toks.length + b.toks.length ≤ 100 := by omega
  have l2 : a.texts.length + b.texts.length ≤ 100 := by omega
  have l3 : a.regs.length + b.regs.length ≤ 100 := by omega
  have l4 : a.nodes.length + b.nodes.length ≤ 100 := by omega
  obtain ⟨r1, r2⟩ := rooms (z := 24) l1 (by omega)
  obtain ⟨r3, r4⟩ := rooms (z := 56) l2 (by omega)
  obtain ⟨r5, r6⟩ := rooms (z := 56) l3 (by omega)
  obtain ⟨r7, r8⟩ := rooms (z := 40) l4 (by omega)
  obtain ⟨q1, q2⟩ := roomn l1
  obtain ⟨q3, q4⟩ := roomn l2
  obtain ⟨q5, q6⟩ := roomn l3
  obtain ⟨q7, q8⟩ := roomn l4
  have w1 := wsum l1
  have w2 := wsum l2
  have w3 := wsum l3
  have w4 := wsum l4
  have n1 := nat_lt (c := 4096) l1 (by decide)
  have n2 := nat_lt (c := 64) l2
  have n2 : ¬ (64 : Int) < (a.texts.length : Int) + b.texts.length := by omega
  have n3 := nat_lt (c := 1024) l3 (by decide)
  have n4 := nat_lt (c := 2048) l4 (by decide)
  have rr : 3 * 24 ≤ room := by unfold room; omega
  have rr2 : 3 ≤ room := by unfold room; omega
  have hT := con_texts (a := a) (b := b) (n := a.toks.length) (m := a.nodes.length) (TS := (a.toks ++ b.toks).map tokEnc) b.texts a.texts.length (a.texts ++ b.texts) (by simp; omega) (by simp) (drops id _ _)
  have hG := con_regs (a := a) (b := b) (n := a.toks.length) (m := a.nodes.length) (TS := (a.toks ++ b.toks).map tokEnc) (XS := (a.texts ++ b.texts.map (shTx a.toks.length)).map Tx.enc) b.regs a.regs.length (a.regs ++ b.regs) (by simp; omega) (by simp) (drops id _ _)
  have hN := con_nodes (a := a) (b := b) (n := a.toks.length) (m := a.nodes.length) (TS := (a.toks ++ b.toks).map tokEnc) (XS := (a.texts ++ b.texts.map (shTx a.toks.length)).map Tx.enc) (RS := (a.regs ++ b.regs.map (shRg a.toks.length)).map Rg.enc) b.nodes a.nodes.length (a.nodes ++ b.nodes) (by simp; omega) (by simp) (drops id _ _)
  simp [Corp.cells, nil7] at hT hG hN
  refine callV_fn (body := ic27) rfl rfl ?_
  by_cases h0 : a.heads.length + b.heads.length = 0
  · have e1 : a.heads = [] := List.length_eq_zero_iff.1 (by omega)
    have e2 : b.heads = [] := List.length_eq_zero_iff.1 (by omega)
    simp [e1, e2] at hT hG hN hva hvb hnm
    have w0 : IntKind.i64.wrap 0 = 0 := wrap64 (by omega) (by omega)
    simp [ic27, Corp.cells, nil7, attrs_len, e1, e2, w0, hva, hvb, hs, hnm, r1, r2, r3, r4, r5, r6, r7, r8, q1, q2, q3, q4, q5, q6, q7, q8, w1, w2, w3, w4, n1, n2, n3, n4, rr, rr2, hT, hG, hN, cat]
  · have ja := allh_spec (c := a) (by omega)
    have jb := allh_spec (c := b) (by omega)
    obtain ⟨ka, kb, kc, kd⟩ := allh_len ha
    obtain ⟨ka', kb', kc', kd'⟩ := allh_len hb
    have l5 : (allH a).length + 0 ≤ 100 := by omega
    have l6 : (allR a).length + (allR b).length ≤ 100 := by omega
    have l7 : a.heads.length + b.heads.length ≤ 100 := by omega
    obtain ⟨s1, s2⟩ := rooms (z := 8) l5 (by omega)
    obtain ⟨s3, s4⟩ := rooms (z := 16) l6 (by omega)
    obtain ⟨s5, s6⟩ := roomn l5
    obtain ⟨s7, s8⟩ := roomn l6
    have w5 := wsum l7
    have hp : (0 : Int) < (a.heads.length : Int) + b.heads.length := by omega
    have hH := con_heads (n := a.toks.length) (TS := (a.toks ++ b.toks).map tokEnc) (XS := (a.texts ++ b.texts.map (shTx a.toks.length)).map Tx.enc) (RS := (a.regs ++ b.regs.map (shRg a.toks.length)).map Rg.enc)
      (NS := (a.nodes ++ b.nodes.map (shNd a.toks.length a.nodes.length)).map Nd.enc) (LS := (allR a ++ allR b).map .str) (K := allH b) (by omega) (allH b).length 0 (allH a) (by omega) (by omega)
    have h0' : ¬ (a.heads = [] ∧ b.heads = []) := fun ⟨e1, e2⟩ => h0 (by simp [e1, e2])
    simp [Corp.cells, nil7] at ja jb hH
    simp [ic27, Corp.cells, nil7, attrs_len, hva, hvb, hs, hnm, r1, r2, r3, r4, r5, r6, r7, r8, q1, q2, q3, q4, q5, q6, q7, q8, w1, w2, w3, w4, n1, n2, n3, n4, rr, rr2, hT, hG, hN, cat, w5, hp, h0, h0', ja, jb, s1, s3, s4, s5, s7, s8, hH]

end Go.Ab.Prog
