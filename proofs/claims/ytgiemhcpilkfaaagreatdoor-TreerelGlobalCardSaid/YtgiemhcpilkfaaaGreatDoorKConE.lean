/- The corpora that are made are good: documents, and good corpora put together. -/
import Derived.Test.YtgiemhcpilkfaaaGreatDoorKConD

namespace Go.Ab.Prog
open Go Go.Ab
set_option linter.unusedSimpArgs false
set_option linter.unusedVariables false
set_option maxHeartbeats 4000000

theorem Okc.mono {k k' : Nat} {c : Corp} (h : Okc k c) (hk : k ≤ k') : Okc k' c :=
  ⟨h.n1, Nat.le_trans h.n7 (by omega), h.toks, ⟨h.texts.1, Nat.le_trans h.texts.2.1 hk, h.texts.2.2⟩, ⟨Nat.le_trans h.regs.1 (by omega), h.regs.2⟩,
    ⟨Nat.le_trans h.nodes.1 (by omega), h.nodes.2⟩, h.rels, h.heads⟩

theorem Forest.rank {ord : List Nat} {hs : List Int} {n : Nat} (hp : ord.Perm (List.range n)) (hf : Forest ord hs n) :
    ∃ rk : Nat → Nat, ∀ i h, i < n → hs[i]? = some h → rk i < n ∧ (h = -1 ∨ ∃ j : Nat, h = (j : Int) ∧ j < n ∧ rk j < rk i) := by
  have hlen : ord.length = n := by simpa using hp.length_eq
  have hd : ord.Nodup := hp.nodup_iff.2 List.nodup_range
  have hex : ∀ i : Nat, ∃ p : Nat, i < n → ord[p]? = some i := by
    intro i
    by_cases hi : i < n
    · have : i ∈ ord := hp.mem_iff.2 (by simpa using hi)
      obtain ⟨p, hp1, hp2⟩ := List.getElem_of_mem this
      exact ⟨p, fun _ => by rw [List.getElem?_eq_getElem hp1, hp2]⟩
    · exact ⟨0, fun h => absurd h hi⟩
  refine ⟨fun i => (hex i).choose, fun i h hi hh => ?_⟩
  have h1 := (hex i).choose_spec hi
  obtain ⟨h2, _⟩ := List.getElem?_eq_some_iff.1 h1
  refine ⟨by show (hex i).choose < n; omega, ?_⟩
  rcases hf _ i (by omega) h1 with h3 | ⟨q, y, h3, h4, h5⟩
  · left; rw [hh] at h3; exact Option.some.inj h3
  · right
    rw [hh] at h5
    have hy : y < n := by
      have : y ∈ List.range n := hp.mem_iff.1 (List.mem_of_getElem? h4)
      simpa using this
    refine ⟨y, Option.some.inj h5, hy, ?_⟩
    have h6 := (hex y).choose_spec hy
    obtain ⟨h7, _⟩ := List.getElem?_eq_some_iff.1 h6
    have : (hex y).choose = q := (List.getElem?_inj h7 hd).1 (h6.trans h4.symm)
    show (hex y).choose < (hex i).choose
    omega

theorem DocOk.okc {name : ByteArray} {c : Corp} (hn : name ∈ names) (h : DocOk name c) : Okc 1 c := by
  obtain ⟨info, ht, hi⟩ := h.texts
  obtain ⟨z, hz, hT⟩ := h.nodes.2.2
  refine ⟨h.n1, by have := h.n7; omega, h.toks, ?_, ⟨h.regs.1, ?_⟩, ⟨h.nodes.1, h.nodes.2.1, z, hz, hT⟩, ?_, ?_⟩
  · rw [ht]
    refine ⟨by simp, by simp, fun x hx => ?_⟩
    rw [List.mem_singleton.1 hx]
    exact ⟨hn, hi⟩
  · intro r hr
    rcases h.regs.2 r hr with rfl | h
    · exact .inl ⟨rfl, rfl⟩
    · exact .inr h
  · rcases h.heads with ⟨_, h2⟩ | ⟨_, _, h3, _⟩
    · simp [h2]
    · exact h3
  · rcases h.heads with ⟨h1, h2⟩ | ⟨h1, h2, h3, ord, hp, hf⟩
    · exact ⟨fun _ => 0, .inl ⟨h1, h2⟩, by simp [h1]⟩
    · obtain ⟨rk, hr⟩ := hf.rank hp
      refine ⟨rk, .inr ⟨h1, h2⟩, fun i v hv => hr i v ?_ hv⟩
      obtain ⟨h4, _⟩ := List.getElem?_eq_some_iff.1 hv
      omega

theorem w64_id {x : Int} (h1 : 0 ≤ x) (h2 : x ≤ 1000) : w64 x = x := wrap64 (by omega) (by omega)

theorem Tops.le {a : Int} {i : Nat} {l : List Nd} {z : Int} (h : Tops a i l z) : a ≤ z := by
  induction h <;> omega

theorem Tops.shift {a : Int} {i : Nat} {l : List Nd} {z : Int} (h : Tops a i l z) {n : Int} {m : Nat} (h0 : 0 ≤ a) (hn : 0 ≤ n) (hz : z + n ≤ 1000) (hm : i + l.length + m ≤ 1000) :
    Tops (a + n) (i + m) (l.map (shNd n m)) (z + n) := by
  induction h with
  | nil => exact .nil
  | one h1 h2 hr ih =>
    rename_i a b e i s l z
    have hle := hr.le
    have e1 : w64 (b + n) = b + n := w64_id (by omega) (by omega)
    have e2 : w64 (e + n) = e + n := w64_id (by omega) (by omega)
    have k := ih (by omega) hz (by simp at hm; omega)
    simp [shNd, e1, e2]
    exact .one (by omega) (by omega) (by rw [show i + m + 1 = i + 1 + m by omega]; exact k)
  | two h1 h2 h3 h4 h5 hr ih =>
    rename_i a b e i s l z t b' e'
    have hle := hr.le
    have e1 : w64 (b + n) = b + n := w64_id (by omega) (by omega)
    have e2 : w64 (e + n) = e + n := w64_id (by omega) (by omega)
    have e3 : w64 (b' + n) = b' + n := w64_id (by omega) (by omega)
    have e4 : w64 (e' + n) = e' + n := w64_id (by omega) (by omega)
    have e5 : w64 ((i : Int) + m) = ((i + m : Nat) : Int) := by rw [w64_id (by omega) (by simp at hm; omega)]; omega
    have k := ih (by omega) hz (by simp at hm; omega)
    simp [shNd, e1, e2, e3, e4]
    rw [e5]
    exact .two (by omega) (by omega) (by omega) (by omega) (by omega) (by rw [show i + m + 2 = i + 2 + m by omega]; exact k)

theorem Tops.weak {a a' : Int} {i : Nat} {l : List Nd} {z : Int} (h : Tops a i l z) (ha : a' ≤ a) : ∃ z', z' ≤ z ∧ Tops a' i l z' := by
  cases h with
  | nil => exact ⟨a', ha, .nil⟩
  | one h1 h2 hr => exact ⟨z, by omega, .one (by omega) h2 hr⟩
  | two h1 h2 h3 h4 h5 hr => exact ⟨z, by omega, .two (by omega) h2 h3 h4 h5 hr⟩

theorem Tops.append {a : Int} {i : Nat} {l : List Nd} {z : Int} (h : Tops a i l z) {n : Int} {l' : List Nd} {z' : Int} (h' : Tops n (i + l.length) l' z') (hz : z ≤ n) : ∃ z'', z'' ≤ z' ∧ Tops a i (l ++ l') z'' := by
  induction h with
  | nil => exact h'.weak hz
  | one h1 h2 hr ih =>
    rename_i a b e i s l z
    obtain ⟨z'', k1, k2⟩ := ih (by simpa [Nat.add_assoc, Nat.add_comm, Nat.add_left_comm] using h') hz
    exact ⟨z'', k1, .one h1 h2 k2⟩
  | two h1 h2 h3 h4 h5 hr ih =>
    rename_i a b e i s l z t b' e'
    obtain ⟨z'', k1, k2⟩ := ih (by
      have : i + (⟨s, b, e, -1⟩ :: ⟨t, b', e', (i : Int)⟩ :: l : List Nd).length = i + 2 + l.length := by simp; omega
      rw [← this]; exact h') hz
    exact ⟨z'', k1, .two h1 h2 h3 h4 h5 k2⟩

/-- The heads of a good corpus, with -1 where there are none. -/
theorem Okc.all {k : Nat} {c : Corp} (h : Okc k c) : ∃ rk : Nat → Nat, ∀ i v, (allH c)[i]? = some v → rk i < c.toks.length ∧ (v = -1 ∨ ∃ j : Nat, v = (j : Int) ∧ j < c.toks.length ∧ rk j < rk i) := by
  obtain ⟨rk, hh⟩ := h.heads
  have n1 := h.n1
  by_cases h0 : c.heads.length = 0
  · refine ⟨fun _ => 0, fun i v hv => ⟨by show 0 < c.toks.length; omega, .inl ?_⟩⟩
    unfold allH at hv
    rw [if_pos h0, List.getElem?_replicate] at hv
    split at hv
    · exact (Option.some.inj hv).symm
    · cases hv
  · refine ⟨rk, fun i v hv => hh.rk i v ?_⟩
    unfold allH at hv
    rwa [if_neg h0] at hv

theorem allR_mem {k : Nat} {c : Corp} (h : Okc k c) : ∀ r ∈ allR c, r ∈ relNames := by
  intro r hr
  unfold allR at hr
  split at hr
  · rw [(List.mem_replicate.1 hr).2]; simp [relNames]
  · exact h.rels r hr

theorem cat_heads {k : Nat} {a b : Corp} (ha : Okc k a) (hb : Okc 1 b) (hk : k ≤ 2) : ∃ rk, HeadsOk (cat a b) rk := by
  obtain ⟨ka, kb, _, _⟩ := allh_len ha
  obtain ⟨ka', kb', _, _⟩ := allh_len hb
  obtain ⟨ra, hra⟩ := ha.all
  obtain ⟨rb, hrb⟩ := hb.all
  have na := ha.n7
  have nb := hb.n7
  refine ⟨fun i => if i < a.toks.length then ra i else a.toks.length + rb (i - a.toks.length), ?_, ?_⟩
  · by_cases h0 : a.heads.length + b.heads.length = 0
    · left; simp [cat, h0]
    · right; simp only [cat, if_neg h0]; simp [ka, kb, ka', kb']
  · intro i v hv
    by_cases h0 : a.heads.length + b.heads.length = 0
    · simp [cat, h0] at hv
    have hv : (allH a ++ (allH b).map (shH a.toks.length))[i]? = some v := by
      simp only [cat, if_neg h0] at hv; exact hv
    have hl : (cat a b).toks.length = a.toks.length + b.toks.length := by simp [cat]
    rw [hl]
    by_cases hi : i < a.toks.length
    · rw [List.getElem?_append_left (by omega)] at hv
      obtain ⟨h1, h2⟩ := hra i v hv
      rw [if_pos hi]
      refine ⟨by omega, ?_⟩
      rcases h2 with h2 | ⟨j, h2, h3, h4⟩
      · exact .inl h2
      · exact .inr ⟨j, h2, by omega, by rw [if_pos h3]; exact h4⟩
    · rw [List.getElem?_append_right (by omega), List.getElem?_map, ka] at hv
      cases e : (allH b)[i - a.toks.length]? with
      | none => rw [e] at hv; cases hv
      | some w =>
        rw [e] at hv
        have hv := Option.some.inj hv
        obtain ⟨h1, h2⟩ := hrb _ w e
        rw [if_neg hi]
        refine ⟨by omega, ?_⟩
        rcases h2 with h2 | ⟨j, h2, h3, h4⟩
        · left
          rw [← hv, h2]
          simp [shH]
        · right
          refine ⟨a.toks.length + j, ?_, by omega, ?_⟩
          · rw [← hv, h2]
            simp only [shH]
            rw [if_pos (by omega), w64_id (by omega) (by omega)]
            omega
          · rw [if_neg (by omega), show a.toks.length + j - a.toks.length = j by omega]
            omega

theorem cat_okc {k : Nat} {a b : Corp} (ha : Okc k a) (hb : Okc 1 b) (hk : k ≤ 2) : Okc (k + 1) (cat a b) := by
  have a1 := ha.n1
  have a2 := ha.n7
  have b1 := hb.n1
  have b2 := hb.n7
  have a3 := ha.texts
  have b3 := hb.texts
  have a4 := ha.regs
  have b4 := hb.regs
  have a5 := ha.nodes
  have b5 := hb.nodes
  obtain ⟨za, hza, hTa⟩ := a5.2.2
  obtain ⟨zb, hzb, hTb⟩ := b5.2.2
  refine ⟨?_, ?_, ?_, ⟨?_, ?_, ?_⟩, ⟨?_, ?_⟩, ⟨?_, ?_, ?_⟩, ?_, cat_heads ha hb hk⟩
  · simp [cat]; omega
  · simp [cat]; omega
  · intro t ht
    rcases List.mem_append.1 ht with h | h
    · exact ha.toks t h
    · exact hb.toks t h
  · simp [cat]; omega
  · simp [cat]; omega
  · intro x hx
    rcases List.mem_append.1 hx with h | h
    · exact a3.2.2 x h
    · obtain ⟨y, hy, rfl⟩ := List.mem_map.1 h
      exact b3.2.2 y hy
  · simp [cat]; omega
  · intro r hr
    rcases List.mem_append.1 hr with h | h
    · exact a4.2 r h
    · obtain ⟨y, hy, rfl⟩ := List.mem_map.1 h
      exact b4.2 y hy
  · simp [cat]; omega
  · intro x hx
    rcases List.mem_append.1 hx with h | h
    · exact a5.2.1 x h
    · obtain ⟨y, hy, rfl⟩ := List.mem_map.1 h
      exact b5.2.1 y hy
  · have k1 := hTb.shift (n := (a.toks.length : Int)) (m := a.nodes.length) (by omega) (by omega) (by omega) (by omega)
    obtain ⟨z, hz, hT⟩ := hTa.append (l' := b.nodes.map (shNd a.toks.length a.nodes.length)) (n := (a.toks.length : Int)) (z' := zb + a.toks.length) (by simpa using k1) (by omega)
    refine ⟨z, ?_, hT⟩
    simp [cat]; omega
  · intro r hr
    have hr : r ∈ (if a.heads.length + b.heads.length = 0 then [] else allR a ++ allR b) := hr
    split at hr
    · cases hr
    · rcases List.mem_append.1 hr with h | h
      · exact allR_mem ha r h
      · exact allR_mem hb r h

end Go.Ab.Prog
