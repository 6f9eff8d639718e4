/- Validate answers something, if its parts do. And what follows from it, part by part. -/
import Derived.Test.YtgiemhcpilkfaaaGreatDoorKTree
import Derived.KernelRfl

/- Part Val. -/
namespace Go.Ab.Prog
open Go Go.Ab
set_option linter.unusedSimpArgs false
set_option maxHeartbeats 4000000

/-- A part's check answers a place and an error. -/
def Ans (f : Nat) (args : List PV) : Prop := ∃ i e : Int, callV prog f args = some (.tuple [I i, I e], [])

theorem validate_of {c : Corp} (h1 : Ans 113 [.list attrs]) (h2 : Ans 114 [.agg c.cells]) (h3 : Ans 115 [.agg c.cells]) (h4 : Ans 116 [.agg c.cells]) (h5 : Ans 117 [.list (c.nodes.map Nd.enc), .agg c.cells]) (h6 : Ans 118 [.agg c.cells]) :
    ∃ a b e : Int, callV prog 86 [.agg c.cells] = some (.tuple [I a, I b, I e], []) := by
  obtain ⟨i1, e1, h1⟩ := h1
  obtain ⟨i2, e2, h2⟩ := h2
  obtain ⟨i3, e3, h3⟩ := h3
  obtain ⟨i4, e4, h4⟩ := h4
  obtain ⟨i5, e5, h5⟩ := h5
  obtain ⟨i6, e6, h6⟩ := h6
  simp [Corp.cells] at h2 h3 h4 h5 h6
  by_cases k1 : e1 = 0
  · by_cases k2 : e2 = 0
    · by_cases k3 : e3 = 0
      · by_cases k4 : e4 = 0
        · by_cases k5 : e5 = 0
          · by_cases k6 : e6 = 0
            · exact ⟨0, 0, 0, callV_fn (body := ic86) rfl rfl (by simp [ic86, Corp.cells, h1, h2, h3, h4, h5, h6, k1, k2, k3, k4, k5, k6])⟩
            · exact ⟨6, i6, e6, callV_fn (body := ic86) rfl rfl (by simp [ic86, Corp.cells, h1, h2, h3, h4, h5, h6, k1, k2, k3, k4, k5, k6])⟩
          · exact ⟨5, i5, e5, callV_fn (body := ic86) rfl rfl (by simp [ic86, Corp.cells, h1, h2, h3, h4, h5, k1, k2, k3, k4, k5])⟩
        · exact ⟨4, i4, e4, callV_fn (body := ic86) rfl rfl (by simp [ic86, Corp.cells, h1, h2, h3, h4, k1, k2, k3, k4])⟩
      · exact ⟨3, i3, e3, callV_fn (body := ic86) rfl rfl (by simp [ic86, Corp.cells, h1, h2, h3, k1, k2, k3])⟩
    · exact ⟨2, i2, e2, callV_fn (body := ic86) rfl rfl (by simp [ic86, Corp.cells, h1, h2, k1, k2])⟩
  · exact ⟨1, i1, e1, callV_fn (body := ic86) rfl rfl (by simp [ic86, Corp.cells, h1, k1])⟩

theorem attrs_run : callN prog 40 113 [.list attrs] = some (.tuple [I 0, I 0], []) := by kernel_rfl
theorem attrs_ans : Ans 113 [.list attrs] := ⟨0, 0, callV_iff.2 ⟨40, attrs_run⟩⟩

end Go.Ab.Prog

/- Part ValB. -/
namespace Go.Ab.Prog
open Go Go.Ab
set_option linter.unusedSimpArgs false
set_option maxHeartbeats 4000000

theorem val0 : callN prog 40 139 [.agg [.str ⟨#[119, 111, 114, 100]⟩, .bool false], .str ⟨#[97]⟩] = some (I 0, []) := by kernel_rfl
theorem val1 : callN prog 40 139 [.agg [.str ⟨#[119, 111, 114, 100]⟩, .bool false], .str ⟨#[98]⟩] = some (I 0, []) := by kernel_rfl
theorem val2 : callN prog 40 139 [.agg [.str ⟨#[119, 111, 114, 100]⟩, .bool false], .str ⟨#[99]⟩] = some (I 0, []) := by kernel_rfl
theorem val3 : callN prog 40 139 [.agg [.str ⟨#[119, 111, 114, 100]⟩, .bool false], .str ⟨#[65]⟩] = some (I 0, []) := by kernel_rfl
theorem val4 : callN prog 40 139 [.agg [.str ⟨#[119, 111, 114, 100]⟩, .bool false], .str ⟨#[97, 98]⟩] = some (I 0, []) := by kernel_rfl
theorem val5 : callN prog 40 139 [.agg [.str ⟨#[119, 111, 114, 100]⟩, .bool false], .str ⟨#[]⟩] = some (I 0, []) := by kernel_rfl
theorem val_word {s : ByteArray} (h : s ∈ words) : callV prog 139 [.agg [.str ⟨#[119, 111, 114, 100]⟩, .bool false], .str s] = some (I 0, []) := by
  simp only [words, List.mem_cons, List.not_mem_nil, or_false] at h
  rcases h with rfl | rfl | rfl | rfl | rfl | rfl
  · exact callV_iff.2 ⟨40, val0⟩
  · exact callV_iff.2 ⟨40, val1⟩
  · exact callV_iff.2 ⟨40, val2⟩
  · exact callV_iff.2 ⟨40, val3⟩
  · exact callV_iff.2 ⟨40, val4⟩
  · exact callV_iff.2 ⟨40, val5⟩
theorem val6 : callN prog 40 139 [.agg [.str ⟨#[116, 97, 103]⟩, .bool false], .str ⟨#[88]⟩] = some (I 0, []) := by kernel_rfl
theorem val7 : callN prog 40 139 [.agg [.str ⟨#[116, 97, 103]⟩, .bool false], .str ⟨#[89]⟩] = some (I 0, []) := by kernel_rfl
theorem val_tag {s : ByteArray} (h : s ∈ tags) : callV prog 139 [.agg [.str ⟨#[116, 97, 103]⟩, .bool false], .str s] = some (I 0, []) := by
  simp only [tags, List.mem_cons, List.not_mem_nil, or_false] at h
  rcases h with rfl | rfl
  · exact callV_iff.2 ⟨40, val6⟩
  · exact callV_iff.2 ⟨40, val7⟩
theorem val8 : callN prog 40 139 [.agg [.str ⟨#[102, 101, 97, 116]⟩, .bool true], .str ⟨#[124]⟩] = some (I 0, []) := by kernel_rfl
theorem val9 : callN prog 40 139 [.agg [.str ⟨#[102, 101, 97, 116]⟩, .bool true], .str ⟨#[124, 112, 124]⟩] = some (I 0, []) := by kernel_rfl
theorem val10 : callN prog 40 139 [.agg [.str ⟨#[102, 101, 97, 116]⟩, .bool true], .str ⟨#[124, 112, 124, 113, 124]⟩] = some (I 0, []) := by kernel_rfl
theorem val11 : callN prog 40 139 [.agg [.str ⟨#[102, 101, 97, 116]⟩, .bool true], .str ⟨#[124, 113, 124]⟩] = some (I 0, []) := by kernel_rfl
theorem val_feat {s : ByteArray} (h : s ∈ feats) : callV prog 139 [.agg [.str ⟨#[102, 101, 97, 116]⟩, .bool true], .str s] = some (I 0, []) := by
  simp only [feats, List.mem_cons, List.not_mem_nil, or_false] at h
  rcases h with rfl | rfl | rfl | rfl
  · exact callV_iff.2 ⟨40, val8⟩
  · exact callV_iff.2 ⟨40, val9⟩
  · exact callV_iff.2 ⟨40, val10⟩
  · exact callV_iff.2 ⟨40, val11⟩

end Go.Ab.Prog

/- Part ValC. -/
namespace Go.Ab.Prog
open Go Go.Ab
set_option linter.unusedSimpArgs false
set_option maxHeartbeats 4000000

theorem tok_in {c : Corp} {a b d : ByteArray} (ha : a ∈ words) (hb : b ∈ tags) (hd : d ∈ feats) {k n m : Nat} {rest : List PV} :
    evV prog ic114_0 ⟨tm [(1, .ptr 100 0), (4, I k), (14, .list rest), (15, I n), (16, I m), (28, tokEnc [a, b, d]), (29, I 3), (30, I 0)], hp [(100, some (.box c.cells))]⟩
      = some (.exit 2, ⟨tm [(1, .ptr 100 0), (14, .list rest), (15, I n), (16, I m)], hp [(100, some (.box c.cells))]⟩) := by
  have h1 := val_word ha
  have h2 := val_tag hb
  have h3 := val_feat hd
  have w1 : IntKind.i64.wrap 1 = 1 := wrap64 (by omega) (by omega)
  have w2 : IntKind.i64.wrap 2 = 2 := wrap64 (by omega) (by omega)
  have w3 : IntKind.i64.wrap 3 = 3 := wrap64 (by omega) (by omega)
  rw [ic114_0_eq]
  simp [ic114_0_b, Corp.cells, tokEnc, attrs, h1, w1]
  rw [ic114_0_eq]
  simp [ic114_0_b, h2, w2]
  rw [ic114_0_eq]
  simp [ic114_0_b, h3, w3]
  rw [ic114_0_eq]
  simp [ic114_0_b]

theorem tok_out {c : Corp} (hc : ∀ t ∈ c.toks, TokOk t) (hn : c.toks.length ≤ 100) : ∀ (m i : Nat), i + m = c.toks.length →
    evV prog ic114_1 ⟨tm [(1, .ptr 100 0), (14, .list (c.toks.map tokEnc)), (15, I c.toks.length), (16, I i)], hp [(100, some (.box c.cells))]⟩ = some (.exit 0, ⟨tm [], hp []⟩) := by
  intro m
  induction m with
  | zero =>
    intro i hi
    have : ¬ i < c.toks.length := by omega
    rw [ic114_1_eq]
    simp [ic114_1_b, this, Corp.cells]
  | succ m ih =>
    intro i hi
    have hlt : i < c.toks.length := by omega
    have e : c.toks[i]? = some c.toks[i] := List.getElem?_eq_getElem _
    have hw : IntKind.i64.wrap ((i : Int) + 1) = i + 1 := wrap64 (by omega) (by omega)
    obtain ⟨a, b, d, ht, ha, hb, hd⟩ := hc c.toks[i] (List.getElem_mem _)
    have hin := tok_in (c := c) ha hb hd (k := i) (n := c.toks.length) (m := i) (rest := c.toks.map tokEnc)
    have hi' := ih (i + 1) (by omega)
    rw [ic114_1_eq]
    simp [Corp.cells, attrs, tokEnc] at hin hi'
    simp [ic114_1_b, hlt, Corp.cells, hw, ht, tokEnc, attrs, hin]
    simpa using hi'

theorem tokens_ans {c : Corp} (hc : ∀ t ∈ c.toks, TokOk t) (hn : c.toks.length ≤ 100) : Ans 114 [.agg c.cells] := by
  refine ⟨0, 0, callV_fn (body := ic114) rfl rfl ?_⟩
  have h := tok_out hc hn c.toks.length 0 (by omega)
  have h1 : ¬ (4096 : Int) < c.toks.length := by omega
  simp [Corp.cells] at h
  simp [ic114, Corp.cells, h1, h]

end Go.Ab.Prog

/- Part ValD. -/
namespace Go.Ab.Prog
open Go Go.Ab
set_option linter.unusedSimpArgs false
set_option maxHeartbeats 4000000

theorem pr0 : callN prog 40 140 [.list []] = some (I 0, []) := by kernel_rfl
theorem pr1 : callN prog 40 140 [.list [.agg [.str ⟨#[110]⟩, .str ⟨#[49]⟩]]] = some (I 0, []) := by kernel_rfl
theorem pr2 : callN prog 40 140 [.list [.agg [.str ⟨#[110]⟩, .str ⟨#[50]⟩]]] = some (I 0, []) := by kernel_rfl
theorem pr3 : callN prog 40 140 [.list [.agg [.str ⟨#[121, 101, 97, 114]⟩, .str ⟨#[49]⟩]]] = some (I 0, []) := by kernel_rfl
theorem pr4 : callN prog 40 140 [.list [.agg [.str ⟨#[121, 101, 97, 114]⟩, .str ⟨#[50]⟩]]] = some (I 0, []) := by kernel_rfl
theorem pr5 : callN prog 40 140 [.list [.agg [.str ⟨#[121, 101, 97, 114]⟩, .str ⟨#[]⟩]]] = some (I 0, []) := by kernel_rfl

theorem keys_val {ks : List Pr} (h : ks = [] ∨ ∃ p, PrOk p ∧ ks = [p]) : callV prog 140 [.list (ks.map prEnc)] = some (I 0, []) := by
  rcases h with rfl | ⟨⟨a, b⟩, ⟨h1, h2⟩, rfl⟩
  · exact callV_iff.2 ⟨40, pr0⟩
  · simp only at h1 h2
    subst h1
    rcases h2 with rfl | rfl
    · exact callV_iff.2 ⟨40, pr1⟩
    · exact callV_iff.2 ⟨40, pr2⟩
theorem info_val {ks : List Pr} (h : ks = [] ∨ ∃ p, InfoOk p ∧ ks = [p]) : callV prog 140 [.list (ks.map prEnc)] = some (I 0, []) := by
  rcases h with rfl | ⟨⟨a, b⟩, ⟨h1, h2⟩, rfl⟩
  · exact callV_iff.2 ⟨40, pr0⟩
  · simp only at h1 h2
    subst h1
    rcases h2 with rfl | rfl | rfl
    · exact callV_iff.2 ⟨40, pr3⟩
    · exact callV_iff.2 ⟨40, pr4⟩
    · exact callV_iff.2 ⟨40, pr5⟩

end Go.Ab.Prog

/- Part ValE. -/
namespace Go.Ab.Prog
open Go Go.Ab
set_option linter.unusedSimpArgs false

def names : List ByteArray := [⟨#[116, 48]⟩, ⟨#[116, 49]⟩, ⟨#[116, 50]⟩]
def NameAns (s : ByteArray) : Prop := ∃ b : Bool, callV prog 138 [.str s] = some (.bool b, [])

theorem nm0 : callN prog 40 138 [.str ⟨#[115]⟩] = some (.bool true, []) := by kernel_rfl
theorem nm1 : callN prog 40 138 [.str ⟨#[110, 112]⟩] = some (.bool true, []) := by kernel_rfl
theorem nm2 : callN prog 40 138 [.str ⟨#[116]⟩] = some (.bool true, []) := by kernel_rfl
theorem name_types {s : ByteArray} (h : s ∈ types) : NameAns s := by
  simp only [types, List.mem_cons, List.not_mem_nil, or_false] at h
  rcases h with rfl | rfl | rfl
  · exact ⟨true, callV_iff.2 ⟨40, nm0⟩⟩
  · exact ⟨true, callV_iff.2 ⟨40, nm1⟩⟩
  · exact ⟨true, callV_iff.2 ⟨40, nm2⟩⟩
theorem nm3 : callN prog 40 138 [.str ⟨#[83]⟩] = some (.bool true, []) := by kernel_rfl
theorem nm4 : callN prog 40 138 [.str ⟨#[78, 80]⟩] = some (.bool true, []) := by kernel_rfl
theorem nm5 : callN prog 40 138 [.str ⟨#[86, 80]⟩] = some (.bool true, []) := by kernel_rfl
theorem name_labels {s : ByteArray} (h : s ∈ labels) : NameAns s := by
  simp only [labels, List.mem_cons, List.not_mem_nil, or_false] at h
  rcases h with rfl | rfl | rfl
  · exact ⟨true, callV_iff.2 ⟨40, nm3⟩⟩
  · exact ⟨true, callV_iff.2 ⟨40, nm4⟩⟩
  · exact ⟨true, callV_iff.2 ⟨40, nm5⟩⟩
theorem nm6 : callN prog 40 138 [.str ⟨#[111, 98, 106]⟩] = some (.bool true, []) := by kernel_rfl
theorem nm7 : callN prog 40 138 [.str ⟨#[100, 101, 116]⟩] = some (.bool true, []) := by kernel_rfl
theorem nm8 : callN prog 40 138 [.str ⟨#[]⟩] = some (.bool false, []) := by kernel_rfl
theorem name_relNames {s : ByteArray} (h : s ∈ relNames) : NameAns s := by
  simp only [relNames, List.mem_cons, List.not_mem_nil, or_false] at h
  rcases h with rfl | rfl | rfl
  · exact ⟨true, callV_iff.2 ⟨40, nm6⟩⟩
  · exact ⟨true, callV_iff.2 ⟨40, nm7⟩⟩
  · exact ⟨false, callV_iff.2 ⟨40, nm8⟩⟩
theorem nm9 : callN prog 40 138 [.str ⟨#[116, 48]⟩] = some (.bool true, []) := by kernel_rfl
theorem nm10 : callN prog 40 138 [.str ⟨#[116, 49]⟩] = some (.bool true, []) := by kernel_rfl
theorem nm11 : callN prog 40 138 [.str ⟨#[116, 50]⟩] = some (.bool true, []) := by kernel_rfl
theorem name_names {s : ByteArray} (h : s ∈ names) : NameAns s := by
  simp only [names, List.mem_cons, List.not_mem_nil, or_false] at h
  rcases h with rfl | rfl | rfl
  · exact ⟨true, callV_iff.2 ⟨40, nm9⟩⟩
  · exact ⟨true, callV_iff.2 ⟨40, nm10⟩⟩
  · exact ⟨true, callV_iff.2 ⟨40, nm11⟩⟩

end Go.Ab.Prog

/- Part ValF. -/
namespace Go.Ab.Prog
open Go Go.Ab
set_option linter.unusedSimpArgs false
set_option maxHeartbeats 8000000

@[simp] theorem szs_Tx {l : List Tx} : szs 4 (l.map Tx.enc) = true := by simp [szs, Tx.enc]
def InfosOk (x : Tx) : Prop := x.info = [] ∨ ∃ p, InfoOk p ∧ x.info = [p]

theorem txt_in {c : Corp} {x : Tx} {n e k i : Int} {m r : Nat} {rest : List PV} : ∀ (d j : Nat), j + d = m → m ≤ c.texts.length → c.texts.length ≤ 100 →
    (∃ b d' : Int, evV prog ic115_0 ⟨tm [(1, .ptr 100 0), (4, I n), (5, I e), (6, I i), (7, .ptr 101 0), (26, .list rest), (27, I r), (28, I k), (41, .list ((c.texts.take m).map Tx.enc)), (42, I m), (43, I j)], hp [(100, some (.box c.cells)), (101, some (.box x.enc.cells))]⟩
      = some (.ret, ⟨tm [(2, I b), (3, I d')], hp []⟩)) ∨
    evV prog ic115_0 ⟨tm [(1, .ptr 100 0), (4, I n), (5, I e), (6, I i), (7, .ptr 101 0), (26, .list rest), (27, I r), (28, I k), (41, .list ((c.texts.take m).map Tx.enc)), (42, I m), (43, I j)], hp [(100, some (.box c.cells)), (101, some (.box x.enc.cells))]⟩
      = some (.exit 2, ⟨tm [(1, .ptr 100 0), (4, I n), (5, I e), (6, I i), (7, .ptr 101 0), (26, .list rest), (27, I r), (28, I k)], hp [(100, some (.box c.cells)), (101, some (.box x.enc.cells))]⟩) := by
  intro d
  induction d with
  | zero =>
    intro j hj hm hn
    right
    have : ¬ j < m := by omega
    rw [ic115_0_eq]
    simp [ic115_0_b, this, Corp.cells, Tx.enc]
  | succ d ih =>
    intro j hj hm hn
    have hlt : j < m := by omega
    have hlt' : j < c.texts.length := by omega
    have hw : IntKind.i64.wrap ((j : Int) + 1) = j + 1 := wrap64 (by omega) (by omega)
    have e : c.texts[j]? = some c.texts[j] := List.getElem?_eq_getElem _
    cases h : c.texts[j].name.toList == x.name.toList
    rotate_left
    · left
      refine ⟨i, 5, ?_⟩
      rw [ic115_0_eq]
      simp [ic115_0_b, hlt, Corp.cells, Tx.enc, hw, h, hlt', List.getElem?_take]
    · have hi := ih (j + 1) (by omega) hm hn
      simp [Corp.cells, Tx.enc] at hi
      rcases hi with ⟨b, d', hi⟩ | hi
      · left
        refine ⟨b, d', ?_⟩
        rw [ic115_0_eq]
        simp [ic115_0_b, hlt, Corp.cells, Tx.enc, hw, h, hlt', List.getElem?_take]
        simpa using hi
      · right
        rw [ic115_0_eq]
        simp [ic115_0_b, hlt, Corp.cells, Tx.enc, hw, h, hlt', List.getElem?_take]
        simpa using hi

def Totals (c : Corp) : Prop := ∀ x ∈ c.texts, NameAns x.name ∧ InfosOk x

theorem txt_loop {c : Corp} (hc : Totals c) (hn : c.texts.length ≤ 100) (ht : c.toks.length ≤ 100) : ∀ (d i : Nat) (e : Int), i + d = c.texts.length →
    (∃ b d' : Int, evV prog ic115_1 ⟨tm [(1, .ptr 100 0), (4, I c.toks.length), (5, I e), (26, .list (c.texts.map Tx.enc)), (27, I c.texts.length), (28, I i)], hp [(100, some (.box c.cells))]⟩
      = some (.ret, ⟨tm [(2, I b), (3, I d')], hp []⟩)) ∨
    evV prog ic115_1 ⟨tm [(1, .ptr 100 0), (4, I c.toks.length), (5, I e), (26, .list (c.texts.map Tx.enc)), (27, I c.texts.length), (28, I i)], hp [(100, some (.box c.cells))]⟩
      = some (.exit 0, ⟨tm [], hp []⟩) := by
  intro d
  induction d with
  | zero =>
    intro i e hi
    right
    have : ¬ i < c.texts.length := by omega
    rw [ic115_1_eq]
    simp [ic115_1_b, this, Corp.cells]
  | succ d ih =>
    intro i e hi
    have hlt : i < c.texts.length := by omega
    have hle : i ≤ c.texts.length := by omega
    have hw : IntKind.i64.wrap ((i : Int) + 1) = i + 1 := wrap64 (by omega) (by omega)
    have hw2 : IntKind.i64.wrap ((c.texts.length : Int) - 1) = (c.texts.length : Int) - 1 := wrap64 (by omega) (by omega)
    have he : c.texts[i]? = some c.texts[i] := List.getElem?_eq_getElem _
    obtain ⟨⟨nb, hnm⟩, hpr⟩ := hc c.texts[i] (List.getElem_mem _)
    have hpr := info_val hpr
    have hin := txt_in (c := c) (x := c.texts[i]) (n := c.toks.length) (e := e) (k := i) (i := i) (m := i) (r := c.texts.length) (rest := c.texts.map Tx.enc) i 0 (by omega) hle hn
    have hnext := ih (i + 1) c.texts[i].e (by omega)
    generalize hx : c.texts[i] = x at *
    simp [Corp.cells, Tx.enc] at hin hnext
    cases nb
    · left
      refine ⟨i, 4, ?_⟩
      rw [ic115_1_eq]
      simp [ic115_1_b, hlt, Corp.cells, hw, hx, Tx.enc, hnm]
    · rcases hin with ⟨b, d', hin⟩ | hin
      · left
        refine ⟨b, d', ?_⟩
        rw [ic115_1_eq]
        simp [ic115_1_b, hlt, hle, Corp.cells, hw, hx, Tx.enc, hnm, hin, List.map_take]
      · cases c1 : decide (x.b = e)
        rotate_left
        · by_cases c2 : x.e ≤ x.b
          · left
            refine ⟨i, 8, ?_⟩
            rw [ic115_1_eq]
            simp [ic115_1_b, hlt, hle, Corp.cells, hw, hw2, hx, Tx.enc, hnm, hin, c1, c2]
          · by_cases c3 : (c.toks.length : Int) < x.e
            · left
              refine ⟨i, 8, ?_⟩
              rw [ic115_1_eq]
              simp [ic115_1_b, hlt, hle, Corp.cells, hw, hw2, hx, Tx.enc, hnm, hin, c1, c2, c3]
            · cases c4 : decide ((i : Int) = (c.texts.length : Int) - 1)
              rotate_left
              · cases c5 : decide (x.e = (c.toks.length : Int))
                rotate_left
                · rcases hnext with ⟨b, d', hnext⟩ | hnext
                  · left
                    refine ⟨b, d', ?_⟩
                    rw [ic115_1_eq]
                    simp [ic115_1_b, hlt, hle, Corp.cells, hw, hw2, hx, hpr, Tx.enc, hnm, hin, c1, c2, c3, c4, c5]
                    simpa using hnext
                  · right
                    rw [ic115_1_eq]
                    simp [ic115_1_b, hlt, hle, Corp.cells, hw, hw2, hx, hpr, Tx.enc, hnm, hin, c1, c2, c3, c4, c5]
                    simpa using hnext
                · left
                  refine ⟨i, 8, ?_⟩
                  rw [ic115_1_eq]
                  simp [ic115_1_b, hlt, hle, Corp.cells, hw, hw2, hx, Tx.enc, hnm, hin, c1, c2, c3, c4, c5]
              · rcases hnext with ⟨b, d', hnext⟩ | hnext
                · left
                  refine ⟨b, d', ?_⟩
                  rw [ic115_1_eq]
                  simp [ic115_1_b, hlt, hle, Corp.cells, hw, hw2, hx, hpr, Tx.enc, hnm, hin, c1, c2, c3, c4]
                  simpa using hnext
                · right
                  rw [ic115_1_eq]
                  simp [ic115_1_b, hlt, hle, Corp.cells, hw, hw2, hx, hpr, Tx.enc, hnm, hin, c1, c2, c3, c4]
                  simpa using hnext
        · left
          refine ⟨i, 8, ?_⟩
          rw [ic115_1_eq]
          simp [ic115_1_b, hlt, hle, Corp.cells, hw, hw2, hx, Tx.enc, hnm, hin, c1]

end Go.Ab.Prog
