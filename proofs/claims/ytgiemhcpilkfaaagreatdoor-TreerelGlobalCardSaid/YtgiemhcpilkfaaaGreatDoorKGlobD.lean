/- What Holds answers for an atom between two tokens. -/
import Derived.Test.YtgiemhcpilkfaaaGreatDoorKGlobC

namespace Go.Ab.Prog
open Go Go.Ab
set_option linter.unusedSimpArgs false
set_option linter.unusedVariables false
set_option maxHeartbeats 16000000

/-- Is the second the head of the first? -/
def isHead (c : Corp) (u v : Nat) : Bool := match up c u with
  | [] => false
  | k :: _ => decide ((k : Int) = v)

/-- A label of a match is bound to a number. -/
def Bound (A : ByteArray) (b e p q u : Int) : Prop := callV prog 69 [.list labs, .agg (mc b e p q), .str A] = some (I u, [])

theorem related_same {c : Corp} {rk : Nat → Nat} (hc : HeadsOk c rk) (hn : c.toks.length ≤ 100) (hd : c.nodes.length ≤ 100) {x y : ByteArray} {i j : Nat} (hx : callV prog 61 [.list attrs, .str x] = some (I i, [])) (hy : callV prog 61 [.list attrs, .str y] = some (I j, [])) (A B : ByteArray) {u v : Nat} (hu : u < c.toks.length) (hv : v < c.toks.length) : callV prog 73 [.agg (sc c (gc 3 A B x y ⟨#[]⟩ 0 0 []) u v)] = some (.bool (((valAt c u i).toList == (valAt c v j).toList)), []) := by
  have h : callV prog 97 [.agg (sc c (gc 3 A B x y ⟨#[]⟩ 0 0 []) u v)] = some (.bool (((valAt c u i).toList == (valAt c v j).toList)), []) := scene_same hc hn hd hx hy A B hu hv
  generalize (((valAt c u i).toList == (valAt c v j).toList)) = r at *
  refine callV_fn (body := ic73) rfl rfl ?_
  simp [sc, gc, Corp.cells] at h
  simp [ic73, sc, gc, Corp.cells, h]

theorem holds_same {c : Corp} {rk : Nat → Nat} (hc : HeadsOk c rk) (hn : c.toks.length ≤ 100) (hd : c.nodes.length ≤ 100) {x y : ByteArray} {i j : Nat} (hx : callV prog 61 [.list attrs, .str x] = some (I i, [])) (hy : callV prog 61 [.list attrs, .str y] = some (I j, [])) (A B : ByteArray) (b e p q : Int) {u v : Nat} (hu : u < c.toks.length) (hv : v < c.toks.length) (tu : Bound A b e p q u) (tv : Bound B b e p q v) :
    callV prog 32 [.agg c.cells, .agg (gc 3 A B x y ⟨#[]⟩ 0 0 []), .list labs, .agg (mc b e p q)] = some (.bool (((valAt c u i).toList == (valAt c v j).toList)), []) := by
  have h := related_same hc hn hd hx hy A B hu hv
  generalize (((valAt c u i).toList == (valAt c v j).toList)) = r at *
  unfold Bound at tu tv
  have n1 : ¬ (u : Int) < 0 := by omega
  have n2 : ¬ (v : Int) < 0 := by omega
  have n3 : 0 ≤ (v : Int) := by omega
  refine callV_fn (body := ic32) rfl rfl ?_
  simp [sc, gc, Corp.cells] at h
  simp [mc] at tu tv
  simp [ic32, sc, gc, mc, Corp.cells, tu, tv, h, n1, n2, n3]

theorem holds1_same (c : Corp) (A B : ByteArray) (x y : ByteArray) (b e p q : Int) {k : Int} (tu : Bound A b e p q k) (hk : k < 0) :
    callV prog 32 [.agg c.cells, .agg (gc 3 A B x y ⟨#[]⟩ 0 0 []), .list labs, .agg (mc b e p q)] = some (.bool false, []) := by
  unfold Bound at tu
  refine callV_fn (body := ic32) rfl rfl ?_
  simp [mc] at tu
  simp [ic32, gc, mc, Corp.cells, tu, hk]

theorem holds2_same (c : Corp) (A B : ByteArray) (x y : ByteArray) (b e p q : Int) {u : Nat} {k : Int} (tu : Bound A b e p q u) (tv : Bound B b e p q k) (hk : k < 0) :
    callV prog 32 [.agg c.cells, .agg (gc 3 A B x y ⟨#[]⟩ 0 0 []), .list labs, .agg (mc b e p q)] = some (.bool false, []) := by
  unfold Bound at tu tv
  have n1 : ¬ (u : Int) < 0 := by omega
  have n3 : ¬ 0 ≤ k := by omega
  refine callV_fn (body := ic32) rfl rfl ?_
  simp [mc] at tu tv
  simp [ic32, gc, mc, Corp.cells, tu, tv, hk, n1, n3]

theorem Holds_same {c : Corp} {rk : Nat → Nat} (hc : HeadsOk c rk) (hn : c.toks.length ≤ 100) (hd : c.nodes.length ≤ 100) {x y : ByteArray} {i j : Nat} (hx : callV prog 61 [.list attrs, .str x] = some (I i, [])) (hy : callV prog 61 [.list attrs, .str y] = some (I j, [])) (A B : ByteArray) (b e p q : Int) {u v : Nat} (hu : u < c.toks.length) (hv : v < c.toks.length) (tu : Bound A b e p q u) (tv : Bound B b e p q v) (hf : (inC c p && inC c q) = true) :
    callV prog 14 [.agg c.cells, .agg (gc 3 A B x y ⟨#[]⟩ 0 0 []), .list labs, .agg (mc b e p q)] = some (.bool (((valAt c u i).toList == (valAt c v j).toList)), []) := by
  have h1 := sound_same A B x y
  have h2 := known_same hx hy c A B
  have h3 := fits_spec c b e p q
  rw [hf] at h3
  have h4 := holds_same hc hn hd hx hy A B b e p q hu hv tu tv
  generalize (((valAt c u i).toList == (valAt c v j).toList)) = r at *
  refine callV_fn (body := ic14) rfl rfl ?_
  simp [gc, mc, Corp.cells] at h1 h2 h3 h4
  simp [ic14, gc, mc, Corp.cells, h1, h2, h3, h4]

theorem HoldsN_same {c : Corp} {rk : Nat → Nat} (hc : HeadsOk c rk) (hn : c.toks.length ≤ 100) (hd : c.nodes.length ≤ 100) {x y : ByteArray} {i j : Nat} (hx : callV prog 61 [.list attrs, .str x] = some (I i, [])) (hy : callV prog 61 [.list attrs, .str y] = some (I j, [])) (A B : ByteArray) (b e p q : Int) {k l : Int} (tu : Bound A b e p q k) (tv : Bound B b e p q l) (hkl : (inC c p && inC c q) = false ∨ k < 0 ∨ l < 0) :
    callV prog 14 [.agg c.cells, .agg (gc 3 A B x y ⟨#[]⟩ 0 0 []), .list labs, .agg (mc b e p q)] = some (.bool false, []) := by
  have h1 := sound_same A B x y
  have h2 := known_same hx hy c A B
  have h3 := fits_spec c b e p q
  cases hf : (inC c p && inC c q)
  · rw [hf] at h3
    refine callV_fn (body := ic14) rfl rfl ?_
    simp [gc, mc, Corp.cells] at h1 h2 h3
    simp [ic14, gc, mc, Corp.cells, h1, h2, h3]
  · rw [hf] at h3 hkl
    have h4 : callV prog 32 [.agg c.cells, .agg (gc 3 A B x y ⟨#[]⟩ 0 0 []), .list labs, .agg (mc b e p q)] = some (.bool false, []) := by
      by_cases hk : k < 0
      · exact holds1_same c A B x y b e p q tu hk
      · obtain ⟨n, rfl⟩ := Int.eq_ofNat_of_zero_le (show 0 ≤ k by omega)
        exact holds2_same c A B x y b e p q tu tv (by simpa [hk] using hkl)
    refine callV_fn (body := ic14) rfl rfl ?_
    simp [gc, mc, Corp.cells] at h1 h2 h3 h4
    simp [ic14, gc, mc, Corp.cells, h1, h2, h3, h4]

theorem related_dist {c : Corp} {rk : Nat → Nat} (hc : HeadsOk c rk) (hn : c.toks.length ≤ 100) (hd : c.nodes.length ≤ 100) (mn mx : Int) (A B : ByteArray) {u v : Nat} (hu : u < c.toks.length) (hv : v < c.toks.length) : callV prog 73 [.agg (sc c (gc 4 A B ⟨#[]⟩ ⟨#[]⟩ ⟨#[]⟩ mn mx []) u v)] = some (.bool ((decide (mn ≤ (v : Int) - u) && decide ((v : Int) - u ≤ mx))), []) := by
  have h : callV prog 98 [.agg (sc c (gc 4 A B ⟨#[]⟩ ⟨#[]⟩ ⟨#[]⟩ mn mx []) u v)] = some (.bool ((decide (mn ≤ (v : Int) - u) && decide ((v : Int) - u ≤ mx))), []) := scene_dist hc hn hd mn mx A B hu hv
  generalize ((decide (mn ≤ (v : Int) - u) && decide ((v : Int) - u ≤ mx))) = r at *
  refine callV_fn (body := ic73) rfl rfl ?_
  simp [sc, gc, Corp.cells] at h
  simp [ic73, sc, gc, Corp.cells, h]

theorem holds_dist {c : Corp} {rk : Nat → Nat} (hc : HeadsOk c rk) (hn : c.toks.length ≤ 100) (hd : c.nodes.length ≤ 100) (mn mx : Int) (A B : ByteArray) (b e p q : Int) {u v : Nat} (hu : u < c.toks.length) (hv : v < c.toks.length) (tu : Bound A b e p q u) (tv : Bound B b e p q v) :
    callV prog 32 [.agg c.cells, .agg (gc 4 A B ⟨#[]⟩ ⟨#[]⟩ ⟨#[]⟩ mn mx []), .list labs, .agg (mc b e p q)] = some (.bool ((decide (mn ≤ (v : Int) - u) && decide ((v : Int) - u ≤ mx))), []) := by
  have h := related_dist hc hn hd mn mx A B hu hv
  generalize ((decide (mn ≤ (v : Int) - u) && decide ((v : Int) - u ≤ mx))) = r at *
  unfold Bound at tu tv
  have n1 : ¬ (u : Int) < 0 := by omega
  have n2 : ¬ (v : Int) < 0 := by omega
  have n3 : 0 ≤ (v : Int) := by omega
  refine callV_fn (body := ic32) rfl rfl ?_
  simp [sc, gc, Corp.cells] at h
  simp [mc] at tu tv
  simp [ic32, sc, gc, mc, Corp.cells, tu, tv, h, n1, n2, n3]

theorem holds1_dist (c : Corp) (A B : ByteArray) (mn mx : Int) (b e p q : Int) {k : Int} (tu : Bound A b e p q k) (hk : k < 0) :
    callV prog 32 [.agg c.cells, .agg (gc 4 A B ⟨#[]⟩ ⟨#[]⟩ ⟨#[]⟩ mn mx []), .list labs, .agg (mc b e p q)] = some (.bool false, []) := by
  unfold Bound at tu
  refine callV_fn (body := ic32) rfl rfl ?_
  simp [mc] at tu
  simp [ic32, gc, mc, Corp.cells, tu, hk]

theorem holds2_dist (c : Corp) (A B : ByteArray) (mn mx : Int) (b e p q : Int) {u : Nat} {k : Int} (tu : Bound A b e p q u) (tv : Bound B b e p q k) (hk : k < 0) :
    callV prog 32 [.agg c.cells, .agg (gc 4 A B ⟨#[]⟩ ⟨#[]⟩ ⟨#[]⟩ mn mx []), .list labs, .agg (mc b e p q)] = some (.bool false, []) := by
  unfold Bound at tu tv
  have n1 : ¬ (u : Int) < 0 := by omega
  have n3 : ¬ 0 ≤ k := by omega
  refine callV_fn (body := ic32) rfl rfl ?_
  simp [mc] at tu tv
  simp [ic32, gc, mc, Corp.cells, tu, tv, hk, n1, n3]

theorem Holds_dist {c : Corp} {rk : Nat → Nat} (hc : HeadsOk c rk) (hn : c.toks.length ≤ 100) (hd : c.nodes.length ≤ 100) (mn mx : Int) (A B : ByteArray) (b e p q : Int) {u v : Nat} (hu : u < c.toks.length) (hv : v < c.toks.length) (tu : Bound A b e p q u) (tv : Bound B b e p q v) (hf : (inC c p && inC c q) = true) :
    callV prog 14 [.agg c.cells, .agg (gc 4 A B ⟨#[]⟩ ⟨#[]⟩ ⟨#[]⟩ mn mx []), .list labs, .agg (mc b e p q)] = some (.bool ((decide (mn ≤ (v : Int) - u) && decide ((v : Int) - u ≤ mx))), []) := by
  have h1 := sound_dist A B mn mx
  have h2 := gknown_spec c (op := 4) (by decide) (by decide) A B ⟨#[]⟩ ⟨#[]⟩ ⟨#[]⟩ mn mx []
  have h3 := fits_spec c b e p q
  rw [hf] at h3
  have h4 := holds_dist hc hn hd mn mx A B b e p q hu hv tu tv
  generalize ((decide (mn ≤ (v : Int) - u) && decide ((v : Int) - u ≤ mx))) = r at *
  refine callV_fn (body := ic14) rfl rfl ?_
  simp [gc, mc, Corp.cells] at h1 h2 h3 h4
  simp [ic14, gc, mc, Corp.cells, h1, h2, h3, h4]

theorem HoldsN_dist {c : Corp} {rk : Nat → Nat} (hc : HeadsOk c rk) (hn : c.toks.length ≤ 100) (hd : c.nodes.length ≤ 100) (mn mx : Int) (A B : ByteArray) (b e p q : Int) {k l : Int} (tu : Bound A b e p q k) (tv : Bound B b e p q l) (hkl : (inC c p && inC c q) = false ∨ k < 0 ∨ l < 0) :
    callV prog 14 [.agg c.cells, .agg (gc 4 A B ⟨#[]⟩ ⟨#[]⟩ ⟨#[]⟩ mn mx []), .list labs, .agg (mc b e p q)] = some (.bool false, []) := by
  have h1 := sound_dist A B mn mx
  have h2 := gknown_spec c (op := 4) (by decide) (by decide) A B ⟨#[]⟩ ⟨#[]⟩ ⟨#[]⟩ mn mx []
  have h3 := fits_spec c b e p q
  cases hf : (inC c p && inC c q)
  · rw [hf] at h3
    refine callV_fn (body := ic14) rfl rfl ?_
    simp [gc, mc, Corp.cells] at h1 h2 h3
    simp [ic14, gc, mc, Corp.cells, h1, h2, h3]
  · rw [hf] at h3 hkl
    have h4 : callV prog 32 [.agg c.cells, .agg (gc 4 A B ⟨#[]⟩ ⟨#[]⟩ ⟨#[]⟩ mn mx []), .list labs, .agg (mc b e p q)] = some (.bool false, []) := by
      by_cases hk : k < 0
      · exact holds1_dist c A B mn mx b e p q tu hk
      · obtain ⟨n, rfl⟩ := Int.eq_ofNat_of_zero_le (show 0 ≤ k by omega)
        exact holds2_dist c A B mn mx b e p q tu tv (by simpa [hk] using hkl)
    refine callV_fn (body := ic14) rfl rfl ?_
    simp [gc, mc, Corp.cells] at h1 h2 h3 h4
    simp [ic14, gc, mc, Corp.cells, h1, h2, h3, h4]

theorem related_head {c : Corp} {rk : Nat → Nat} (hc : HeadsOk c rk) (hn : c.toks.length ≤ 100) (hd : c.nodes.length ≤ 100) (A B : ByteArray) {u v : Nat} (hu : u < c.toks.length) (hv : v < c.toks.length) : callV prog 73 [.agg (sc c (gc 6 A B ⟨#[]⟩ ⟨#[]⟩ ⟨#[]⟩ 0 0 []) u v)] = some (.bool (isHead c u v), []) := by
  have h : callV prog 100 [.agg (sc c (gc 6 A B ⟨#[]⟩ ⟨#[]⟩ ⟨#[]⟩ 0 0 []) u v)] = some (.bool (isHead c u v), []) := scene_head hc hn hd A B hu hv
  generalize (isHead c u v) = r at *
  refine callV_fn (body := ic73) rfl rfl ?_
  simp [sc, gc, Corp.cells] at h
  simp [ic73, sc, gc, Corp.cells, h]

theorem holds_head {c : Corp} {rk : Nat → Nat} (hc : HeadsOk c rk) (hn : c.toks.length ≤ 100) (hd : c.nodes.length ≤ 100) (A B : ByteArray) (b e p q : Int) {u v : Nat} (hu : u < c.toks.length) (hv : v < c.toks.length) (tu : Bound A b e p q u) (tv : Bound B b e p q v) :
    callV prog 32 [.agg c.cells, .agg (gc 6 A B ⟨#[]⟩ ⟨#[]⟩ ⟨#[]⟩ 0 0 []), .list labs, .agg (mc b e p q)] = some (.bool (isHead c u v), []) := by
  have h := related_head hc hn hd A B hu hv
  generalize (isHead c u v) = r at *
  unfold Bound at tu tv
  have n1 : ¬ (u : Int) < 0 := by omega
  have n2 : ¬ (v : Int) < 0 := by omega
  have n3 : 0 ≤ (v : Int) := by omega
  refine callV_fn (body := ic32) rfl rfl ?_
  simp [sc, gc, Corp.cells] at h
  simp [mc] at tu tv
  simp [ic32, sc, gc, mc, Corp.cells, tu, tv, h, n1, n2, n3]

theorem holds1_head (c : Corp) (A B : ByteArray) (b e p q : Int) {k : Int} (tu : Bound A b e p q k) (hk : k < 0) :
    callV prog 32 [.agg c.cells, .agg (gc 6 A B ⟨#[]⟩ ⟨#[]⟩ ⟨#[]⟩ 0 0 []), .list labs, .agg (mc b e p q)] = some (.bool false, []) := by
  unfold Bound at tu
  refine callV_fn (body := ic32) rfl rfl ?_
  simp [mc] at tu
  simp [ic32, gc, mc, Corp.cells, tu, hk]

theorem holds2_head (c : Corp) (A B : ByteArray) (b e p q : Int) {u : Nat} {k : Int} (tu : Bound A b e p q u) (tv : Bound B b e p q k) (hk : k < 0) :
    callV prog 32 [.agg c.cells, .agg (gc 6 A B ⟨#[]⟩ ⟨#[]⟩ ⟨#[]⟩ 0 0 []), .list labs, .agg (mc b e p q)] = some (.bool false, []) := by
  unfold Bound at tu tv
  have n1 : ¬ (u : Int) < 0 := by omega
  have n3 : ¬ 0 ≤ k := by omega
  refine callV_fn (body := ic32) rfl rfl ?_
  simp [mc] at tu tv
  simp [ic32, gc, mc, Corp.cells, tu, tv, hk, n1, n3]

theorem Holds_head {c : Corp} {rk : Nat → Nat} (hc : HeadsOk c rk) (hn : c.toks.length ≤ 100) (hd : c.nodes.length ≤ 100) (A B : ByteArray) (b e p q : Int) {u v : Nat} (hu : u < c.toks.length) (hv : v < c.toks.length) (tu : Bound A b e p q u) (tv : Bound B b e p q v) (hf : (inC c p && inC c q) = true) :
    callV prog 14 [.agg c.cells, .agg (gc 6 A B ⟨#[]⟩ ⟨#[]⟩ ⟨#[]⟩ 0 0 []), .list labs, .agg (mc b e p q)] = some (.bool (isHead c u v), []) := by
  have h1 := sound_head A B
  have h2 := gknown_spec c (op := 6) (by decide) (by decide) A B ⟨#[]⟩ ⟨#[]⟩ ⟨#[]⟩ 0 0 []
  have h3 := fits_spec c b e p q
  rw [hf] at h3
  have h4 := holds_head hc hn hd A B b e p q hu hv tu tv
  generalize (isHead c u v) = r at *
  refine callV_fn (body := ic14) rfl rfl ?_
  simp [gc, mc, Corp.cells] at h1 h2 h3 h4
  simp [ic14, gc, mc, Corp.cells, h1, h2, h3, h4]

theorem related_anc {c : Corp} {rk : Nat → Nat} (hc : HeadsOk c rk) (hn : c.toks.length ≤ 100) (hd : c.nodes.length ≤ 100) (A B : ByteArray) {u v : Nat} (hu : u < c.toks.length) (hv : v < c.toks.length) : callV prog 73 [.agg (sc c (gc 7 A B ⟨#[]⟩ ⟨#[]⟩ ⟨#[]⟩ 0 0 []) u v)] = some (.bool (has (up c u) v), []) := by
  have h : callV prog 101 [.agg (sc c (gc 7 A B ⟨#[]⟩ ⟨#[]⟩ ⟨#[]⟩ 0 0 []) u v)] = some (.bool (has (up c u) v), []) := scene_anc hc hn hd A B hu hv
  generalize (has (up c u) v) = r at *
  refine callV_fn (body := ic73) rfl rfl ?_
  simp [sc, gc, Corp.cells] at h
  simp [ic73, sc, gc, Corp.cells, h]

theorem holds_anc {c : Corp} {rk : Nat → Nat} (hc : HeadsOk c rk) (hn : c.toks.length ≤ 100) (hd : c.nodes.length ≤ 100) (A B : ByteArray) (b e p q : Int) {u v : Nat} (hu : u < c.toks.length) (hv : v < c.toks.length) (tu : Bound A b e p q u) (tv : Bound B b e p q v) :
    callV prog 32 [.agg c.cells, .agg (gc 7 A B ⟨#[]⟩ ⟨#[]⟩ ⟨#[]⟩ 0 0 []), .list labs, .agg (mc b e p q)] = some (.bool (has (up c u) v), []) := by
  have h := related_anc hc hn hd A B hu hv
  generalize (has (up c u) v) = r at *
  unfold Bound at tu tv
  have n1 : ¬ (u : Int) < 0 := by omega
  have n2 : ¬ (v : Int) < 0 := by omega
  have n3 : 0 ≤ (v : Int) := by omega
  refine callV_fn (body := ic32) rfl rfl ?_
  simp [sc, gc, Corp.cells] at h
  simp [mc] at tu tv
  simp [ic32, sc, gc, mc, Corp.cells, tu, tv, h, n1, n2, n3]

theorem holds1_anc (c : Corp) (A B : ByteArray) (b e p q : Int) {k : Int} (tu : Bound A b e p q k) (hk : k < 0) :
    callV prog 32 [.agg c.cells, .agg (gc 7 A B ⟨#[]⟩ ⟨#[]⟩ ⟨#[]⟩ 0 0 []), .list labs, .agg (mc b e p q)] = some (.bool false, []) := by
  unfold Bound at tu
  refine callV_fn (body := ic32) rfl rfl ?_
  simp [mc] at tu
  simp [ic32, gc, mc, Corp.cells, tu, hk]

theorem holds2_anc (c : Corp) (A B : ByteArray) (b e p q : Int) {u : Nat} {k : Int} (tu : Bound A b e p q u) (tv : Bound B b e p q k) (hk : k < 0) :
    callV prog 32 [.agg c.cells, .agg (gc 7 A B ⟨#[]⟩ ⟨#[]⟩ ⟨#[]⟩ 0 0 []), .list labs, .agg (mc b e p q)] = some (.bool false, []) := by
  unfold Bound at tu tv
  have n1 : ¬ (u : Int) < 0 := by omega
  have n3 : ¬ 0 ≤ k := by omega
  refine callV_fn (body := ic32) rfl rfl ?_
  simp [mc] at tu tv
  simp [ic32, gc, mc, Corp.cells, tu, tv, hk, n1, n3]

theorem Holds_anc {c : Corp} {rk : Nat → Nat} (hc : HeadsOk c rk) (hn : c.toks.length ≤ 100) (hd : c.nodes.length ≤ 100) (A B : ByteArray) (b e p q : Int) {u v : Nat} (hu : u < c.toks.length) (hv : v < c.toks.length) (tu : Bound A b e p q u) (tv : Bound B b e p q v) (hf : (inC c p && inC c q) = true) :
    callV prog 14 [.agg c.cells, .agg (gc 7 A B ⟨#[]⟩ ⟨#[]⟩ ⟨#[]⟩ 0 0 []), .list labs, .agg (mc b e p q)] = some (.bool (has (up c u) v), []) := by
  have h1 := sound_anc A B
  have h2 := gknown_spec c (op := 7) (by decide) (by decide) A B ⟨#[]⟩ ⟨#[]⟩ ⟨#[]⟩ 0 0 []
  have h3 := fits_spec c b e p q
  rw [hf] at h3
  have h4 := holds_anc hc hn hd A B b e p q hu hv tu tv
  generalize (has (up c u) v) = r at *
  refine callV_fn (body := ic14) rfl rfl ?_
  simp [gc, mc, Corp.cells] at h1 h2 h3 h4
  simp [ic14, gc, mc, Corp.cells, h1, h2, h3, h4]

theorem related_path {c : Corp} {rk : Nat → Nat} (hc : HeadsOk c rk) (hn : c.toks.length ≤ 100) (hd : c.nodes.length ≤ 100) (ar : List ByteArray) (A B : ByteArray) {u v : Nat} (hu : u < c.toks.length) (hv : v < c.toks.length) (har : has (way c u) v = true → ar = pre c (way c u) v) : callV prog 73 [.agg (sc c (gc 8 A B ⟨#[]⟩ ⟨#[]⟩ ⟨#[]⟩ 0 0 ar) u v)] = some (.bool (has (way c u) v), []) := by
  have h : callV prog 102 [.agg (sc c (gc 8 A B ⟨#[]⟩ ⟨#[]⟩ ⟨#[]⟩ 0 0 ar) u v)] = some (.bool (has (way c u) v), []) := scene_path hc hn hd ar A B hu hv har
  generalize (has (way c u) v) = r at *
  refine callV_fn (body := ic73) rfl rfl ?_
  simp [sc, gc, Corp.cells] at h
  simp [ic73, sc, gc, Corp.cells, h]

theorem holds_path {c : Corp} {rk : Nat → Nat} (hc : HeadsOk c rk) (hn : c.toks.length ≤ 100) (hd : c.nodes.length ≤ 100) (ar : List ByteArray) (A B : ByteArray) (b e p q : Int) {u v : Nat} (hu : u < c.toks.length) (hv : v < c.toks.length) (har : has (way c u) v = true → ar = pre c (way c u) v) (tu : Bound A b e p q u) (tv : Bound B b e p q v) :
    callV prog 32 [.agg c.cells, .agg (gc 8 A B ⟨#[]⟩ ⟨#[]⟩ ⟨#[]⟩ 0 0 ar), .list labs, .agg (mc b e p q)] = some (.bool (has (way c u) v), []) := by
  have h := related_path hc hn hd ar A B hu hv har
  generalize (has (way c u) v) = r at *
  unfold Bound at tu tv
  have n1 : ¬ (u : Int) < 0 := by omega
  have n2 : ¬ (v : Int) < 0 := by omega
  have n3 : 0 ≤ (v : Int) := by omega
  refine callV_fn (body := ic32) rfl rfl ?_
  simp [sc, gc, Corp.cells] at h
  simp [mc] at tu tv
  simp [ic32, sc, gc, mc, Corp.cells, tu, tv, h, n1, n2, n3]

theorem holds1_path (c : Corp) (A B : ByteArray) (ar : List ByteArray) (b e p q : Int) {k : Int} (tu : Bound A b e p q k) (hk : k < 0) :
    callV prog 32 [.agg c.cells, .agg (gc 8 A B ⟨#[]⟩ ⟨#[]⟩ ⟨#[]⟩ 0 0 ar), .list labs, .agg (mc b e p q)] = some (.bool false, []) := by
  unfold Bound at tu
  refine callV_fn (body := ic32) rfl rfl ?_
  simp [mc] at tu
  simp [ic32, gc, mc, Corp.cells, tu, hk]

theorem holds2_path (c : Corp) (A B : ByteArray) (ar : List ByteArray) (b e p q : Int) {u : Nat} {k : Int} (tu : Bound A b e p q u) (tv : Bound B b e p q k) (hk : k < 0) :
    callV prog 32 [.agg c.cells, .agg (gc 8 A B ⟨#[]⟩ ⟨#[]⟩ ⟨#[]⟩ 0 0 ar), .list labs, .agg (mc b e p q)] = some (.bool false, []) := by
  unfold Bound at tu tv
  have n1 : ¬ (u : Int) < 0 := by omega
  have n3 : ¬ 0 ≤ k := by omega
  refine callV_fn (body := ic32) rfl rfl ?_
  simp [mc] at tu tv
  simp [ic32, gc, mc, Corp.cells, tu, tv, hk, n1, n3]

theorem Holds_path {c : Corp} {rk : Nat → Nat} (hc : HeadsOk c rk) (hn : c.toks.length ≤ 100) (hd : c.nodes.length ≤ 100) (ar : List ByteArray) (A B : ByteArray) (b e p q : Int) {u v : Nat} (hu : u < c.toks.length) (hv : v < c.toks.length) (har : has (way c u) v = true → ar = pre c (way c u) v) (tu : Bound A b e p q u) (tv : Bound B b e p q v) (hf : (inC c p && inC c q) = true) :
    callV prog 14 [.agg c.cells, .agg (gc 8 A B ⟨#[]⟩ ⟨#[]⟩ ⟨#[]⟩ 0 0 ar), .list labs, .agg (mc b e p q)] = some (.bool (has (way c u) v), []) := by
  have h1 := sound_path A B ar
  have h2 := gknown_spec c (op := 8) (by decide) (by decide) A B ⟨#[]⟩ ⟨#[]⟩ ⟨#[]⟩ 0 0 ar
  have h3 := fits_spec c b e p q
  rw [hf] at h3
  have h4 := holds_path hc hn hd ar A B b e p q hu hv har tu tv
  generalize (has (way c u) v) = r at *
  refine callV_fn (body := ic14) rfl rfl ?_
  simp [gc, mc, Corp.cells] at h1 h2 h3 h4
  simp [ic14, gc, mc, Corp.cells, h1, h2, h3, h4]

theorem related_node {c : Corp} {rk : Nat → Nat} (hc : HeadsOk c rk) (hn : c.toks.length ≤ 100) (hd : c.nodes.length ≤ 100) (name : ByteArray) (A B : ByteArray) {u v : Nat} (hu : u < c.toks.length) (hv : v < c.toks.length) : callV prog 73 [.agg (sc c (gc 9 A B name ⟨#[]⟩ ⟨#[]⟩ 0 0 []) u v)] = some (.bool (c.nodes.any (over name u v)), []) := by
  have h : callV prog 103 [.agg (sc c (gc 9 A B name ⟨#[]⟩ ⟨#[]⟩ 0 0 []) u v)] = some (.bool (c.nodes.any (over name u v)), []) := scene_node hc hn hd name A B hu hv
  generalize (c.nodes.any (over name u v)) = r at *
  refine callV_fn (body := ic73) rfl rfl ?_
  simp [sc, gc, Corp.cells] at h
  simp [ic73, sc, gc, Corp.cells, h]

theorem holds_node {c : Corp} {rk : Nat → Nat} (hc : HeadsOk c rk) (hn : c.toks.length ≤ 100) (hd : c.nodes.length ≤ 100) (name : ByteArray) (A B : ByteArray) (b e p q : Int) {u v : Nat} (hu : u < c.toks.length) (hv : v < c.toks.length) (tu : Bound A b e p q u) (tv : Bound B b e p q v) :
    callV prog 32 [.agg c.cells, .agg (gc 9 A B name ⟨#[]⟩ ⟨#[]⟩ 0 0 []), .list labs, .agg (mc b e p q)] = some (.bool (c.nodes.any (over name u v)), []) := by
  have h := related_node hc hn hd name A B hu hv
  generalize (c.nodes.any (over name u v)) = r at *
  unfold Bound at tu tv
  have n1 : ¬ (u : Int) < 0 := by omega
  have n2 : ¬ (v : Int) < 0 := by omega
  have n3 : 0 ≤ (v : Int) := by omega
  refine callV_fn (body := ic32) rfl rfl ?_
  simp [sc, gc, Corp.cells] at h
  simp [mc] at tu tv
  simp [ic32, sc, gc, mc, Corp.cells, tu, tv, h, n1, n2, n3]

theorem holds1_node (c : Corp) (A B : ByteArray) (name : ByteArray) (b e p q : Int) {k : Int} (tu : Bound A b e p q k) (hk : k < 0) :
    callV prog 32 [.agg c.cells, .agg (gc 9 A B name ⟨#[]⟩ ⟨#[]⟩ 0 0 []), .list labs, .agg (mc b e p q)] = some (.bool false, []) := by
  unfold Bound at tu
  refine callV_fn (body := ic32) rfl rfl ?_
  simp [mc] at tu
  simp [ic32, gc, mc, Corp.cells, tu, hk]

theorem holds2_node (c : Corp) (A B : ByteArray) (name : ByteArray) (b e p q : Int) {u : Nat} {k : Int} (tu : Bound A b e p q u) (tv : Bound B b e p q k) (hk : k < 0) :
    callV prog 32 [.agg c.cells, .agg (gc 9 A B name ⟨#[]⟩ ⟨#[]⟩ 0 0 []), .list labs, .agg (mc b e p q)] = some (.bool false, []) := by
  unfold Bound at tu tv
  have n1 : ¬ (u : Int) < 0 := by omega
  have n3 : ¬ 0 ≤ k := by omega
  refine callV_fn (body := ic32) rfl rfl ?_
  simp [mc] at tu tv
  simp [ic32, gc, mc, Corp.cells, tu, tv, hk, n1, n3]

theorem Holds_node {c : Corp} {rk : Nat → Nat} (hc : HeadsOk c rk) (hn : c.toks.length ≤ 100) (hd : c.nodes.length ≤ 100) (name : ByteArray) (A B : ByteArray) (b e p q : Int) {u v : Nat} (hu : u < c.toks.length) (hv : v < c.toks.length) (tu : Bound A b e p q u) (tv : Bound B b e p q v) (hf : (inC c p && inC c q) = true) :
    callV prog 14 [.agg c.cells, .agg (gc 9 A B name ⟨#[]⟩ ⟨#[]⟩ 0 0 []), .list labs, .agg (mc b e p q)] = some (.bool (c.nodes.any (over name u v)), []) := by
  have h1 := sound_node A B name
  have h2 := gknown_spec c (op := 9) (by decide) (by decide) A B name ⟨#[]⟩ ⟨#[]⟩ 0 0 []
  have h3 := fits_spec c b e p q
  rw [hf] at h3
  have h4 := holds_node hc hn hd name A B b e p q hu hv tu tv
  generalize (c.nodes.any (over name u v)) = r at *
  refine callV_fn (body := ic14) rfl rfl ?_
  simp [gc, mc, Corp.cells] at h1 h2 h3 h4
  simp [ic14, gc, mc, Corp.cells, h1, h2, h3, h4]

theorem Holds_depth {c : Corp} {rk : Nat → Nat} (hc : HeadsOk c rk) (hn : c.toks.length ≤ 100) (mn mx : Int) (A : ByteArray) (b e p q : Int) {u : Nat} (hu : u < c.toks.length) (tu : Bound A b e p q u) (hf : (inC c p && inC c q) = true) :
    callV prog 14 [.agg c.cells, .agg (gc 10 A ⟨#[]⟩ ⟨#[]⟩ ⟨#[]⟩ ⟨#[]⟩ mn mx []), .list labs, .agg (mc b e p q)] = some (.bool (decide (mn ≤ (up c u).length) && decide (((up c u).length : Int) ≤ mx)), []) := by
  have h1 := sound_depth A mn mx
  have h2 := gknown_spec c (op := 10) (by decide) (by decide) A ⟨#[]⟩ ⟨#[]⟩ ⟨#[]⟩ ⟨#[]⟩ mn mx []
  have h3 := fits_spec c b e p q
  rw [hf] at h3
  have g1 := gup_spec hc hn hu
  have h4 : callV prog 32 [.agg c.cells, .agg (gc 10 A ⟨#[]⟩ ⟨#[]⟩ ⟨#[]⟩ ⟨#[]⟩ mn mx []), .list labs, .agg (mc b e p q)] = some (.bool (decide (mn ≤ (up c u).length) && decide (((up c u).length : Int) ≤ mx)), []) := by
    unfold Bound at tu
    have n1 : ¬ (u : Int) < 0 := by omega
    refine callV_fn (body := ic32) rfl rfl ?_
    simp [mc] at tu
    simp [Corp.cells] at g1
    cases h5 : decide (mn ≤ (up c u).length)
    · simp [ic32, gc, mc, Corp.cells, tu, n1, g1, h5]
    · simp [ic32, gc, mc, Corp.cells, tu, n1, g1, h5]
  generalize (decide (mn ≤ (up c u).length) && decide (((up c u).length : Int) ≤ mx)) = r at *
  refine callV_fn (body := ic14) rfl rfl ?_
  simp [gc, mc, Corp.cells] at h1 h2 h3 h4
  simp [ic14, gc, mc, Corp.cells, h1, h2, h3, h4]

end Go.Ab.Prog
