/- What the atoms of constraints come to. -/
import Derived.Test.YtgiemhcpilkfaaaGreatDoorKGlobB

namespace Go.Ab.Prog
open Go Go.Ab
set_option linter.unusedSimpArgs false
set_option linter.unusedVariables false
set_option maxHeartbeats 16000000

theorem gknown_spec (c : Corp) {op : Int} (h2 : ¬ op = 2) (h3 : ¬ op = 3) (a b name arg v : ByteArray) (mn mx : Int) (args : List ByteArray) : callV prog 30 [.agg c.cells, .agg (gc op a b name arg v mn mx args)] = some (.bool true, []) := by
  have hk := kids63 64 [] [.rptr c.cells]
  refine callV_fn (body := ic30) rfl rfl ?_
  simp [Corp.cells] at hk
  simp [ic30, gc, Corp.cells, h2, h3, hk]

abbrev bword : ByteArray := ⟨#[119, 111, 114, 100]⟩
abbrev btag : ByteArray := ⟨#[116, 97, 103]⟩
theorem attr_word : callV prog 61 [.list attrs, .str bword] = some (I 0, []) := callV_iff.2 ⟨20, by kernel_rfl⟩
theorem attr_tag : callV prog 61 [.list attrs, .str btag] = some (I 1, []) := callV_iff.2 ⟨20, by kernel_rfl⟩

theorem known_same {x y : ByteArray} {i j : Nat} (hx : callV prog 61 [.list attrs, .str x] = some (I i, [])) (hy : callV prog 61 [.list attrs, .str y] = some (I j, [])) (c : Corp) (a b : ByteArray) : callV prog 30 [.agg c.cells, .agg (gc 3 a b x y ⟨#[]⟩ 0 0 [])] = some (.bool true, []) := by
  have hk := kids63 64 [] [.rptr c.cells]
  have n1 : ¬ (i : Int) < 0 := by omega
  have n2 : ¬ (j : Int) < 0 := by omega
  refine callV_fn (body := ic30) rfl rfl ?_
  simp [Corp.cells] at hk
  simp [ic30, gc, Corp.cells, hk, hx, hy, n1, n2]

def valAt (c : Corp) (p k : Nat) : ByteArray := (c.toks[p]?.getD [])[k]?.getD ⟨#[]⟩
theorem value96_spec (c : Corp) {p : Nat} (hp : p < c.toks.length) (k : Nat) : callV prog 96 [.agg c.cells, I p, I k] = some (.str (valAt c p k), []) := by
  have h0 : ¬ (p : Int) < 0 := by omega
  have h1 : ¬ c.toks.length ≤ p := by omega
  have h2 : ¬ (k : Int) < 0 := by omega
  have e : c.toks[p]? = some c.toks[p] := List.getElem?_eq_getElem _
  refine callV_fn (body := ic96) rfl rfl ?_
  by_cases h3 : k < c.toks[p].length
  · have h4 : ¬ c.toks[p].length ≤ k := by omega
    have e2 : c.toks[p][k]? = some c.toks[p][k] := List.getElem?_eq_getElem _
    simp [ic96, Corp.cells, valAt, tokEnc, h0, h1, h2, h3, h4, e, e2, hp]
  · have h4 : c.toks[p].length ≤ k := by omega
    have e2 : c.toks[p][k]? = none := List.getElem?_eq_none h4
    simp [ic96, Corp.cells, valAt, tokEnc, h0, h1, h2, h3, h4, e, e2, hp]

theorem value71_spec {x : ByteArray} {k : Nat} (hx : callV prog 61 [.list attrs, .str x] = some (I k, [])) (c : Corp) {p : Nat} (hp : p < c.toks.length) : callV prog 71 [.agg c.cells, I p, .str x] = some (.str (valAt c p k), []) := by
  have hv := value96_spec c hp k
  refine callV_fn (body := ic71) rfl rfl ?_
  simp [Corp.cells] at hv
  simp [ic71, Corp.cells, hx, hv]

/-- The cells of a scene. -/
def sc (c : Corp) (g : List PV) (a b : Nat) : List PV := c.cells ++ g ++ [I a, I b]

def at_ (l : List Nat) (x : Int) : Nat := (l.takeWhile (fun (y : Nat) => !decide ((y : Int) = x))).length
theorem at_cons (y : Nat) (l : List Nat) (x : Int) : at_ (y :: l) x = if (y : Int) = x then 0 else at_ l x + 1 := by
  unfold at_
  rw [List.takeWhile_cons]
  by_cases h : (y : Int) = x <;> simp [h]
theorem at_lt {x : Int} : ∀ {l : List Nat}, has l x = true → at_ l x < l.length
  | [], h => by simp [has] at h
  | y :: l, h => by
    rw [at_cons]
    rw [has_cons] at h
    by_cases e : (y : Int) = x
    · simp [e]
    · have e' : ¬ x = (y : Int) := fun k => e k.symm
      have := at_lt (l := l) (x := x) (by simpa [e'] using h)
      rw [if_neg e]
      simp; omega
theorem idxe_loop (l : List Nat) (x : Int) (hl : l.length ≤ 1000) : ∀ (m i : Nat), i + m = l.length →
    evV prog ic110_0 ⟨tm [(0, .list (l.map IN)), (1, I x), (7, I l.length), (8, I i)], hp []⟩ = if has (l.drop i) x then some (.ret, ⟨tm [(4, I (i + at_ (l.drop i) x : Nat))], hp []⟩) else some (.exit 0, ⟨tm [], hp []⟩) := by
  intro m
  induction m with
  | zero =>
    intro i hi
    have h1 : ¬ i < l.length := by omega
    have h2 : l.drop i = [] := List.drop_eq_nil_of_le (by omega)
    rw [ic110_0_eq]
    simp [ic110_0_b, h1, h2, has]
  | succ m ih =>
    intro i hi
    have hlt : i < l.length := by omega
    have hw : IntKind.i64.wrap ((i : Int) + 1) = i + 1 := wrap64 (by omega) (by omega)
    have hi' := ih (i + 1) (by omega)
    rw [List.drop_eq_getElem_cons hlt, has_cons, at_cons, ic110_0_eq]
    by_cases hx : (l[i] : Int) = x
    · have hx' : x = (l[i] : Int) := hx.symm
      subst hx'
      simp [ic110_0_b, hlt]
    · have hx' : ¬ x = (l[i] : Int) := fun e => hx e.symm
      have e : i + 1 + at_ (l.drop (i + 1)) x = i + (at_ (l.drop (i + 1)) x + 1) := by omega
      rw [e] at hi'
      simp [ic110_0_b, hlt, hw, hx, hx']
      simpa using hi'

theorem idxe_spec (l : List Nat) (x : Int) (hl : l.length ≤ 1000) : callV prog 110 [.list (l.map IN), I x] = some (I (if has l x then (at_ l x : Int) else -1), []) := by
  refine callV_fn (body := ic110) rfl rfl ?_
  have h := idxe_loop l x hl l.length 0 (by omega)
  simp at h
  cases hb : has l x
  · simp [hb] at h
    simp [ic110, h]
  · simp [hb] at h
    simp [ic110, h]

theorem same128_loop (l : List ByteArray) (hl : l.length ≤ 1000) : ∀ (m i : Nat), i + m = l.length →
    evV prog ic128_0 ⟨tm [(0, .list (l.map .str)), (1, .list (l.map .str)), (12, I l.length), (13, I i)], hp []⟩ = some (.exit 0, ⟨tm [], hp []⟩) := by
  intro m
  induction m with
  | zero =>
    intro i hi
    have h1 : ¬ i < l.length := by omega
    rw [ic128_0_eq]
    simp [ic128_0_b, h1]
  | succ m ih =>
    intro i hi
    have hlt : i < l.length := by omega
    have hw : IntKind.i64.wrap ((i : Int) + 1) = i + 1 := wrap64 (by omega) (by omega)
    have hi' := ih (i + 1) (by omega)
    rw [ic128_0_eq]
    simp [ic128_0_b, hlt, hw]
    simpa using hi'
theorem same128_spec (l : List ByteArray) (hl : l.length ≤ 1000) : callV prog 128 [.list (l.map .str), .list (l.map .str)] = some (.bool true, []) := by
  refine callV_fn (body := ic128) rfl rfl ?_
  have h := same128_loop l hl l.length 0 (by omega)
  simp at h
  simp [ic128, h]

theorem pre_take (c : Corp) (i : Nat) : ∀ (w : List Nat) (j : Nat) (b : Int), has (j :: w) b = true → (ur c j w).take (at_ (j :: w) b) = pre c (j :: w) b
  | [], j, b, h => by
    have hx : b = (j : Int) := by simpa [has] using h
    subst hx
    simp [at_, pre]
  | k :: w, j, b, h => by
    rw [has_cons] at h
    by_cases hx : (j : Int) = b
    · subst hx
      simp [at_cons, pre]
    · have hx' : ¬ b = (j : Int) := fun e => hx e.symm
      have h' : has (k :: w) b = true := by simpa [hx'] using h
      have ih := pre_take c i w k b h'
      rw [at_cons, if_neg hx, ur_cons, List.take_succ_cons, ih]
      simp [pre, hx]

def over (name : ByteArray) (p q : Nat) (x : Nd) : Bool := x.label.toList == name.toList && (decide (x.b ≤ if q < p then (q : Int) else p) && decide ((if p < q then (q : Int) else p) < x.e))

theorem scene_same {c : Corp} {rk : Nat → Nat} (hc : HeadsOk c rk) (hn : c.toks.length ≤ 100) (hd : c.nodes.length ≤ 100) {x y : ByteArray} {i j : Nat} (hx : callV prog 61 [.list attrs, .str x] = some (I i, [])) (hy : callV prog 61 [.list attrs, .str y] = some (I j, [])) (A B : ByteArray) {u v : Nat} (hu : u < c.toks.length) (hv : v < c.toks.length) : callV prog 97 [.agg (sc c (gc 3 A B x y ⟨#[]⟩ 0 0 []) u v)] = some (.bool (((valAt c u i).toList == (valAt c v j).toList)), []) := by
  have v1 := value71_spec hx c hu
  have v2 := value71_spec hy c hv
  refine callV_fn (body := ic97) rfl rfl ?_
  simp [Corp.cells] at v1 v2
  simp [ic97, sc, gc, Corp.cells, v1, v2]

theorem scene_dist {c : Corp} {rk : Nat → Nat} (hc : HeadsOk c rk) (hn : c.toks.length ≤ 100) (hd : c.nodes.length ≤ 100) (mn mx : Int) (A B : ByteArray) {u v : Nat} (hu : u < c.toks.length) (hv : v < c.toks.length) : callV prog 98 [.agg (sc c (gc 4 A B ⟨#[]⟩ ⟨#[]⟩ ⟨#[]⟩ mn mx []) u v)] = some (.bool ((decide (mn ≤ (v : Int) - u) && decide ((v : Int) - u ≤ mx))), []) := by
  have hw : IntKind.i64.wrap ((v : Int) - u) = (v : Int) - u := wrap64 (by omega) (by omega)
  refine callV_fn (body := ic98) rfl rfl ?_
  cases h1 : decide (mn ≤ (v : Int) - u)
  · simp [ic98, sc, gc, Corp.cells, hw, h1]
  · simp [ic98, sc, gc, Corp.cells, hw, h1]

theorem scene_head {c : Corp} {rk : Nat → Nat} (hc : HeadsOk c rk) (hn : c.toks.length ≤ 100) (hd : c.nodes.length ≤ 100) (A B : ByteArray) {u v : Nat} (hu : u < c.toks.length) (hv : v < c.toks.length) : callV prog 100 [.agg (sc c (gc 6 A B ⟨#[]⟩ ⟨#[]⟩ ⟨#[]⟩ 0 0 []) u v)] = some (.bool ((match up c u with | [] => false | k :: _ => decide ((k : Int) = v))), []) := by
  have g1 := gup_spec hc hn hu
  refine callV_fn (body := ic100) rfl rfl ?_
  cases e : up c u with
  | nil =>
    rw [e] at g1
    simp [Corp.cells, ur_nil] at g1
    simp [ic100, sc, gc, Corp.cells, g1]
  | cons k w =>
    rw [e] at g1
    have hpos : (0 : Int) < (w.length : Int) + 1 := by omega
    simp [Corp.cells] at g1
    simp [ic100, sc, gc, Corp.cells, g1, hpos]

theorem scene_anc {c : Corp} {rk : Nat → Nat} (hc : HeadsOk c rk) (hn : c.toks.length ≤ 100) (hd : c.nodes.length ≤ 100) (A B : ByteArray) {u v : Nat} (hu : u < c.toks.length) (hv : v < c.toks.length) : callV prog 101 [.agg (sc c (gc 7 A B ⟨#[]⟩ ⟨#[]⟩ ⟨#[]⟩ 0 0 []) u v)] = some (.bool (has (up c u) v), []) := by
  have g1 := gup_spec hc hn hu
  have g2 := contains_spec (up c u) v (by have := up_len c (u : Int); omega)
  refine callV_fn (body := ic101) rfl rfl ?_
  simp [Corp.cells] at g1
  simp [ic101, sc, gc, Corp.cells, g1, g2]

theorem scene_path {c : Corp} {rk : Nat → Nat} (hc : HeadsOk c rk) (hn : c.toks.length ≤ 100) (hd : c.nodes.length ≤ 100) (ar : List ByteArray) (A B : ByteArray) {u v : Nat} (hu : u < c.toks.length) (hv : v < c.toks.length) (har : has (way c u) v = true → ar = pre c (way c u) v) : callV prog 102 [.agg (sc c (gc 8 A B ⟨#[]⟩ ⟨#[]⟩ ⟨#[]⟩ 0 0 ar) u v)] = some (.bool (has (way c u) v), []) := by
  have g1 := gup_spec hc hn hu
  have ul := up_len c (u : Int)
  have rl := ur_len c u (up c u)
  have g2 := idxe_spec (way c u) v (by have := way_len c u; omega)
  have m1 : 1 * 8 ≤ room := by unfold room; omega
  have m2 : 1 ≤ room := by unfold room; omega
  have m3 : (1 + (up c u).length) * 8 ≤ room := by unfold room; omega
  have m4 : 1 + (up c u).length ≤ room := by unfold room; omega
  have m5 : ((up c u).length + 1) * 8 ≤ room := by unfold room; omega
  have m6 : (up c u).length + 1 ≤ room := by unfold room; omega
  have e : List.map IN (way c u) = IN u :: List.map IN (up c u) := rfl
  rw [e] at g2
  refine callV_fn (body := ic102) rfl rfl ?_
  cases h3 : has (way c u) v
  · rw [h3] at g2
    simp at g2
    simp [Corp.cells] at g1
    simp [ic102, sc, gc, Corp.cells, g1, g2, m1, m2, m3, m4, m5, m6, Nat.add_comm 1]
  · have har' := har h3
    subst har'
    rw [h3] at g2
    have hat : at_ (way c u) v ≤ (ur c u (up c u)).length := by
      have := at_lt h3
      have : (way c u).length = (up c u).length + 1 := rfl
      omega
    have hpt := pre_take c u (up c u) u v h3
    have g3 := same128_spec (pre c (way c u) v) (by rw [← (show way c u = u :: up c u from rfl)] at hpt; rw [← hpt]; simp; omega)
    have hpt2 : (List.map PV.str (ur c u (up c u))).take (at_ (way c u) v) = (pre c (way c u) v).map .str := by
      rw [← List.map_take]; exact congrArg _ hpt
    have hsz : szs 1 (List.map PV.str (ur c u (up c u))) = true := szs_str
    rw [rl] at hat
    simp at g2
    simp [Corp.cells] at g1
    simp [ic102, sc, gc, Corp.cells, g1, g2, m1, m2, m3, m4, m5, m6, Nat.add_comm 1, hat, rl, hpt2, g3]

theorem scene_node {c : Corp} {rk : Nat → Nat} (hc : HeadsOk c rk) (hn : c.toks.length ≤ 100) (hd : c.nodes.length ≤ 100) (name : ByteArray) (A B : ByteArray) {u v : Nat} (hu : u < c.toks.length) (hv : v < c.toks.length) : callV prog 103 [.agg (sc c (gc 9 A B name ⟨#[]⟩ ⟨#[]⟩ 0 0 []) u v)] = some (.bool (c.nodes.any (over name u v)), []) := by
  have hP : ∀ z ∈ c.nodes, callV prog 130 [Nd.enc z, .rptr (sc c (gc 9 A B name ⟨#[]⟩ ⟨#[]⟩ 0 0 []) u v)] = some (.bool (over name u v z), []) := fun z _ => by
    refine callV_fn (body := ic130) rfl rfl ?_
    unfold over
    cases h1 : z.label.toList == name.toList
    · simp [ic130, sc, gc, Corp.cells, Nd.enc, h1]
    · cases h2 : decide (z.b ≤ if v < u then (v : Int) else u)
      · simp [ic130, sc, gc, Corp.cells, Nd.enc, h1, h2]
      · simp [ic130, sc, gc, Corp.cells, Nd.enc, h1, h2]
  have g1 := any129_spec c.nodes (sc c (gc 9 A B name ⟨#[]⟩ ⟨#[]⟩ 0 0 []) u v) (over name u v) (by omega) hP
  refine callV_fn (body := ic103) rfl rfl ?_
  simp [sc, gc, Corp.cells] at g1
  simp [ic103, sc, gc, Corp.cells, g1]

end Go.Ab.Prog
