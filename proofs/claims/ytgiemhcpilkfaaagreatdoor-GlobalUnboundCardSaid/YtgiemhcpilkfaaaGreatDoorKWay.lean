/- The way up from a token, as plain lists. And what follows from it, part by part. -/
import Derived.Test.YtgiemhcpilkfaaaGreatDoorKConA

/- Part Way. -/
namespace Go.Ab.Prog
open Go Go.Ab
set_option linter.unusedSimpArgs false
set_option linter.unusedVariables false
set_option maxHeartbeats 4000000

/-- The way up from a token, itself first. -/
inductive Way (c : Corp) : Nat → List Nat → Prop
  | top {i : Nat} (hi : i < c.toks.length) (h : hd c i = -1) : Way c i [i]
  | step {i j : Nat} {w : List Nat} (hi : i < c.toks.length) (h : hd c i = (j : Int)) (hw : Way c j w) : Way c i (i :: w)

theorem HeadsOk.rk_lt {c : Corp} {rk : Nat → Nat} (h : HeadsOk c rk) {i : Nat} (hne : Prog.hd c i ≠ -1) : rk i < c.toks.length := by
  unfold Prog.hd at hne
  cases e : c.heads[i]? with
  | none => simp [e] at hne
  | some v => exact (h.rk i v e).1

theorem way_upF {c : Corp} {rk : Nat → Nat} (h : HeadsOk c rk) : ∀ (f i : Nat), i < c.toks.length → (hd c i = -1 ∨ rk i ≤ f) → Way c i (i :: upF c f (hd c i)) := by
  intro f
  induction f with
  | zero =>
    intro i hi hr
    rcases h.next hi with h1 | ⟨j, h1, h2, h3⟩
    · exact .top hi h1
    · rcases hr with h4 | h4
      · omega
      · omega
  | succ f ih =>
    intro i hi hr
    rcases h.next hi with h1 | ⟨j, h1, h2, h3⟩
    · rw [h1]
      simp [upF]
      exact .top hi h1
    · rw [h1]
      simp only [upF]
      rw [if_pos (by omega)]
      have e : ((j : Int)).toNat = j := by omega
      rw [e]
      refine .step hi h1 (ih j h2 ?_)
      rcases hr with h4 | h4
      · omega
      · right; omega

def way (c : Corp) (i : Nat) : List Nat := i :: up c i
theorem way_ok {c : Corp} {rk : Nat → Nat} (h : HeadsOk c rk) {i : Nat} (hi : i < c.toks.length) : Way c i (way c i) := by
  have e : up c i = upF c c.toks.length (hd c i) := by
    unfold up
    rw [if_pos (by simp [isTok]; omega)]
    rfl
  unfold way
  rw [e]
  refine way_upF h _ i hi ?_
  by_cases h1 : hd c i = -1
  · exact .inl h1
  · exact .inr (Nat.le_of_lt (h.rk_lt h1))

theorem Way.uniq {c : Corp} {i : Nat} {w w' : List Nat} (h : Way c i w) (h' : Way c i w') : w = w' := by
  induction h generalizing w' with
  | top hi h =>
    cases h' with
    | top _ _ => rfl
    | step _ h2 _ => omega
  | @step i j w hi h hw ih =>
    cases h' with
    | top _ h2 => omega
    | @step _ k w2 _ h2 hw2 =>
      have : j = k := by omega
      subst this
      rw [ih hw2]

theorem Way.head {c : Corp} {i : Nat} {w : List Nat} (h : Way c i w) : ∃ t, w = i :: t := by
  cases h with
  | top _ _ => exact ⟨[], rfl⟩
  | step _ _ _ => exact ⟨_, rfl⟩

theorem Way.tok {c : Corp} {i : Nat} {w : List Nat} (h : Way c i w) : ∀ x ∈ w, x < c.toks.length := by
  induction h with
  | top hi _ => intro x hx; rw [List.mem_singleton.1 hx]; exact hi
  | step hi _ _ ih =>
    intro x hx
    rcases List.mem_cons.1 hx with rfl | hx
    · exact hi
    · exact ih x hx

theorem Way.rank {c : Corp} {rk : Nat → Nat} (hh : HeadsOk c rk) {i : Nat} {w : List Nat} (h : Way c i w) : ∀ x ∈ w, x = i ∨ rk x < rk i := by
  induction h with
  | top hi _ => intro x hx; exact .inl (List.mem_singleton.1 hx)
  | step hi h hw ih =>
    rename_i i j w
    intro x hx
    rcases List.mem_cons.1 hx with rfl | hx
    · exact .inl rfl
    · rcases hh.next hi with h1 | ⟨k, h1, _, h3⟩
      · omega
      · have : k = j := by omega
        subst this
        rcases ih x hx with rfl | h4
        · exact .inr h3
        · exact .inr (by omega)

theorem Way.nodup {c : Corp} {rk : Nat → Nat} (hh : HeadsOk c rk) {i : Nat} {w : List Nat} (h : Way c i w) : w.Nodup := by
  induction h with
  | top hi _ => simp
  | step hi h hw ih =>
    rename_i i j w
    refine List.nodup_cons.2 ⟨fun hm => ?_, ih⟩
    rcases hh.next hi with h1 | ⟨k, h1, _, h3⟩
    · omega
    · have : k = j := by omega
      subst this
      rcases hw.rank hh i hm with rfl | h4
      · omega
      · omega

/-- What follows on the way from a token that lies on it is that token's way. -/
theorem Way.suffix {c : Corp} {i : Nat} {w : List Nat} (h : Way c i w) : ∀ {w1 w2 : List Nat} {x : Nat}, w = w1 ++ x :: w2 → Way c x (x :: w2) := by
  induction h with
  | top hi h =>
    intro w1 w2 x e
    cases w1 with
    | nil => simp at e; obtain ⟨rfl, rfl⟩ := e; exact .top hi h
    | cons y w1 => simp at e
  | step hi h hw ih =>
    rename_i i j w
    intro w1 w2 x e
    cases w1 with
    | nil => simp at e; obtain ⟨rfl, rfl⟩ := e; exact .step hi h hw
    | cons y w1 => simp at e; exact ih e.2

theorem Way.of_mem {c : Corp} {i : Nat} {w : List Nat} (h : Way c i w) {x : Nat} (hx : x ∈ w) : ∃ w1 w2, w = w1 ++ x :: w2 ∧ Way c x (x :: w2) := by
  obtain ⟨w1, w2, e⟩ := List.append_of_mem hx
  exact ⟨w1, w2, e, h.suffix e⟩

theorem Way.last {c : Corp} {i : Nat} {w : List Nat} (h : Way c i w) {x : Nat} {v : List Nat} (hx : x ∈ w) (hv : Way c x v) : w.getLast? = v.getLast? := by
  obtain ⟨w1, w2, e, h2⟩ := h.of_mem hx
  have := h2.uniq hv
  subst this
  rw [e, List.getLast?_append]
  cases h3 : (x :: w2).getLast? with
  | none => simp at h3
  | some y => rfl

/-- The first of a way that lies on another. -/
theorem Way.meet {c : Corp} {rk : Nat → Nat} (hh : HeadsOk c rk) {i j : Nat} {w v : List Nat} (hw : Way c i w) (hv : Way c j v) {m m' : Nat}
    (h1 : w.find? (fun x => decide (x ∈ v)) = some m) (h2 : v.find? (fun x => decide (x ∈ w)) = some m') : m = m' := by
  obtain ⟨a1, as, bs, e1, n1⟩ := List.find?_eq_some_iff_append.1 h1
  obtain ⟨a2, cs, ds, e2, n2⟩ := List.find?_eq_some_iff_append.1 h2
  simp at a1 a2 n1 n2
  have k1 := hw.suffix e1
  have k2 := hv.suffix e2
  have hm' : m' ∈ m :: bs := by
    have : m' ∈ as ++ m :: bs := e1 ▸ a2
    rcases List.mem_append.1 this with h | h
    · exact absurd (e2 ▸ (by simp : m' ∈ cs ++ m' :: ds)) (n1 m' h)
    · exact h
  have hm : m ∈ m' :: ds := by
    have : m ∈ cs ++ m' :: ds := e2 ▸ a1
    rcases List.mem_append.1 this with h | h
    · exact absurd (e1 ▸ (by simp : m ∈ as ++ m :: bs)) (n2 m h)
    · exact h
  rcases k1.rank hh m' hm' with h | h
  · exact h.symm
  · rcases k2.rank hh m hm with h3 | h3
    · exact h3
    · omega

end Go.Ab.Prog

/- Part RouteA. -/
namespace Go.Ab.Prog
open Go Go.Ab
set_option linter.unusedSimpArgs false
set_option linter.unusedVariables false
set_option maxHeartbeats 8000000

def relAt (c : Corp) (i : Nat) : ByteArray := c.rels[i]?.getD ⟨#[]⟩
def pre (c : Corp) (w : List Nat) (b : Int) : List ByteArray := (w.takeWhile (fun (i : Nat) => !decide ((i : Int) = b))).map (relAt c)
def rel (c : Corp) (a b : Int) : Bool := isTok c a && isTok c b && has (way c a.toNat) b
def route (c : Corp) (a b : Int) : List ByteArray := if rel c a b then pre c (way c a.toNat) b else []

theorem has_cons {x : Nat} {l : List Nat} {b : Int} : has (x :: l) b = (decide (b = (x : Int)) || has l b) := rfl
theorem way_len (c : Corp) (i : Nat) : (way c i).length ≤ c.toks.length + 1 := by
  have := up_len c (i : Int)
  simp [way]; omega

theorem route_loop {c : Corp} {w : List Nat} (hw : w.length ≤ 1000) {b : Int} : ∀ (m k : Nat) (out : List ByteArray), k + m = w.length → out.length ≤ k →
    evV prog ic22_0 ⟨tm [(2, I b), (3, .ptr 102 0), (8, .arr 100 out.length 0 out.length), (29, .list (w.map IN)), (30, I w.length), (31, I k)], hp [(100, some (.arr 1 (out.map .str) false)), (102, some (.box c.cells))]⟩
      = if has (w.drop k) b then some (.ret, ⟨tm [(6, .arr 100 (out ++ pre c (w.drop k) b).length 0 (out ++ pre c (w.drop k) b).length), (7, .bool true)], hp [(100, some (.arr 1 ((out ++ pre c (w.drop k) b).map .str) false))]⟩)
        else some (.exit 0, ⟨tm [], hp []⟩) := by
  intro m
  induction m with
  | zero =>
    intro k out hk ho
    have h1 : ¬ k < w.length := by omega
    have h2 : w.drop k = [] := List.drop_eq_nil_of_le (by omega)
    rw [ic22_0_eq, h2]
    simp [ic22_0_b, h1, Corp.cells, has]
  | succ m ih =>
    intro k out hk ho
    have hlt : k < w.length := by omega
    have m1 : (out.length + 1) * 16 ≤ room := by unfold room; omega
    have m2 : out.length + 1 ≤ room := by unfold room; omega
    have hwr : IntKind.i64.wrap ((k : Int) + 1) = k + 1 := wrap64 (by omega) (by omega)
    have hd : w.drop k = w[k] :: w.drop (k + 1) := List.drop_eq_getElem_cons hlt
    have hi := ih (k + 1) (out ++ [relAt c w[k]]) (by omega) (by simp; omega)
    rw [hd, has_cons]
    by_cases hx : (w[k] : Int) = b
    · have hx' : b = (w[k] : Int) := hx.symm
      subst hx'
      have hpre : pre c (w[k] :: w.drop (k + 1)) (w[k] : Int) = [] := by
        unfold pre
        rw [List.takeWhile_cons, if_neg (by simp)]; rfl
      rw [hpre]
      rw [ic22_0_eq]
      simp [ic22_0_b, hlt, Corp.cells]
    · have hx2 : ¬ b = (w[k] : Int) := fun e => hx e.symm
      have hpre : pre c (w[k] :: w.drop (k + 1)) b = relAt c w[k] :: pre c (w.drop (k + 1)) b := by
        unfold pre
        rw [List.takeWhile_cons, if_pos (by simp [hx])]; rfl
      rw [hpre]
      generalize hv : w[k] = v at *
      by_cases hr : v < c.rels.length
      · have e : relAt c v = c.rels[v] := by simp [relAt, hr]
        rw [e] at hi ⊢
        simp [Corp.cells] at hi
        rw [ic22_0_eq]
        simp [ic22_0_b, hlt, Corp.cells, hv, hx, hx2, hr, m1, m2, hwr]
        simpa [Nat.add_assoc, Nat.add_comm, Nat.add_left_comm] using hi
      · have e : relAt c v = ⟨#[]⟩ := by simp [relAt, hr]
        rw [e] at hi ⊢
        simp [Corp.cells] at hi
        rw [ic22_0_eq]
        simp [ic22_0_b, hlt, Corp.cells, hv, hx, hx2, hr, m1, m2, hwr]
        simpa [Nat.add_assoc, Nat.add_comm, Nat.add_left_comm] using hi

theorem route_spec (c : Corp) (hn : c.toks.length ≤ 100) (a b : Int) : callV prog 22 [.agg c.cells, I a, I b] = some (.tuple [.list ((route c a b).map .str), .bool (rel c a b)], []) := by
  refine callV_fn (body := ic22) rfl rfl ?_
  have t1 := token_spec c a
  have t2 := token_spec c b
  simp [Corp.cells] at t1 t2
  cases h1 : isTok c a
  · rw [h1] at t1
    simp [ic22, Corp.cells, route, rel, h1, t1]
  · rw [h1] at t1
    cases h2 : isTok c b
    · rw [h2] at t2
      simp [ic22, Corp.cells, route, rel, h1, h2, t1, t2]
    · rw [h2] at t2
      have b1 : 0 ≤ a ∧ a < c.toks.length := by simpa [isTok] using h1
      obtain ⟨i, rfl⟩ := Int.eq_ofNat_of_zero_le b1.1
      have hu := up_spec c hn i
      have hul := up_len c (i : Int)
      have m1 : 1 * 8 ≤ room := by unfold room; omega
      have m2 : 1 ≤ room := by unfold room; omega
      have m3 : (1 + (up c i).length) * 8 ≤ room := by unfold room; omega
      have m4 : 1 + (up c i).length ≤ room := by unfold room; omega
      have m5 : ((up c i).length + 1) * 8 ≤ room := by unfold room; omega
      have m6 : (up c i).length + 1 ≤ room := by unfold room; omega
      have hl := route_loop (c := c) (w := way c i) (b := b) (by simp [way]; omega) (way c i).length 0 [] (by omega) (by simp)
      have hcm : 1 + (up c i).length = (up c i).length + 1 := Nat.add_comm _ _
      have e : List.map IN (way c i) = IN i :: List.map IN (up c i) := rfl
      have e2 : (way c i).length = (up c i).length + 1 := rfl
      rw [e, e2] at hl
      simp [Corp.cells] at hu hl
      cases h3 : has (way c i) b
      · simp [h3] at hl
        simp [ic22, Corp.cells, route, rel, h1, h2, h3, t1, t2, hu, m1, m2, m5, m6, hcm, hl]
      · simp [h3] at hl
        simp [ic22, Corp.cells, route, rel, h1, h2, h3, t1, t2, hu, m1, m2, m5, m6, hcm, hl]

end Go.Ab.Prog

/- Part Kids. -/
namespace Go.Ab.Prog
open Go Go.Ab
set_option linter.unusedSimpArgs false
set_option linter.unusedVariables false
set_option maxHeartbeats 8000000

def ndAt (c : Corp) (k : Nat) : Nd := c.nodes[k]?.getD ⟨⟨#[]⟩, 0, 0, -5⟩
theorem ndAt_lt {c : Corp} {k : Nat} (h : k < c.nodes.length) : ndAt c k = c.nodes[k] := by simp [ndAt, h]
def kids (c : Corp) (i : Int) : List Nat := if -1 ≤ i ∧ i < c.nodes.length then (List.range c.nodes.length).filter (fun k => decide ((ndAt c k).p = i)) else []
def overs (c : Corp) (b e : Int) : List Nat := if 0 ≤ b ∧ b < e ∧ e ≤ c.toks.length then (List.range c.nodes.length).filter (fun k => decide ((ndAt c k).b ≤ b) && decide (e ≤ (ndAt c k).e)) else []
def lastOr (l : List Nat) : Int := match l.getLast? with
  | some x => x
  | none => -1
def common (c : Corp) (i j : Int) : Int := if isTok c i = true ∧ isTok c j = true then lastOr (overs c (if j < i then j else i) ((if i < j then j else i) + 1)) else -1
theorem kids_len (c : Corp) (i : Int) : (kids c i).length ≤ c.nodes.length := by
  unfold kids; split
  · exact filter_len
  · simp
theorem overs_len (c : Corp) (b e : Int) : (overs c b e).length ≤ c.nodes.length := by
  unfold overs; split
  · exact filter_len
  · simp

theorem overs28_loop (c : Corp) (hn : c.nodes.length ≤ 100) (b e : Int) : ∀ (m k : Nat) (out : List Nat), k + m = c.nodes.length → out = (List.range k).filter (fun k => decide ((ndAt c k).b ≤ b) && decide (e ≤ (ndAt c k).e)) →
    ∃ out' : List Nat, out' = (List.range c.nodes.length).filter (fun k => decide ((ndAt c k).b ≤ b) && decide (e ≤ (ndAt c k).e)) ∧
    evV prog ic41_0 ⟨tm [(3, .ptr 102 0), (5, .arr 100 out.length 0 out.length), (27, .list (c.nodes.map Nd.enc)), (28, I c.nodes.length), (29, I k)], hp [(100, some (.arr 1 (out.map IN) false)), (102, some (.box [I b, I e]))]⟩
      = some (.exit 0, ⟨tm [(5, .arr 100 out'.length 0 out'.length)], hp [(100, some (.arr 1 (out'.map IN) false))]⟩) := by
  intro m
  induction m with
  | zero =>
    intro k out hk ho
    have : k = c.nodes.length := by omega
    refine ⟨out, by rw [ho, this], ?_⟩
    have : ¬ k < c.nodes.length := by omega
    rw [ic41_0_eq]
    simp [ic41_0_b, this, Corp.cells]
  | succ m ih =>
    intro k out hk ho
    have hlt : k < c.nodes.length := by omega
    have hol : out.length ≤ k := by rw [ho]; exact filter_len
    have m1 : (out.length + 1) * 8 ≤ room := by unfold room; omega
    have m2 : out.length + 1 ≤ room := by unfold room; omega
    have hw : IntKind.i64.wrap ((k : Int) + 1) = k + 1 := wrap64 (by omega) (by omega)
    have hx := ndAt_lt hlt
    cases hp : decide ((ndAt c k).b ≤ b)
    · obtain ⟨out', h1, h2⟩ := ih (k + 1) out (by omega) (by rw [filter_succ, ← ho]; simp [hp])
      refine ⟨out', h1, ?_⟩
      rw [hx] at hp
      rw [ic41_0_eq]
      simp [ic41_0_b, hlt, hp, hw]
      simpa using h2
    · cases hq : decide (e ≤ (ndAt c k).e)
      · obtain ⟨out', h1, h2⟩ := ih (k + 1) out (by omega) (by rw [filter_succ, ← ho]; simp [hp, hq])
        refine ⟨out', h1, ?_⟩
        rw [hx] at hp hq
        rw [ic41_0_eq]
        simp [ic41_0_b, hlt, hp, hq, hw]
        simpa using h2
      · obtain ⟨out', h1, h2⟩ := ih (k + 1) (out ++ [k]) (by omega) (by rw [filter_succ, ← ho]; simp [hp, hq])
        refine ⟨out', h1, ?_⟩
        rw [hx] at hp hq
        rw [ic41_0_eq]
        simp [ic41_0_b, hlt, hp, hq, m1, m2, hw]
        simpa using h2

theorem overs28_spec (c : Corp) (hn : c.nodes.length ≤ 100) (b e : Int) : callV prog 41 [.agg c.cells, .agg [I b, I e]] = some (.list ((overs c b e).map IN), []) := by
  refine callV_fn (body := ic41) rfl rfl ?_
  by_cases h0 : b < 0
  · have h3 : ¬ (0 ≤ b ∧ b < e ∧ e ≤ c.toks.length) := by omega
    simp [ic41, Corp.cells, overs, h0, h3]
  · by_cases h1 : e ≤ b
    · have h3 : ¬ (0 ≤ b ∧ b < e ∧ e ≤ c.toks.length) := by omega
      simp [ic41, Corp.cells, overs, h0, h1, h3]
    · by_cases h2 : (c.toks.length : Int) < e
      · have h3 : ¬ (0 ≤ b ∧ b < e ∧ e ≤ c.toks.length) := by omega
        simp [ic41, Corp.cells, overs, h0, h1, h2, h3]
      · have h3 : (0 ≤ b ∧ b < e ∧ e ≤ c.toks.length) := by omega
        obtain ⟨out', k1, k2⟩ := overs28_loop c hn b e c.nodes.length 0 [] (by omega) (by simp)
        simp at k2
        simp [ic41, Corp.cells, overs, h0, h1, h2, k2]
        rw [if_pos h3, ← k1]

theorem common29_spec (c : Corp) (hn : c.nodes.length ≤ 100) (ht : c.toks.length ≤ 100) (i j : Int) : callV prog 23 [.agg c.cells, I i, I j] = some (I (common c i j), []) := by
  refine callV_fn (body := ic23) rfl rfl ?_
  have t1 := token_spec c i
  have t2 := token_spec c j
  simp [Corp.cells] at t1 t2
  cases h1 : isTok c i
  · rw [h1] at t1
    simp [ic23, Corp.cells, common, h1, t1]
  · rw [h1] at t1
    cases h2 : isTok c j
    · rw [h2] at t2
      simp [ic23, Corp.cells, common, h1, h2, t1, t2]
    · rw [h2] at t2
      have b1 : 0 ≤ i ∧ i < c.toks.length := by simpa [isTok] using h1
      have b2 : 0 ≤ j ∧ j < c.toks.length := by simpa [isTok] using h2
      have hw : IntKind.i64.wrap ((if i < j then j else i) + 1) = (if i < j then j else i) + 1 := wrap64 (by split <;> omega) (by split <;> omega)
      have ho := overs28_spec c hn (if j < i then j else i) ((if i < j then j else i) + 1)
      simp [Corp.cells] at ho
      have hc : common c i j = lastOr (overs c (if j < i then j else i) ((if i < j then j else i) + 1)) := by simp [common, h1, h2]
      have hlen := overs_len c (if j < i then j else i) ((if i < j then j else i) + 1)
      rw [hc]
      generalize overs c (if j < i then j else i) ((if i < j then j else i) + 1) = l at *
      rcases List.eq_nil_or_concat l with rfl | ⟨l', x, rfl⟩
      · simp [ic23, Corp.cells, t1, t2, hw, ho, lastOr]
      · simp at hlen
        have hw2 : IntKind.i64.wrap (l'.length : Int) = l'.length := wrap64 (by omega) (by omega)
        have hne : ¬ (l'.length : Int) + 1 = 0 := by omega
        simp at ho
        simp [ic23, Corp.cells, t1, t2, hw, ho, lastOr, hw2, hne]

end Go.Ab.Prog
