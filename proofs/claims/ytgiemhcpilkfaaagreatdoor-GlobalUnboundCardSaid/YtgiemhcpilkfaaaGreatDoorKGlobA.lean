/- Constraints between two tokens are well formed. And what follows from it, part by part. -/
import Derived.Test.YtgiemhcpilkfaaaGreatDoorKSpec1
import Derived.Test.YtgiemhcpilkfaaaGreatDoorKWay
import Derived.KernelRfl

/- Part GlobA. -/
namespace Go.Ab.Prog
open Go Go.Ab
set_option linter.unusedSimpArgs false
set_option linter.unusedVariables false
set_option maxHeartbeats 8000000

/-- The cells of a constraint without kids. -/
def gc (op : Int) (a b name arg v : ByteArray) (mn mx : Int) (args : List ByteArray) : List PV :=
  [I op, .str a, .str b, .str name, .str arg, .str v, .bool false, I mn, I mx, .list (args.map .str), .list []]

theorem none_spec {op : Int} (h : ¬ op = 0) (a b name arg v : ByteArray) (mn mx : Int) (args : List ByteArray) : callV prog 57 [.agg (gc op a b name arg v mn mx args)] = some (.bool false, []) := by
  refine callV_fn (body := ic57) rfl rfl ?_
  simp [ic57, gc, h]

theorem measure_spec (op : Int) (a b name arg v : ByteArray) (mn mx : Int) (args : List ByteArray) : callV prog 58 [.agg (gc op a b name arg v mn mx args), I 0, I 1] = some (.tuple [I 1, I 1], []) := by
  refine callV_fn (body := ic58) rfl rfl ?_
  have hw : IntKind.i64.wrap 1 = 1 := by decide
  simp [ic58, gc, hw, ic58_0_eq, ic58_0_b]

theorem kids63 (f : Nat) (xs ys : List PV) : callV prog 63 [.list [], .clo f xs ys] = some (.bool false, []) := by
  have h91 : callV prog 91 [.list [], .clo f xs ys] = some (I (-1), []) := by
    refine callV_fn (body := ic91) rfl rfl ?_
    simp [ic91, ic91_0_eq, ic91_0_b]
  refine callV_fn (body := ic63) rfl rfl ?_
  simp [ic63, h91]

theorem atom_same (a b name arg : ByteArray) : callV prog 60 [.agg (gc 3 a b name arg ⟨#[]⟩ 0 0 [])] = some (.bool true, []) := by
  refine callV_fn (body := ic60) rfl rfl ?_
  simp [ic60, gc]

theorem sound_same (a b name arg : ByteArray) : callV prog 29 [.agg (gc 3 a b name arg ⟨#[]⟩ 0 0 [])] = some (.bool true, []) := by
  have h1 := none_spec (op := 3) (by decide) a b name arg ⟨#[]⟩ 0 0 []
  have h2 := measure_spec 3 a b name arg ⟨#[]⟩ 0 0 []
  have h3 := atom_same a b name arg
  have h4 : callV prog 59 [.agg (gc 3 a b name arg ⟨#[]⟩ 0 0 []), .fn 60] = some (.bool true, []) := by
    refine callV_fn (body := ic59) rfl rfl ?_
    have h5 := kids63
    simp [gc] at h3 h5
    simp [ic59, gc, h3, h5]
  refine callV_fn (body := ic29) rfl rfl ?_
  simp [gc] at h1 h2 h4
  simp [ic29, gc, h1, h2, h4]

theorem atom_dist (a b : ByteArray) (mn mx : Int) : callV prog 60 [.agg (gc 4 a b ⟨#[]⟩ ⟨#[]⟩ ⟨#[]⟩ mn mx [])] = some (.bool true, []) := by
  refine callV_fn (body := ic60) rfl rfl ?_
  simp [ic60, gc]

theorem sound_dist (a b : ByteArray) (mn mx : Int) : callV prog 29 [.agg (gc 4 a b ⟨#[]⟩ ⟨#[]⟩ ⟨#[]⟩ mn mx [])] = some (.bool true, []) := by
  have h1 := none_spec (op := 4) (by decide) a b ⟨#[]⟩ ⟨#[]⟩ ⟨#[]⟩ mn mx []
  have h2 := measure_spec 4 a b ⟨#[]⟩ ⟨#[]⟩ ⟨#[]⟩ mn mx []
  have h3 := atom_dist a b mn mx
  have h4 : callV prog 59 [.agg (gc 4 a b ⟨#[]⟩ ⟨#[]⟩ ⟨#[]⟩ mn mx []), .fn 60] = some (.bool true, []) := by
    refine callV_fn (body := ic59) rfl rfl ?_
    have h5 := kids63
    simp [gc] at h3 h5
    simp [ic59, gc, h3, h5]
  refine callV_fn (body := ic29) rfl rfl ?_
  simp [gc] at h1 h2 h4
  simp [ic29, gc, h1, h2, h4]

theorem atom_head (a b : ByteArray) : callV prog 60 [.agg (gc 6 a b ⟨#[]⟩ ⟨#[]⟩ ⟨#[]⟩ 0 0 [])] = some (.bool true, []) := by
  refine callV_fn (body := ic60) rfl rfl ?_
  simp [ic60, gc]

theorem sound_head (a b : ByteArray) : callV prog 29 [.agg (gc 6 a b ⟨#[]⟩ ⟨#[]⟩ ⟨#[]⟩ 0 0 [])] = some (.bool true, []) := by
  have h1 := none_spec (op := 6) (by decide) a b ⟨#[]⟩ ⟨#[]⟩ ⟨#[]⟩ 0 0 []
  have h2 := measure_spec 6 a b ⟨#[]⟩ ⟨#[]⟩ ⟨#[]⟩ 0 0 []
  have h3 := atom_head a b
  have h4 : callV prog 59 [.agg (gc 6 a b ⟨#[]⟩ ⟨#[]⟩ ⟨#[]⟩ 0 0 []), .fn 60] = some (.bool true, []) := by
    refine callV_fn (body := ic59) rfl rfl ?_
    have h5 := kids63
    simp [gc] at h3 h5
    simp [ic59, gc, h3, h5]
  refine callV_fn (body := ic29) rfl rfl ?_
  simp [gc] at h1 h2 h4
  simp [ic29, gc, h1, h2, h4]

theorem atom_anc (a b : ByteArray) : callV prog 60 [.agg (gc 7 a b ⟨#[]⟩ ⟨#[]⟩ ⟨#[]⟩ 0 0 [])] = some (.bool true, []) := by
  refine callV_fn (body := ic60) rfl rfl ?_
  simp [ic60, gc]

theorem sound_anc (a b : ByteArray) : callV prog 29 [.agg (gc 7 a b ⟨#[]⟩ ⟨#[]⟩ ⟨#[]⟩ 0 0 [])] = some (.bool true, []) := by
  have h1 := none_spec (op := 7) (by decide) a b ⟨#[]⟩ ⟨#[]⟩ ⟨#[]⟩ 0 0 []
  have h2 := measure_spec 7 a b ⟨#[]⟩ ⟨#[]⟩ ⟨#[]⟩ 0 0 []
  have h3 := atom_anc a b
  have h4 : callV prog 59 [.agg (gc 7 a b ⟨#[]⟩ ⟨#[]⟩ ⟨#[]⟩ 0 0 []), .fn 60] = some (.bool true, []) := by
    refine callV_fn (body := ic59) rfl rfl ?_
    have h5 := kids63
    simp [gc] at h3 h5
    simp [ic59, gc, h3, h5]
  refine callV_fn (body := ic29) rfl rfl ?_
  simp [gc] at h1 h2 h4
  simp [ic29, gc, h1, h2, h4]

theorem atom_path (a b : ByteArray) (args : List ByteArray) : callV prog 60 [.agg (gc 8 a b ⟨#[]⟩ ⟨#[]⟩ ⟨#[]⟩ 0 0 args)] = some (.bool true, []) := by
  refine callV_fn (body := ic60) rfl rfl ?_
  simp [ic60, gc]

theorem sound_path (a b : ByteArray) (args : List ByteArray) : callV prog 29 [.agg (gc 8 a b ⟨#[]⟩ ⟨#[]⟩ ⟨#[]⟩ 0 0 args)] = some (.bool true, []) := by
  have h1 := none_spec (op := 8) (by decide) a b ⟨#[]⟩ ⟨#[]⟩ ⟨#[]⟩ 0 0 args
  have h2 := measure_spec 8 a b ⟨#[]⟩ ⟨#[]⟩ ⟨#[]⟩ 0 0 args
  have h3 := atom_path a b args
  have h4 : callV prog 59 [.agg (gc 8 a b ⟨#[]⟩ ⟨#[]⟩ ⟨#[]⟩ 0 0 args), .fn 60] = some (.bool true, []) := by
    refine callV_fn (body := ic59) rfl rfl ?_
    have h5 := kids63
    simp [gc] at h3 h5
    simp [ic59, gc, h3, h5]
  refine callV_fn (body := ic29) rfl rfl ?_
  simp [gc] at h1 h2 h4
  simp [ic29, gc, h1, h2, h4]

theorem atom_node (a b name : ByteArray) : callV prog 60 [.agg (gc 9 a b name ⟨#[]⟩ ⟨#[]⟩ 0 0 [])] = some (.bool true, []) := by
  refine callV_fn (body := ic60) rfl rfl ?_
  simp [ic60, gc]

theorem sound_node (a b name : ByteArray) : callV prog 29 [.agg (gc 9 a b name ⟨#[]⟩ ⟨#[]⟩ 0 0 [])] = some (.bool true, []) := by
  have h1 := none_spec (op := 9) (by decide) a b name ⟨#[]⟩ ⟨#[]⟩ 0 0 []
  have h2 := measure_spec 9 a b name ⟨#[]⟩ ⟨#[]⟩ 0 0 []
  have h3 := atom_node a b name
  have h4 : callV prog 59 [.agg (gc 9 a b name ⟨#[]⟩ ⟨#[]⟩ 0 0 []), .fn 60] = some (.bool true, []) := by
    refine callV_fn (body := ic59) rfl rfl ?_
    have h5 := kids63
    simp [gc] at h3 h5
    simp [ic59, gc, h3, h5]
  refine callV_fn (body := ic29) rfl rfl ?_
  simp [gc] at h1 h2 h4
  simp [ic29, gc, h1, h2, h4]

theorem atom_depth (a : ByteArray) (mn mx : Int) : callV prog 60 [.agg (gc 10 a ⟨#[]⟩ ⟨#[]⟩ ⟨#[]⟩ ⟨#[]⟩ mn mx [])] = some (.bool true, []) := by
  refine callV_fn (body := ic60) rfl rfl ?_
  simp [ic60, gc]

theorem sound_depth (a : ByteArray) (mn mx : Int) : callV prog 29 [.agg (gc 10 a ⟨#[]⟩ ⟨#[]⟩ ⟨#[]⟩ ⟨#[]⟩ mn mx [])] = some (.bool true, []) := by
  have h1 := none_spec (op := 10) (by decide) a ⟨#[]⟩ ⟨#[]⟩ ⟨#[]⟩ ⟨#[]⟩ mn mx []
  have h2 := measure_spec 10 a ⟨#[]⟩ ⟨#[]⟩ ⟨#[]⟩ ⟨#[]⟩ mn mx []
  have h3 := atom_depth a mn mx
  have h4 : callV prog 59 [.agg (gc 10 a ⟨#[]⟩ ⟨#[]⟩ ⟨#[]⟩ ⟨#[]⟩ mn mx []), .fn 60] = some (.bool true, []) := by
    refine callV_fn (body := ic59) rfl rfl ?_
    have h5 := kids63
    simp [gc] at h3 h5
    simp [ic59, gc, h3, h5]
  refine callV_fn (body := ic29) rfl rfl ?_
  simp [gc] at h1 h2 h4
  simp [ic29, gc, h1, h2, h4]

end Go.Ab.Prog

/- Part GlobB. -/
namespace Go.Ab.Prog
open Go Go.Ab
set_option linter.unusedSimpArgs false
set_option linter.unusedVariables false
set_option maxHeartbeats 8000000

theorem find92_loop (l : List Int) (cs : List PV) (P : Int → Bool) (hl : l.length ≤ 1000) (hP : ∀ z ∈ l, callV prog 66 [I z, .rptr cs] = some (.bool (P z), [])) : ∀ (m i : Nat), i + m = l.length →
    ((l.drop i).any P = false ∧ evV prog ic92_0 ⟨tm [(0, .list (l.map I)), (1, .clo 66 [] [.rptr cs]), (7, I l.length), (8, I i)], hp []⟩ = some (.exit 0, ⟨tm [], hp []⟩)) ∨
    ((l.drop i).any P = true ∧ ∃ j : Nat, evV prog ic92_0 ⟨tm [(0, .list (l.map I)), (1, .clo 66 [] [.rptr cs]), (7, I l.length), (8, I i)], hp []⟩ = some (.ret, ⟨tm [(4, I j)], hp []⟩)) := by
  intro m
  induction m with
  | zero =>
    intro i hi
    have h1 : ¬ i < l.length := by omega
    have h2 : l.drop i = [] := List.drop_eq_nil_of_le (by omega)
    left
    refine ⟨by simp [h2], ?_⟩
    rw [ic92_0_eq]
    simp [ic92_0_b, h1]
  | succ m ih =>
    intro i hi
    have hlt : i < l.length := by omega
    have hw : IntKind.i64.wrap ((i : Int) + 1) = i + 1 := wrap64 (by omega) (by omega)
    have hd : (l.drop i).any P = (P l[i] || (l.drop (i + 1)).any P) := by rw [List.drop_eq_getElem_cons hlt]; rfl
    have hq := hP l[i] (List.getElem_mem hlt)
    skip
    cases hx : P l[i]
    · rw [hx] at hq hd
      have step : ∀ r, evV prog ic92_0 ⟨tm [(0, .list (l.map I)), (1, .clo 66 [] [.rptr cs]), (7, I l.length), (8, I (i + 1 : Nat))], hp []⟩ = r → evV prog ic92_0 ⟨tm [(0, .list (l.map I)), (1, .clo 66 [] [.rptr cs]), (7, I l.length), (8, I i)], hp []⟩ = r := fun r hr => by
        rw [ic92_0_eq]
        simp [ic92_0_b, hlt, hw, hq]
        simpa using hr
      rcases ih (i + 1) (by omega) with ⟨h1, h2⟩ | ⟨h1, j, h2⟩
      · left; exact ⟨by rw [hd]; simp [h1], step _ h2⟩
      · right; exact ⟨by rw [hd]; simp [h1], j, step _ h2⟩
    · rw [hx] at hq hd
      right
      refine ⟨by rw [hd]; simp, i, ?_⟩
      rw [ic92_0_eq]
      simp [ic92_0_b, hlt, hq]

theorem any65_spec (l : List Int) (cs : List PV) (P : Int → Bool) (hl : l.length ≤ 1000) (hP : ∀ z ∈ l, callV prog 66 [I z, .rptr cs] = some (.bool (P z), [])) :
    callV prog 65 [.list (l.map I), .clo 66 [] [.rptr cs]] = some (.bool (l.any P), []) := by
  have h92 : ∃ j : Int, callV prog 92 [.list (l.map I), .clo 66 [] [.rptr cs]] = some (I j, []) ∧ decide (0 ≤ j) = l.any P := by
    rcases find92_loop l cs P hl hP l.length 0 (by omega) with ⟨h1, h2⟩ | ⟨h1, j, h2⟩
    · refine ⟨-1, callV_fn (body := ic92) rfl rfl ?_, by simp only [List.drop_zero] at h1; simp [h1]⟩
      simp at h2
      simp [ic92, h2]
    · refine ⟨j, callV_fn (body := ic92) rfl rfl ?_, by simp only [List.drop_zero] at h1; simp [h1]⟩
      simp at h2
      simp [ic92, h2]
  obtain ⟨j, h1, h2⟩ := h92
  refine callV_fn (body := ic65) rfl rfl ?_
  rw [← h2]
  simp [ic65, h1]

theorem find157_loop (l : List Nd) (cs : List PV) (P : Nd → Bool) (hl : l.length ≤ 1000) (hP : ∀ z ∈ l, callV prog 130 [Nd.enc z, .rptr cs] = some (.bool (P z), [])) : ∀ (m i : Nat), i + m = l.length →
    ((l.drop i).any P = false ∧ evV prog ic157_0 ⟨tm [(0, .list (l.map Nd.enc)), (1, .clo 130 [] [.rptr cs]), (7, I l.length), (8, I i)], hp []⟩ = some (.exit 0, ⟨tm [], hp []⟩)) ∨
    ((l.drop i).any P = true ∧ ∃ j : Nat, evV prog ic157_0 ⟨tm [(0, .list (l.map Nd.enc)), (1, .clo 130 [] [.rptr cs]), (7, I l.length), (8, I i)], hp []⟩ = some (.ret, ⟨tm [(4, I j)], hp []⟩)) := by
  intro m
  induction m with
  | zero =>
    intro i hi
    have h1 : ¬ i < l.length := by omega
    have h2 : l.drop i = [] := List.drop_eq_nil_of_le (by omega)
    left
    refine ⟨by simp [h2], ?_⟩
    rw [ic157_0_eq]
    simp [ic157_0_b, h1]
  | succ m ih =>
    intro i hi
    have hlt : i < l.length := by omega
    have hw : IntKind.i64.wrap ((i : Int) + 1) = i + 1 := wrap64 (by omega) (by omega)
    have hd : (l.drop i).any P = (P l[i] || (l.drop (i + 1)).any P) := by rw [List.drop_eq_getElem_cons hlt]; rfl
    have hq := hP l[i] (List.getElem_mem hlt)
    simp only [Nd.enc] at hq
    cases hx : P l[i]
    · rw [hx] at hq hd
      have step : ∀ r, evV prog ic157_0 ⟨tm [(0, .list (l.map Nd.enc)), (1, .clo 130 [] [.rptr cs]), (7, I l.length), (8, I (i + 1 : Nat))], hp []⟩ = r → evV prog ic157_0 ⟨tm [(0, .list (l.map Nd.enc)), (1, .clo 130 [] [.rptr cs]), (7, I l.length), (8, I i)], hp []⟩ = r := fun r hr => by
        rw [ic157_0_eq]
        simp [ic157_0_b, hlt, hw, Nd.enc, hq]
        simpa using hr
      rcases ih (i + 1) (by omega) with ⟨h1, h2⟩ | ⟨h1, j, h2⟩
      · left; exact ⟨by rw [hd]; simp [h1], step _ h2⟩
      · right; exact ⟨by rw [hd]; simp [h1], j, step _ h2⟩
    · rw [hx] at hq hd
      right
      refine ⟨by rw [hd]; simp, i, ?_⟩
      rw [ic157_0_eq]
      simp [ic157_0_b, hlt, Nd.enc, hq]

theorem any129_spec (l : List Nd) (cs : List PV) (P : Nd → Bool) (hl : l.length ≤ 1000) (hP : ∀ z ∈ l, callV prog 130 [Nd.enc z, .rptr cs] = some (.bool (P z), [])) :
    callV prog 129 [.list (l.map Nd.enc), .clo 130 [] [.rptr cs]] = some (.bool (l.any P), []) := by
  have h157 : ∃ j : Int, callV prog 157 [.list (l.map Nd.enc), .clo 130 [] [.rptr cs]] = some (I j, []) ∧ decide (0 ≤ j) = l.any P := by
    rcases find157_loop l cs P hl hP l.length 0 (by omega) with ⟨h1, h2⟩ | ⟨h1, j, h2⟩
    · refine ⟨-1, callV_fn (body := ic157) rfl rfl ?_, by simp only [List.drop_zero] at h1; simp [h1]⟩
      simp at h2
      simp [ic157, h2]
    · refine ⟨j, callV_fn (body := ic157) rfl rfl ?_, by simp only [List.drop_zero] at h1; simp [h1]⟩
      simp at h2
      simp [ic157, h2]
  obtain ⟨j, h1, h2⟩ := h157
  refine callV_fn (body := ic129) rfl rfl ?_
  rw [← h2]
  simp [ic129, h1]

def inC (c : Corp) (t : Int) : Bool := decide (-1 ≤ t) && decide (t < c.toks.length)
theorem fits1_spec (c : Corp) (t : Int) : callV prog 66 [I t, .rptr c.cells] = some (.bool (!inC c t), []) := by
  refine callV_fn (body := ic66) rfl rfl ?_
  by_cases h1 : t < -1
  · have h2 : ¬ -1 ≤ t := by omega
    simp [ic66, inC, h1, h2]
  · have h2 : -1 ≤ t := by omega
    by_cases h3 : t < c.toks.length
    · have h4 : ¬ (c.toks.length : Int) ≤ t := by omega
      simp [ic66, inC, h1, h2, h3, h4, Corp.cells]
    · have h4 : (c.toks.length : Int) ≤ t := by omega
      simp [ic66, inC, h1, h2, h3, h4, Corp.cells]

abbrev sx : ByteArray := ⟨#[120]⟩
abbrev sy : ByteArray := ⟨#[121]⟩
abbrev labs : List PV := [.str sx, .str sy]
def mc (b e p q : Int) : List PV := [I b, I e, .list [I p, I q]]

theorem fits_spec (c : Corp) (b e p q : Int) : callV prog 31 [.agg c.cells, .list labs, .agg (mc b e p q)] = some (.bool (inC c p && inC c q), []) := by
  have h := any65_spec [p, q] c.cells (fun t => !inC c t) (by simp) (fun z _ => fits1_spec c z)
  simp [Corp.cells] at h
  refine callV_fn (body := ic31) rfl rfl ?_
  simp [ic31, mc, Corp.cells, h]

theorem idx_x : callV prog 93 [.list labs, .str sx] = some (I 0, []) := callV_iff.2 ⟨20, by kernel_rfl⟩
theorem idx_y : callV prog 93 [.list labs, .str sy] = some (I 1, []) := callV_iff.2 ⟨20, by kernel_rfl⟩
theorem token_x (b e p q : Int) : callV prog 69 [.list labs, .agg (mc b e p q), .str sx] = some (I p, []) := by
  have h := idx_x
  refine callV_fn (body := ic69) rfl rfl ?_
  simp [ic69, mc, h]
theorem token_y (b e p q : Int) : callV prog 69 [.list labs, .agg (mc b e p q), .str sy] = some (I q, []) := by
  have h := idx_y
  refine callV_fn (body := ic69) rfl rfl ?_
  simp [ic69, mc, h]

/-- The relations on the way up. -/
def ur (c : Corp) (i : Nat) (w : List Nat) : List ByteArray := ((i :: w).take w.length).map (relAt c)
theorem ur_nil (c : Corp) (i : Nat) : ur c i [] = [] := rfl
theorem ur_cons (c : Corp) (i j : Nat) (w : List Nat) : ur c i (j :: w) = relAt c i :: ur c j w := rfl
theorem ur_len (c : Corp) (i : Nat) (w : List Nat) : (ur c i w).length = w.length := by simp [ur]

theorem gup_loop {c : Corp} {rk : Nat → Nat} (hc : HeadsOk c rk) (hn : c.toks.length ≤ 100) : ∀ (f i : Nat) (out : List Nat) (ro : List ByteArray), i < c.toks.length → out.length + f = c.toks.length → ro.length = out.length →
    evV prog ic72_0 ⟨tm [(1, I i), (2, .ptr 102 0), (6, .arr 100 out.length 0 out.length), (7, .arr 101 ro.length 0 ro.length)], hp [(100, some (.arr 1 (out.map IN) false)), (101, some (.arr 1 (ro.map .str) false)), (102, some (.box c.cells))]⟩
      = some (.exit 0, ⟨tm [(6, .arr 100 (out ++ upF c f (hd c i)).length 0 (out ++ upF c f (hd c i)).length), (7, .arr 101 (ro ++ ur c i (upF c f (hd c i))).length 0 (ro ++ ur c i (upF c f (hd c i))).length)],
        hp [(100, some (.arr 1 ((out ++ upF c f (hd c i)).map IN) false)), (101, some (.arr 1 ((ro ++ ur c i (upF c f (hd c i))).map .str) false))]⟩) := by
  intro f
  induction f with
  | zero =>
    intro i out ro hi hl hr
    have h1 : ¬ out.length < c.toks.length := by omega
    rw [ic72_0_eq]
    rcases hc.len with ⟨e1, e2⟩ | ⟨e1, e2⟩
    · have h0 : ¬ (i : Int) < 0 := by omega
      simp [ic72_0_b, Corp.cells, upF, ur_nil, e1, e2, h1, h0]
    · have h2 : i < c.heads.length := by omega
      have h3 : i < c.rels.length := by omega
      simp [ic72_0_b, Corp.cells, upF, ur_nil, h1, h2, h3]
  | succ f ih =>
    intro i out ro hi hl hr
    rcases hc.len with ⟨e1, e2⟩ | ⟨e1, e2⟩
    · have hh : hd c i = -1 := by simp [Prog.hd, e1]
      rw [hh, ic72_0_eq]
      have h0 : ¬ (i : Int) < 0 := by omega
      simp [ic72_0_b, Corp.cells, upF, ur_nil, e1, e2, h0]
    · have h2 : i < c.heads.length := by omega
      have h3 : i < c.rels.length := by omega
      have h4 : out.length < c.toks.length := by omega
      have eg : c.heads[i]? = some c.heads[i] := List.getElem?_eq_getElem _
      have er : relAt c i = c.rels[i] := by simp [relAt, h3]
      rcases (hc.rk i _ eg).2 with h5 | ⟨j, h5, h6, h7⟩
      · have hh : hd c i = -1 := by simp [Prog.hd, eg, h5, isTok]
        rw [hh, ic72_0_eq]
        simp [ic72_0_b, Corp.cells, upF, ur_nil, h2, h3, h4, h5]
      · have hh : hd c i = j := by simp [Prog.hd, eg, h5, isTok, h6]
        have m1 : (out.length + 1) * 8 ≤ room := by unfold room; omega
        have m2 : out.length + 1 ≤ room := by unfold room; omega
        have m3 : (ro.length + 1) * 16 ≤ room := by unfold room; omega
        have m4 : ro.length + 1 ≤ room := by unfold room; omega
        have n1 : ¬ (c.toks.length : Int) ≤ j := by omega
        have n2 : ¬ c.toks.length ≤ j := by omega
        have n0 : ¬ (j : Int) < 0 := by omega
        have hi' := ih j (out ++ [j]) (ro ++ [c.rels[i]]) h6 (by simp; omega) (by simp; omega)
        have hu : upF c (f + 1) (j : Int) = j :: upF c f (hd c j) := by simp [upF]
        rw [hh, hu, ur_cons, er, ic72_0_eq]
        simp [Corp.cells] at hi'
        simp [ic72_0_b, Corp.cells, h2, h3, h4, h5, m1, m2, m3, m4, n0, n1, n2]
        simpa [Nat.add_assoc, Nat.add_comm, Nat.add_left_comm] using hi'

theorem up_nat (c : Corp) {i : Nat} (hi : i < c.toks.length) : up c i = upF c c.toks.length (hd c i) := by
  unfold up
  rw [if_pos (by simp [isTok]; omega)]
  rfl

theorem gup_spec {c : Corp} {rk : Nat → Nat} (hc : HeadsOk c rk) (hn : c.toks.length ≤ 100) {i : Nat} (hi : i < c.toks.length) :
    callV prog 72 [.agg c.cells, I i] = some (.tuple [.list ((up c i).map IN), .list ((ur c i (up c i)).map .str)], []) := by
  have hl := gup_loop hc hn c.toks.length i [] [] hi (by simp) rfl
  rw [← up_nat c hi] at hl
  refine callV_fn (body := ic72) rfl rfl ?_
  simp [Corp.cells] at hl
  simp [ic72, Corp.cells, hl]

end Go.Ab.Prog

/- Part GlobC. -/
namespace Go.Ab.Prog
open Go Go.Ab
set_option linter.unusedSimpArgs false
set_option linter.unusedVariables false
set_option maxHeartbeats 16000000

theorem gknown_spec (c : Corp) {op : Int} (h2 : ¬ op = 2) (h3 : ¬ op = 3) (a b name arg v : ByteArray) (mn mx : Int) (args : List ByteArray) : callV prog 30 [.agg c.cells, .agg (gc op a b name arg v mn mx args)] = some (.bool true, []) := by
  have hk := kids63 64 [] [.rptr c.cells]
  refine callV_fn (body := ic30) rfl rfl ?_
  simp [Corp.cells] at hk
  simp [ic30, gc, Corp.cells, h2, h3, hk]

abbrev bword : ByteArray := ⟨#[119, 111, 114, 100]⟩
abbrev btag : ByteArray := ⟨#[116, 97, 103]⟩
theorem attr_word : callV prog 61 [.list attrs, .str bword] = some (I 0, []) := callV_iff.2 ⟨20, by kernel_rfl⟩
theorem attr_tag : callV prog 61 [.list attrs, .str btag] = some (I 1, []) := callV_iff.2 ⟨20, by kernel_rfl⟩

theorem known_same {x y : ByteArray} {i j : Nat} (hx : callV prog 61 [.list attrs, .str x] = some (I i, [])) (hy : callV prog 61 [.list attrs, .str y] = some (I j, [])) (c : Corp) (a b : ByteArray) : callV prog 30 [.agg c.cells, .agg (gc 3 a b x y ⟨#[]⟩ 0 0 [])] = some (.bool true, []) := by
  have hk := kids63 64 [] [.rptr c.cells]
  have n1 : ¬ (i : Int) < 0 := by omega
  have n2 : ¬ (j : Int) < 0 := by omega
  refine callV_fn (body := ic30) rfl rfl ?_
  simp [Corp.cells] at hk
  simp [ic30, gc, Corp.cells, hk, hx, hy, n1, n2]

def valAt (c : Corp) (p k : Nat) : ByteArray := (c.toks[p]?.getD [])[k]?.getD ⟨#[]⟩
theorem value96_spec (c : Corp) {p : Nat} (hp : p < c.toks.length) (k : Nat) : callV prog 96 [.agg c.cells, I p, I k] = some (.str (valAt c p k), []) := by
  have h0 : ¬ (p : Int) < 0 := by omega
  have h1 : ¬ c.toks.length ≤ p := by omega
  have h2 : ¬ (k : Int) < 0 := by omega
  have e : c.toks[p]? = some c.toks[p] := List.getElem?_eq_getElem _
  refine callV_fn (body := ic96) rfl rfl ?_
  by_cases h3 : k < c.toks[p].length
  · have h4 : ¬ c.toks[p].length ≤ k := by omega
    have e2 : c.toks[p][k]? = some c.toks[p][k] := List.getElem?_eq_getElem _
    simp [ic96, Corp.cells, valAt, tokEnc, h0, h1, h2, h3, h4, e, e2, hp]
  · have h4 : c.toks[p].length ≤ k := by omega
    have e2 : c.toks[p][k]? = none := List.getElem?_eq_none h4
    simp [ic96, Corp.cells, valAt, tokEnc, h0, h1, h2, h3, h4, e, e2, hp]

theorem value71_spec {x : ByteArray} {k : Nat} (hx : callV prog 61 [.list attrs, .str x] = some (I k, [])) (c : Corp) {p : Nat} (hp : p < c.toks.length) : callV prog 71 [.agg c.cells, I p, .str x] = some (.str (valAt c p k), []) := by
  have hv := value96_spec c hp k
  refine callV_fn (body := ic71) rfl rfl ?_
  simp [Corp.cells] at hv
  simp [ic71, Corp.cells, hx, hv]

/-- The cells of a scene. -/
def sc (c : Corp) (g : List PV) (a b : Nat) : List PV := c.cells ++ g ++ [I a, I b]

def at_ (l : List Nat) (x : Int) : Nat := (l.takeWhile (fun (y : Nat) => !decide ((y : Int) = x))).length
theorem at_cons (y : Nat) (l : List Nat) (x : Int) : at_ (y :: l) x = if (y : Int) = x then 0 else at_ l x + 1 := by
  unfold at_
  rw [List.takeWhile_cons]
  by_cases h : (y : Int) = x <;> simp [h]
theorem at_lt {x : Int} : ∀ {l : List Nat}, has l x = true → at_ l x < l.length
  | [], h => by simp [has] at h
  | y :: l, h => by
    rw [at_cons]
    rw [has_cons] at h
    by_cases e : (y : Int) = x
    · simp [e]
    · have e' : ¬ x = (y : Int) := fun k => e k.symm
      have := at_lt (l := l) (x := x) (by simpa [e'] using h)
      rw [if_neg e]
      simp; omega
theorem idxe_loop (l : List Nat) (x : Int) (hl : l.length ≤ 1000) : ∀ (m i : Nat), i + m = l.length →
    evV prog ic110_0 ⟨tm [(0, .list (l.map IN)), (1, I x), (7, I l.length), (8, I i)], hp []⟩ = if has (l.drop i) x then some (.ret, ⟨tm [(4, I (i + at_ (l.drop i) x : Nat))], hp []⟩) else some (.exit 0, ⟨tm [], hp []⟩) := by
  intro m
  induction m with
  | zero =>
    intro i hi
    have h1 : ¬ i < l.length := by omega
    have h2 : l.drop i = [] := List.drop_eq_nil_of_le (by omega)
    rw [ic110_0_eq]
    simp [ic110_0_b, h1, h2, has]
  | succ m ih =>
    intro i hi
    have hlt : i < l.length := by omega
    have hw : IntKind.i64.wrap ((i : Int) + 1) = i + 1 := wrap64 (by omega) (by omega)
    have hi' := ih (i + 1) (by omega)
    rw [List.drop_eq_getElem_cons hlt, has_cons, at_cons, ic110_0_eq]
    by_cases hx : (l[i] : Int) = x
    · have hx' : x = (l[i] : Int) := hx.symm
      subst hx'
      simp [ic110_0_b, hlt]
    · have hx' : ¬ x = (l[i] : Int) := fun e => hx e.symm
      have e : i + 1 + at_ (l.drop (i + 1)) x = i + (at_ (l.drop (i + 1)) x + 1) := by omega
      rw [e] at hi'
      simp [ic110_0_b, hlt, hw, hx, hx']
      simpa using hi'

theorem idxe_spec (l : List Nat) (x : Int) (hl : l.length ≤ 1000) : callV prog 110 [.list (l.map IN), I x] = some (I (if has l x then (at_ l x : Int) else -1), []) := by
  refine callV_fn (body := ic110) rfl rfl ?_
  have h := idxe_loop l x hl l.length 0 (by omega)
  simp at h
  cases hb : has l x
  · simp [hb] at h
    simp [ic110, h]
  · simp [hb] at h
    simp [ic110, h]

theorem same128_loop (l : List ByteArray) (hl : l.length ≤ 1000) : ∀ (m i : Nat), i + m = l.length →
    evV prog ic128_0 ⟨tm [(0, .list (l.map .str)), (1, .list (l.map .str)), (12, I l.length), (13, I i)], hp []⟩ = some (.exit 0, ⟨tm [], hp []⟩) := by
  intro m
  induction m with
  | zero =>
    intro i hi
    have h1 : ¬ i < l.length := by omega
    rw [ic128_0_eq]
    simp [ic128_0_b, h1]
  | succ m ih =>
    intro i hi
    have hlt : i < l.length := by omega
    have hw : IntKind.i64.wrap ((i : Int) + 1) = i + 1 := wrap64 (by omega) (by omega)
    have hi' := ih (i + 1) (by omega)
    rw [ic128_0_eq]
    simp [ic128_0_b, hlt, hw]
    simpa using hi'
theorem same128_spec (l : List ByteArray) (hl : l.length ≤ 1000) : callV prog 128 [.list (l.map .str), .list (l.map .str)] = some (.bool true, []) := by
  refine callV_fn (body := ic128) rfl rfl ?_
  have h := same128_loop l hl l.length 0 (by omega)
  simp at h
  simp [ic128, h]

theorem pre_take (c : Corp) (i : Nat) : ∀ (w : List Nat) (j : Nat) (b : Int), has (j :: w) b = true → (ur c j w).take (at_ (j :: w) b) = pre c (j :: w) b
  | [], j, b, h => by
    have hx : b = (j : Int) := by simpa [has] using h
    subst hx
    simp [at_, pre]
  | k :: w, j, b, h => by
    rw [has_cons] at h
    by_cases hx : (j : Int) = b
    · subst hx
      simp [at_cons, pre]
    · have hx' : ¬ b = (j : Int) := fun e => hx e.symm
      have h' : has (k :: w) b = true := by simpa [hx'] using h
      have ih := pre_take c i w k b h'
      rw [at_cons, if_neg hx, ur_cons, List.take_succ_cons, ih]
      simp [pre, hx]

def over (name : ByteArray) (p q : Nat) (x : Nd) : Bool := x.label.toList == name.toList && (decide (x.b ≤ if q < p then (q : Int) else p) && decide ((if p < q then (q : Int) else p) < x.e))

theorem scene_same {c : Corp} {rk : Nat → Nat} (hc : HeadsOk c rk) (hn : c.toks.length ≤ 100) (hd : c.nodes.length ≤ 100) {x y : ByteArray} {i j : Nat} (hx : callV prog 61 [.list attrs, .str x] = some (I i, [])) (hy : callV prog 61 [.list attrs, .str y] = some (I j, [])) (A B : ByteArray) {u v : Nat} (hu : u < c.toks.length) (hv : v < c.toks.length) : callV prog 97 [.agg (sc c (gc 3 A B x y ⟨#[]⟩ 0 0 []) u v)] = some (.bool (((valAt c u i).toList == (valAt c v j).toList)), []) := by
  have v1 := value71_spec hx c hu
  have v2 := value71_spec hy c hv
  refine callV_fn (body := ic97) rfl rfl ?_
  simp [Corp.cells] at v1 v2
  simp [ic97, sc, gc, Corp.cells, v1, v2]

theorem scene_dist {c : Corp} {rk : Nat → Nat} (hc : HeadsOk c rk) (hn : c.toks.length ≤ 100) (hd : c.nodes.length ≤ 100) (mn mx : Int) (A B : ByteArray) {u v : Nat} (hu : u < c.toks.length) (hv : v < c.toks.length) : callV prog 98 [.agg (sc c (gc 4 A B ⟨#[]⟩ ⟨#[]⟩ ⟨#[]⟩ mn mx []) u v)] = some (.bool ((decide (mn ≤ (v : Int) - u) && decide ((v : Int) - u ≤ mx))), []) := by
  have hw : IntKind.i64.wrap ((v : Int) - u) = (v : Int) - u := wrap64 (by omega) (by omega)
  refine callV_fn (body := ic98) rfl rfl ?_
  cases h1 : decide (mn ≤ (v : Int) - u)
  · simp [ic98, sc, gc, Corp.cells, hw, h1]
  · simp [ic98, sc, gc, Corp.cells, hw, h1]

theorem scene_head {c : Corp} {rk : Nat → Nat} (hc : HeadsOk c rk) (hn : c.toks.length ≤ 100) (hd : c.nodes.length ≤ 100) (A B : ByteArray) {u v : Nat} (hu : u < c.toks.length) (hv : v < c.toks.length) : callV prog 100 [.agg (sc c (gc 6 A B ⟨#[]⟩ ⟨#[]⟩ ⟨#[]⟩ 0 0 []) u v)] = some (.bool ((match up c u with | [] => false | k :: _ => decide ((k : Int) = v))), []) := by
  have g1 := gup_spec hc hn hu
  refine callV_fn (body := ic100) rfl rfl ?_
  cases e : up c u with
  | nil =>
    rw [e] at g1
    simp [Corp.cells, ur_nil] at g1
    simp [ic100, sc, gc, Corp.cells, g1]
  | cons k w =>
    rw [e] at g1
    have hpos : (0 : Int) < (w.length : Int) + 1 := by omega
    simp [Corp.cells] at g1
    simp [ic100, sc, gc, Corp.cells, g1, hpos]

theorem scene_anc {c : Corp} {rk : Nat → Nat} (hc : HeadsOk c rk) (hn : c.toks.length ≤ 100) (hd : c.nodes.length ≤ 100) (A B : ByteArray) {u v : Nat} (hu : u < c.toks.length) (hv : v < c.toks.length) : callV prog 101 [.agg (sc c (gc 7 A B ⟨#[]⟩ ⟨#[]⟩ ⟨#[]⟩ 0 0 []) u v)] = some (.bool (has (up c u) v), []) := by
  have g1 := gup_spec hc hn hu
  have g2 := contains_spec (up c u) v (by have := up_len c (u : Int); omega)
  refine callV_fn (body := ic101) rfl rfl ?_
  simp [Corp.cells] at g1
  simp [ic101, sc, gc, Corp.cells, g1, g2]

theorem scene_path {c : Corp} {rk : Nat → Nat} (hc : HeadsOk c rk) (hn : c.toks.length ≤ 100) (hd : c.nodes.length ≤ 100) (ar : List ByteArray) (A B : ByteArray) {u v : Nat} (hu : u < c.toks.length) (hv : v < c.toks.length) (har : has (way c u) v = true → ar = pre c (way c u) v) : callV prog 102 [.agg (sc c (gc 8 A B ⟨#[]⟩ ⟨#[]⟩ ⟨#[]⟩ 0 0 ar) u v)] = some (.bool (has (way c u) v), []) := by
  have g1 := gup_spec hc hn hu
  have ul := up_len c (u : Int)
  have rl := ur_len c u (up c u)
  have g2 := idxe_spec (way c u) v (by have := way_len c u; omega)
  have m1 : 1 * 8 ≤ room := by unfold room; omega
  have m2 : 1 ≤ room := by unfold room; omega
  have m3 : (1 + (up c u).length) * 8 ≤ room := by unfold room; omega
  have m4 : 1 + (up c u).length ≤ room := by unfold room; omega
  have m5 : ((up c u).length + 1) * 8 ≤ room := by unfold room; omega
  have m6 : (up c u).length + 1 ≤ room := by unfold room; omega
  have e : List.map IN (way c u) = IN u :: List.map IN (up c u) := rfl
  rw [e] at g2
  refine callV_fn (body := ic102) rfl rfl ?_
  cases h3 : has (way c u) v
  · rw [h3] at g2
    simp at g2
    simp [Corp.cells] at g1
    simp [ic102, sc, gc, Corp.cells, g1, g2, m1, m2, m3, m4, m5, m6, Nat.add_comm 1]
  · have har' := har h3
    subst har'
    rw [h3] at g2
    have hat : at_ (way c u) v ≤ (ur c u (up c u)).length := by
      have := at_lt h3
      have : (way c u).length = (up c u).length + 1 := rfl
      omega
    have hpt := pre_take c u (up c u) u v h3
    have g3 := same128_spec (pre c (way c u) v) (by rw [← (show way c u = u :: up c u from rfl)] at hpt; rw [← hpt]; simp; omega)
    have hpt2 : (List.map PV.str (ur c u (up c u))).take (at_ (way c u) v) = (pre c (way c u) v).map .str := by
      rw [← List.map_take]; exact congrArg _ hpt
    have hsz : szs 1 (List.map PV.str (ur c u (up c u))) = true := szs_str
    rw [rl] at hat
    simp at g2
    simp [Corp.cells] at g1
    simp [ic102, sc, gc, Corp.cells, g1, g2, m1, m2, m3, m4, m5, m6, Nat.add_comm 1, hat, rl, hpt2, g3]

theorem scene_node {c : Corp} {rk : Nat → Nat} (hc : HeadsOk c rk) (hn : c.toks.length ≤ 100) (hd : c.nodes.length ≤ 100) (name : ByteArray) (A B : ByteArray) {u v : Nat} (hu : u < c.toks.length) (hv : v < c.toks.length) : callV prog 103 [.agg (sc c (gc 9 A B name ⟨#[]⟩ ⟨#[]⟩ 0 0 []) u v)] = some (.bool (c.nodes.any (over name u v)), []) := by
  have hP : ∀ z ∈ c.nodes, callV prog 130 [Nd.enc z, .rptr (sc c (gc 9 A B name ⟨#[]⟩ ⟨#[]⟩ 0 0 []) u v)] = some (.bool (over name u v z), []) := fun z _ => by
    refine callV_fn (body := ic130) rfl rfl ?_
    unfold over
    cases h1 : z.label.toList == name.toList
    · simp [ic130, sc, gc, Corp.cells, Nd.enc, h1]
    · cases h2 : decide (z.b ≤ if v < u then (v : Int) else u)
      · simp [ic130, sc, gc, Corp.cells, Nd.enc, h1, h2]
      · simp [ic130, sc, gc, Corp.cells, Nd.enc, h1, h2]
  have g1 := any129_spec c.nodes (sc c (gc 9 A B name ⟨#[]⟩ ⟨#[]⟩ 0 0 []) u v) (over name u v) (by omega) hP
  refine callV_fn (body := ic103) rfl rfl ?_
  simp [sc, gc, Corp.cells] at g1
  simp [ic103, sc, gc, Corp.cells, g1]

end Go.Ab.Prog

/- Part GlobD. -/
namespace Go.Ab.Prog
open Go Go.Ab
set_option linter.unusedSimpArgs false
set_option linter.unusedVariables false
set_option maxHeartbeats 16000000

/-- Is the second the head of the first? -/
def isHead (c : Corp) (u v : Nat) : Bool := match up c u with
  | [] => false
  | k :: _ => decide ((k : Int) = v)

/-- A label of a match is bound to a number. -/
def Bound (A : ByteArray) (b e p q u : Int) : Prop := callV prog 69 [.list labs, .agg (mc b e p q), .str A] = some (I u, [])

theorem related_same {c : Corp} {rk : Nat → Nat} (hc : HeadsOk c rk) (hn : c.toks.length ≤ 100) (hd : c.nodes.length ≤ 100) {x y : ByteArray} {i j : Nat} (hx : callV prog 61 [.list attrs, .str x] = some (I i, [])) (hy : callV prog 61 [.list attrs, .str y] = some (I j, [])) (A B : ByteArray) {u v : Nat} (hu : u < c.toks.length) (hv : v < c.toks.length) : callV prog 73 [.agg (sc c (gc 3 A B x y ⟨#[]⟩ 0 0 []) u v)] = some (.bool (((valAt c u i).toList == (valAt c v j).toList)), []) := by
  have h : callV prog 97 [.agg (sc c (gc 3 A B x y ⟨#[]⟩ 0 0 []) u v)] = some (.bool (((valAt c u i).toList == (valAt c v j).toList)), []) := scene_same hc hn hd hx hy A B hu hv
  generalize (((valAt c u i).toList == (valAt c v j).toList)) = r at *
  refine callV_fn (body := ic73) rfl rfl ?_
  simp [sc, gc, Corp.cells] at h
  simp [ic73, sc, gc, Corp.cells, h]

theorem holds_same {c : Corp} {rk : Nat → Nat} (hc : HeadsOk c rk) (hn : c.toks.length ≤ 100) (hd : c.nodes.length ≤ 100) {x y : ByteArray} {i j : Nat} (hx : callV prog 61 [.list attrs, .str x] = some (I i, [])) (hy : callV prog 61 [.list attrs, .str y] = some (I j, [])) (A B : ByteArray) (b e p q : Int) {u v : Nat} (hu : u < c.toks.length) (hv : v < c.toks.length) (tu : Bound A b e p q u) (tv : Bound B b e p q v) :
    callV prog 32 [.agg c.cells, .agg (gc 3 A B x y ⟨#[]⟩ 0 0 []), .list labs, .agg (mc b e p q)] = some (.bool (((valAt c u i).toList == (valAt c v j).toList)), []) := by
  have h := related_same hc hn hd hx hy A B hu hv
  generalize (((valAt c u i).toList == (valAt c v j).toList)) = r at *
  unfold Bound at tu tv
  have n1 : ¬ (u : Int) < 0 := by omega
  have n2 : ¬ (v : Int) < 0 := by omega
  have n3 : 0 ≤ (v : Int) := by omega
  refine callV_fn (body := ic32) rfl rfl ?_
  simp [sc, gc, Corp.cells] at h
  simp [mc] at tu tv
  simp [ic32, sc, gc, mc, Corp.cells, tu, tv, h, n1, n2, n3]

theorem holds1_same (c : Corp) (A B : ByteArray) (x y : ByteArray) (b e p q : Int) {k : Int} (tu : Bound A b e p q k) (hk : k < 0) :
    callV prog 32 [.agg c.cells, .agg (gc 3 A B x y ⟨#[]⟩ 0 0 []), .list labs, .agg (mc b e p q)] = some (.bool false, []) := by
  unfold Bound at tu
  refine callV_fn (body := ic32) rfl rfl ?_
  simp [mc] at tu
  simp [ic32, gc, mc, Corp.cells, tu, hk]

theorem holds2_same (c : Corp) (A B : ByteArray) (x y : ByteArray) (b e p q : Int) {u : Nat} {k : Int} (tu : Bound A b e p q u) (tv : Bound B b e p q k) (hk : k < 0) :
    callV prog 32 [.agg c.cells, .agg (gc 3 A B x y ⟨#[]⟩ 0 0 []), .list labs, .agg (mc b e p q)] = some (.bool false, []) := by
  unfold Bound at tu tv
  have n1 : ¬ (u : Int) < 0 := by omega
  have n3 : ¬ 0 ≤ k := by omega
  refine callV_fn (body := ic32) rfl rfl ?_
  simp [mc] at tu tv
  simp [ic32, gc, mc, Corp.cells, tu, tv, hk, n1, n3]

theorem Holds_same {c : Corp} {rk : Nat → Nat} (hc : HeadsOk c rk) (hn : c.toks.length ≤ 100) (hd : c.nodes.length ≤ 100) {x y : ByteArray} {i j : Nat} (hx : callV prog 61 [.list attrs, .str x] = some (I i, [])) (hy : callV prog 61 [.list attrs, .str y] = some (I j, [])) (A B : ByteArray) (b e p q : Int) {u v : Nat} (hu : u < c.toks.length) (hv : v < c.toks.length) (tu : Bound A b e p q u) (tv : Bound B b e p q v) (hf : (inC c p && inC c q) = true) :
    callV prog 14 [.agg c.cells, .agg (gc 3 A B x y ⟨#[]⟩ 0 0 []), .list labs, .agg (mc b e p q)] = some (.bool (((valAt c u i).toList == (valAt c v j).toList)), []) := by
  have h1 := sound_same A B x y
  have h2 := known_same hx hy c A B
  have h3 := fits_spec c b e p q
  rw [hf] at h3
  have h4 := holds_same hc hn hd hx hy A B b e p q hu hv tu tv
  generalize (((valAt c u i).toList == (valAt c v j).toList)) = r at *
  refine callV_fn (body := ic14) rfl rfl ?_
  simp [gc, mc, Corp.cells] at h1 h2 h3 h4
  simp [ic14, gc, mc, Corp.cells, h1, h2, h3, h4]

theorem HoldsN_same {c : Corp} {rk : Nat → Nat} (hc : HeadsOk c rk) (hn : c.toks.length ≤ 100) (hd : c.nodes.length ≤ 100) {x y : ByteArray} {i j : Nat} (hx : callV prog 61 [.list attrs, .str x] = some (I i, [])) (hy : callV prog 61 [.list attrs, .str y] = some (I j, [])) (A B : ByteArray) (b e p q : Int) {k l : Int} (tu : Bound A b e p q k) (tv : Bound B b e p q l) (hkl : (inC c p && inC c q) = false ∨ k < 0 ∨ l < 0) :
    callV prog 14 [.agg c.cells, .agg (gc 3 A B x y ⟨#[]⟩ 0 0 []), .list labs, .agg (mc b e p q)] = some (.bool false, []) := by
  have h1 := sound_same A B x y
  have h2 := known_same hx hy c A B
  have h3 := fits_spec c b e p q
  cases hf : (inC c p && inC c q)
  · rw [hf] at h3
    refine callV_fn (body := ic14) rfl rfl ?_
    simp [gc, mc, Corp.cells] at h1 h2 h3
    simp [ic14, gc, mc, Corp.cells, h1, h2, h3]
  · rw [hf] at h3 hkl
    have h4 : callV prog 32 [.agg c.cells, .agg (gc 3 A B x y ⟨#[]⟩ 0 0 []), .list labs, .agg (mc b e p q)] = some (.bool false, []) := by
      by_cases hk : k < 0
      · exact holds1_same c A B x y b e p q tu hk
      · obtain ⟨n, rfl⟩ := Int.eq_ofNat_of_zero_le (show 0 ≤ k by omega)
        exact holds2_same c A B x y b e p q tu tv (by simpa [hk] using hkl)
    refine callV_fn (body := ic14) rfl rfl ?_
    simp [gc, mc, Corp.cells] at h1 h2 h3 h4
    simp [ic14, gc, mc, Corp.cells, h1, h2, h3, h4]

theorem related_dist {c : Corp} {rk : Nat → Nat} (hc : HeadsOk c rk) (hn : c.toks.length ≤ 100) (hd : c.nodes.length ≤ 100) (mn mx : Int) (A B : ByteArray) {u v : Nat} (hu : u < c.toks.length) (hv : v < c.toks.length) : callV prog 73 [.agg (sc c (gc 4 A B ⟨#[]⟩ ⟨#[]⟩ ⟨#[]⟩ mn mx []) u v)] = some (.bool ((decide (mn ≤ (v : Int) - u) && decide ((v : Int) - u ≤ mx))), []) := by
  have h : callV prog 98 [.agg (sc c (gc 4 A B ⟨#[]⟩ ⟨#[]⟩ ⟨#[]⟩ mn mx []) u v)] = some (.bool ((decide (mn ≤ (v : Int) - u) && decide ((v : Int) - u ≤ mx))), []) := scene_dist hc hn hd mn mx A B hu hv
  generalize ((decide (mn ≤ (v : Int) - u) && decide ((v : Int) - u ≤ mx))) = r at *
  refine callV_fn (body := ic73) rfl rfl ?_
  simp [sc, gc, Corp.cells] at h
  simp [ic73, sc, gc, Corp.cells, h]

theorem holds_dist {c : Corp} {rk : Nat → Nat} (hc : HeadsOk c rk) (hn : c.toks.length ≤ 100) (hd : c.nodes.length ≤ 100) (mn mx : Int) (A B : ByteArray) (b e p q : Int) {u v : Nat} (hu : u < c.toks.length) (hv : v < c.toks.length) (tu : Bound A b e p q u) (tv : Bound B b e p q v) :
    callV prog 32 [.agg c.cells, .agg (gc 4 A B ⟨#[]⟩ ⟨#[]⟩ ⟨#[]⟩ mn mx []), .list labs, .agg (mc b e p q)] = some (.bool ((decide (mn ≤ (v : Int) - u) && decide ((v : Int) - u ≤ mx))), []) := by
  have h := related_dist hc hn hd mn mx A B hu hv
  generalize ((decide (mn ≤ (v : Int) - u) && decide ((v : Int) - u ≤ mx))) = r at *
  unfold Bound at tu tv
  have n1 : ¬ (u : Int) < 0 := by omega
  have n2 : ¬ (v : Int) < 0 := by omega
  have n3 : 0 ≤ (v : Int) := by omega
  refine callV_fn (body := ic32) rfl rfl ?_
  simp [sc, gc, Corp.cells] at h
  simp [mc] at tu tv
  simp [ic32, sc, gc, mc, Corp.cells, tu, tv, h, n1, n2, n3]

theorem holds1_dist (c : Corp) (A B : ByteArray) (mn mx : Int) (b e p q : Int) {k : Int} (tu : Bound A b e p q k) (hk : k < 0) :
    callV prog 32 [.agg c.cells, .agg (gc 4 A B ⟨#[]⟩ ⟨#[]⟩ ⟨#[]⟩ mn mx []), .list labs, .agg (mc b e p q)] = some (.bool false, []) := by
  unfold Bound at tu
  refine callV_fn (body := ic32) rfl rfl ?_
  simp [mc] at tu
  simp [ic32, gc, mc, Corp.cells, tu, hk]

theorem holds2_dist (c : Corp) (A B : ByteArray) (mn mx : Int) (b e p q : Int) {u : Nat} {k : Int} (tu : Bound A b e p q u) (tv : Bound B b e p q k) (hk : k < 0) :
    callV prog 32 [.agg c.cells, .agg (gc 4 A B ⟨#[]⟩ ⟨#[]⟩ ⟨#[]⟩ mn mx []), .list labs, .agg (mc b e p q)] = some (.bool false, []) := by
  unfold Bound at tu tv
  have n1 : ¬ (u : Int) < 0 := by omega
  have n3 : ¬ 0 ≤ k := by omega
  refine callV_fn (body := ic32) rfl rfl ?_
  simp [mc] at tu tv
  simp [ic32, gc, mc, Corp.cells, tu, tv, hk, n1, n3]

theorem Holds_dist {c : Corp} {rk : Nat → Nat} (hc : HeadsOk c rk) (hn : c.toks.length ≤ 100) (hd : c.nodes.length ≤ 100) (mn mx : Int) (A B : ByteArray) (b e p q : Int) {u v : Nat} (hu : u < c.toks.length) (hv : v < c.toks.length) (tu : Bound A b e p q u) (tv : Bound B b e p q v) (hf : (inC c p && inC c q) = true) :
    callV prog 14 [.agg c.cells, .agg (gc 4 A B ⟨#[]⟩ ⟨#[]⟩ ⟨#[]⟩ mn mx []), .list labs, .agg (mc b e p q)] = some (.bool ((decide (mn ≤ (v : Int) - u) && decide ((v : Int) - u ≤ mx))), []) := by
  have h1 := sound_dist A B mn mx
  have h2 := gknown_spec c (op := 4) (by decide) (by decide) A B ⟨#[]⟩ ⟨#[]⟩ ⟨#[]⟩ mn mx []
  have h3 := fits_spec c b e p q
  rw [hf] at h3
  have h4 := holds_dist hc hn hd mn mx A B b e p q hu hv tu tv
  generalize ((decide (mn ≤ (v : Int) - u) && decide ((v : Int) - u ≤ mx))) = r at *
  refine callV_fn (body := ic14) rfl rfl ?_
  simp [gc, mc, Corp.cells] at h1 h2 h3 h4
  simp [ic14, gc, mc, Corp.cells, h1, h2, h3, h4]

theorem HoldsN_dist {c : Corp} {rk : Nat → Nat} (hc : HeadsOk c rk) (hn : c.toks.length ≤ 100) (hd : c.nodes.length ≤ 100) (mn mx : Int) (A B : ByteArray) (b e p q : Int) {k l : Int} (tu : Bound A b e p q k) (tv : Bound B b e p q l) (hkl : (inC c p && inC c q) = false ∨ k < 0 ∨ l < 0) :
    callV prog 14 [.agg c.cells, .agg (gc 4 A B ⟨#[]⟩ ⟨#[]⟩ ⟨#[]⟩ mn mx []), .list labs, .agg (mc b e p q)] = some (.bool false, []) := by
  have h1 := sound_dist A B mn mx
  have h2 := gknown_spec c (op := 4) (by decide) (by decide) A B ⟨#[]⟩ ⟨#[]⟩ ⟨#[]⟩ mn mx []
  have h3 := fits_spec c b e p q
  cases hf : (inC c p && inC c q)
  · rw [hf] at h3
    refine callV_fn (body := ic14) rfl rfl ?_
    simp [gc, mc, Corp.cells] at h1 h2 h3
    simp [ic14, gc, mc, Corp.cells, h1, h2, h3]
  · rw [hf] at h3 hkl
    have h4 : callV prog 32 [.agg c.cells, .agg (gc 4 A B ⟨#[]⟩ ⟨#[]⟩ ⟨#[]⟩ mn mx []), .list labs, .agg (mc b e p q)] = some (.bool false, []) := by
      by_cases hk : k < 0
      · exact holds1_dist c A B mn mx b e p q tu hk
      · obtain ⟨n, rfl⟩ := Int.eq_ofNat_of_zero_le (show 0 ≤ k by omega)
        exact holds2_dist c A B mn mx b e p q tu tv (by simpa [hk] using hkl)
    refine callV_fn (body := ic14) rfl rfl ?_
    simp [gc, mc, Corp.cells] at h1 h2 h3 h4
    simp [ic14, gc, mc, Corp.cells, h1, h2, h3, h4]

theorem related_head {c : Corp} {rk : Nat → Nat} (hc : HeadsOk c rk) (hn : c.toks.length ≤ 100) (hd : c.nodes.length ≤ 100) (A B : ByteArray) {u v : Nat} (hu : u < c.toks.length) (hv : v < c.toks.length) : callV prog 73 [.agg (sc c (gc 6 A B ⟨#[]⟩ ⟨#[]⟩ ⟨#[]⟩ 0 0 []) u v)] = some (.bool (isHead c u v), []) := by
  have h : callV prog 100 [.agg (sc c (gc 6 A B ⟨#[]⟩ ⟨#[]⟩ ⟨#[]⟩ 0 0 []) u v)] = some (.bool (isHead c u v), []) := scene_head hc hn hd A B hu hv
  generalize (isHead c u v) = r at *
  refine callV_fn (body := ic73) rfl rfl ?_
  simp [sc, gc, Corp.cells] at h
  simp [ic73, sc, gc, Corp.cells, h]

theorem holds_head {c : Corp} {rk : Nat → Nat} (hc : HeadsOk c rk) (hn : c.toks.length ≤ 100) (hd : c.nodes.length ≤ 100) (A B : ByteArray) (b e p q : Int) {u v : Nat} (hu : u < c.toks.length) (hv : v < c.toks.length) (tu : Bound A b e p q u) (tv : Bound B b e p q v) :
    callV prog 32 [.agg c.cells, .agg (gc 6 A B ⟨#[]⟩ ⟨#[]⟩ ⟨#[]⟩ 0 0 []), .list labs, .agg (mc b e p q)] = some (.bool (isHead c u v), []) := by
  have h := related_head hc hn hd A B hu hv
  generalize (isHead c u v) = r at *
  unfold Bound at tu tv
  have n1 : ¬ (u : Int) < 0 := by omega
  have n2 : ¬ (v : Int) < 0 := by omega
  have n3 : 0 ≤ (v : Int) := by omega
  refine callV_fn (body := ic32) rfl rfl ?_
  simp [sc, gc, Corp.cells] at h
  simp [mc] at tu tv
  simp [ic32, sc, gc, mc, Corp.cells, tu, tv, h, n1, n2, n3]

theorem holds1_head (c : Corp) (A B : ByteArray) (b e p q : Int) {k : Int} (tu : Bound A b e p q k) (hk : k < 0) :
    callV prog 32 [.agg c.cells, .agg (gc 6 A B ⟨#[]⟩ ⟨#[]⟩ ⟨#[]⟩ 0 0 []), .list labs, .agg (mc b e p q)] = some (.bool false, []) := by
  unfold Bound at tu
  refine callV_fn (body := ic32) rfl rfl ?_
  simp [mc] at tu
  simp [ic32, gc, mc, Corp.cells, tu, hk]

theorem holds2_head (c : Corp) (A B : ByteArray) (b e p q : Int) {u : Nat} {k : Int} (tu : Bound A b e p q u) (tv : Bound B b e p q k) (hk : k < 0) :
    callV prog 32 [.agg c.cells, .agg (gc 6 A B ⟨#[]⟩ ⟨#[]⟩ ⟨#[]⟩ 0 0 []), .list labs, .agg (mc b e p q)] = some (.bool false, []) := by
  unfold Bound at tu tv
  have n1 : ¬ (u : Int) < 0 := by omega
  have n3 : ¬ 0 ≤ k := by omega
  refine callV_fn (body := ic32) rfl rfl ?_
  simp [mc] at tu tv
  simp [ic32, gc, mc, Corp.cells, tu, tv, hk, n1, n3]

theorem Holds_head {c : Corp} {rk : Nat → Nat} (hc : HeadsOk c rk) (hn : c.toks.length ≤ 100) (hd : c.nodes.length ≤ 100) (A B : ByteArray) (b e p q : Int) {u v : Nat} (hu : u < c.toks.length) (hv : v < c.toks.length) (tu : Bound A b e p q u) (tv : Bound B b e p q v) (hf : (inC c p && inC c q) = true) :
    callV prog 14 [.agg c.cells, .agg (gc 6 A B ⟨#[]⟩ ⟨#[]⟩ ⟨#[]⟩ 0 0 []), .list labs, .agg (mc b e p q)] = some (.bool (isHead c u v), []) := by
  have h1 := sound_head A B
  have h2 := gknown_spec c (op := 6) (by decide) (by decide) A B ⟨#[]⟩ ⟨#[]⟩ ⟨#[]⟩ 0 0 []
  have h3 := fits_spec c b e p q
  rw [hf] at h3
  have h4 := holds_head hc hn hd A B b e p q hu hv tu tv
  generalize (isHead c u v) = r at *
  refine callV_fn (body := ic14) rfl rfl ?_
  simp [gc, mc, Corp.cells] at h1 h2 h3 h4
  simp [ic14, gc, mc, Corp.cells, h1, h2, h3, h4]

theorem related_anc {c : Corp} {rk : Nat → Nat} (hc : HeadsOk c rk) (hn : c.toks.length ≤ 100) (hd : c.nodes.length ≤ 100) (A B : ByteArray) {u v : Nat} (hu : u < c.toks.length) (hv : v < c.toks.length) : callV prog 73 [.agg (sc c (gc 7 A B ⟨#[]⟩ ⟨#[]⟩ ⟨#[]⟩ 0 0 []) u v)] = some (.bool (has (up c u) v), []) := by
  have h : callV prog 101 [.agg (sc c (gc 7 A B ⟨#[]⟩ ⟨#[]⟩ ⟨#[]⟩ 0 0 []) u v)] = some (.bool (has (up c u) v), []) := scene_anc hc hn hd A B hu hv
  generalize (has (up c u) v) = r at *
  refine callV_fn (body := ic73) rfl rfl ?_
  simp [sc, gc, Corp.cells] at h
  simp [ic73, sc, gc, Corp.cells, h]

theorem holds_anc {c : Corp} {rk : Nat → Nat} (hc : HeadsOk c rk) (hn : c.toks.length ≤ 100) (hd : c.nodes.length ≤ 100) (A B : ByteArray) (b e p q : Int) {u v : Nat} (hu : u < c.toks.length) (hv : v < c.toks.length) (tu : Bound A b e p q u) (tv : Bound B b e p q v) :
    callV prog 32 [.agg c.cells, .agg (gc 7 A B ⟨#[]⟩ ⟨#[]⟩ ⟨#[]⟩ 0 0 []), .list labs, .agg (mc b e p q)] = some (.bool (has (up c u) v), []) := by
  have h := related_anc hc hn hd A B hu hv
  generalize (has (up c u) v) = r at *
  unfold Bound at tu tv
  have n1 : ¬ (u : Int) < 0 := by omega
  have n2 : ¬ (v : Int) < 0 := by omega
  have n3 : 0 ≤ (v : Int) := by omega
  refine callV_fn (body := ic32) rfl rfl ?_
  simp [sc, gc, Corp.cells] at h
  simp [mc] at tu tv
  simp [ic32, sc, gc, mc, Corp.cells, tu, tv, h, n1, n2, n3]

theorem holds1_anc (c : Corp) (A B : ByteArray) (b e p q : Int) {k : Int} (tu : Bound A b e p q k) (hk : k < 0) :
    callV prog 32 [.agg c.cells, .agg (gc 7 A B ⟨#[]⟩ ⟨#[]⟩ ⟨#[]⟩ 0 0 []), .list labs, .agg (mc b e p q)] = some (.bool false, []) := by
  unfold Bound at tu
  refine callV_fn (body := ic32) rfl rfl ?_
  simp [mc] at tu
  simp [ic32, gc, mc, Corp.cells, tu, hk]

theorem holds2_anc (c : Corp) (A B : ByteArray) (b e p q : Int) {u : Nat} {k : Int} (tu : Bound A b e p q u) (tv : Bound B b e p q k) (hk : k < 0) :
    callV prog 32 [.agg c.cells, .agg (gc 7 A B ⟨#[]⟩ ⟨#[]⟩ ⟨#[]⟩ 0 0 []), .list labs, .agg (mc b e p q)] = some (.bool false, []) := by
  unfold Bound at tu tv
  have n1 : ¬ (u : Int) < 0 := by omega
  have n3 : ¬ 0 ≤ k := by omega
  refine callV_fn (body := ic32) rfl rfl ?_
  simp [mc] at tu tv
  simp [ic32, gc, mc, Corp.cells, tu, tv, hk, n1, n3]

theorem Holds_anc {c : Corp} {rk : Nat → Nat} (hc : HeadsOk c rk) (hn : c.toks.length ≤ 100) (hd : c.nodes.length ≤ 100) (A B : ByteArray) (b e p q : Int) {u v : Nat} (hu : u < c.toks.length) (hv : v < c.toks.length) (tu : Bound A b e p q u) (tv : Bound B b e p q v) (hf : (inC c p && inC c q) = true) :
    callV prog 14 [.agg c.cells, .agg (gc 7 A B ⟨#[]⟩ ⟨#[]⟩ ⟨#[]⟩ 0 0 []), .list labs, .agg (mc b e p q)] = some (.bool (has (up c u) v), []) := by
  have h1 := sound_anc A B
  have h2 := gknown_spec c (op := 7) (by decide) (by decide) A B ⟨#[]⟩ ⟨#[]⟩ ⟨#[]⟩ 0 0 []
  have h3 := fits_spec c b e p q
  rw [hf] at h3
  have h4 := holds_anc hc hn hd A B b e p q hu hv tu tv
  generalize (has (up c u) v) = r at *
  refine callV_fn (body := ic14) rfl rfl ?_
  simp [gc, mc, Corp.cells] at h1 h2 h3 h4
  simp [ic14, gc, mc, Corp.cells, h1, h2, h3, h4]

theorem related_path {c : Corp} {rk : Nat → Nat} (hc : HeadsOk c rk) (hn : c.toks.length ≤ 100) (hd : c.nodes.length ≤ 100) (ar : List ByteArray) (A B : ByteArray) {u v : Nat} (hu : u < c.toks.length) (hv : v < c.toks.length) (har : has (way c u) v = true → ar = pre c (way c u) v) : callV prog 73 [.agg (sc c (gc 8 A B ⟨#[]⟩ ⟨#[]⟩ ⟨#[]⟩ 0 0 ar) u v)] = some (.bool (has (way c u) v), []) := by
  have h : callV prog 102 [.agg (sc c (gc 8 A B ⟨#[]⟩ ⟨#[]⟩ ⟨#[]⟩ 0 0 ar) u v)] = some (.bool (has (way c u) v), []) := scene_path hc hn hd ar A B hu hv har
  generalize (has (way c u) v) = r at *
  refine callV_fn (body := ic73) rfl rfl ?_
  simp [sc, gc, Corp.cells] at h
  simp [ic73, sc, gc, Corp.cells, h]

theorem holds_path {c : Corp} {rk : Nat → Nat} (hc : HeadsOk c rk) (hn : c.toks.length ≤ 100) (hd : c.nodes.length ≤ 100) (ar : List ByteArray) (A B : ByteArray) (b e p q : Int) {u v : Nat} (hu : u < c.toks.length) (hv : v < c.toks.length) (har : has (way c u) v = true → ar = pre c (way c u) v) (tu : Bound A b e p q u) (tv : Bound B b e p q v) :
    callV prog 32 [.agg c.cells, .agg (gc 8 A B ⟨#[]⟩ ⟨#[]⟩ ⟨#[]⟩ 0 0 ar), .list labs, .agg (mc b e p q)] = some (.bool (has (way c u) v), []) := by
  have h := related_path hc hn hd ar A B hu hv har
  generalize (has (way c u) v) = r at *
  unfold Bound at tu tv
  have n1 : ¬ (u : Int) < 0 := by omega
  have n2 : ¬ (v : Int) < 0 := by omega
  have n3 : 0 ≤ (v : Int) := by omega
  refine callV_fn (body := ic32) rfl rfl ?_
  simp [sc, gc, Corp.cells] at h
  simp [mc] at tu tv
  simp [ic32, sc, gc, mc, Corp.cells, tu, tv, h, n1, n2, n3]

theorem holds1_path (c : Corp) (A B : ByteArray) (ar : List ByteArray) (b e p q : Int) {k : Int} (tu : Bound A b e p q k) (hk : k < 0) :
    callV prog 32 [.agg c.cells, .agg (gc 8 A B ⟨#[]⟩ ⟨#[]⟩ ⟨#[]⟩ 0 0 ar), .list labs, .agg (mc b e p q)] = some (.bool false, []) := by
  unfold Bound at tu
  refine callV_fn (body := ic32) rfl rfl ?_
  simp [mc] at tu
  simp [ic32, gc, mc, Corp.cells, tu, hk]

theorem holds2_path (c : Corp) (A B : ByteArray) (ar : List ByteArray) (b e p q : Int) {u : Nat} {k : Int} (tu : Bound A b e p q u) (tv : Bound B b e p q k) (hk : k < 0) :
    callV prog 32 [.agg c.cells, .agg (gc 8 A B ⟨#[]⟩ ⟨#[]⟩ ⟨#[]⟩ 0 0 ar), .list labs, .agg (mc b e p q)] = some (.bool false, []) := by
  unfold Bound at tu tv
  have n1 : ¬ (u : Int) < 0 := by omega
  have n3 : ¬ 0 ≤ k := by omega
  refine callV_fn (body := ic32) rfl rfl ?_
  simp [mc] at tu tv
  simp [ic32, gc, mc, Corp.cells, tu, tv, hk, n1, n3]

theorem Holds_path {c : Corp} {rk : Nat → Nat} (hc : HeadsOk c rk) (hn : c.toks.length ≤ 100) (hd : c.nodes.length ≤ 100) (ar : List ByteArray) (A B : ByteArray) (b e p q : Int) {u v : Nat} (hu : u < c.toks.length) (hv : v < c.toks.length) (har : has (way c u) v = true → ar = pre c (way c u) v) (tu : Bound A b e p q u) (tv : Bound B b e p q v) (hf : (inC c p && inC c q) = true) :
    callV prog 14 [.agg c.cells, .agg (gc 8 A B ⟨#[]⟩ ⟨#[]⟩ ⟨#[]⟩ 0 0 ar), .list labs, .agg (mc b e p q)] = some (.bool (has (way c u) v), []) := by
  have h1 := sound_path A B ar
  have h2 := gknown_spec c (op := 8) (by decide) (by decide) A B ⟨#[]⟩ ⟨#[]⟩ ⟨#[]⟩ 0 0 ar
  have h3 := fits_spec c b e p q
  rw [hf] at h3
  have h4 := holds_path hc hn hd ar A B b e p q hu hv har tu tv
  generalize (has (way c u) v) = r at *
  refine callV_fn (body := ic14) rfl rfl ?_
  simp [gc, mc, Corp.cells] at h1 h2 h3 h4
  simp [ic14, gc, mc, Corp.cells, h1, h2, h3, h4]

theorem related_node {c : Corp} {rk : Nat → Nat} (hc : HeadsOk c rk) (hn : c.toks.length ≤ 100) (hd : c.nodes.length ≤ 100) (name : ByteArray) (A B : ByteArray) {u v : Nat} (hu : u < c.toks.length) (hv : v < c.toks.length) : callV prog 73 [.agg (sc c (gc 9 A B name ⟨#[]⟩ ⟨#[]⟩ 0 0 []) u v)] = some (.bool (c.nodes.any (over name u v)), []) := by
  have h : callV prog 103 [.agg (sc c (gc 9 A B name ⟨#[]⟩ ⟨#[]⟩ 0 0 []) u v)] = some (.bool (c.nodes.any (over name u v)), []) := scene_node hc hn hd name A B hu hv
  generalize (c.nodes.any (over name u v)) = r at *
  refine callV_fn (body := ic73) rfl rfl ?_
  simp [sc, gc, Corp.cells] at h
  simp [ic73, sc, gc, Corp.cells, h]

theorem holds_node {c : Corp} {rk : Nat → Nat} (hc : HeadsOk c rk) (hn : c.toks.length ≤ 100) (hd : c.nodes.length ≤ 100) (name : ByteArray) (A B : ByteArray) (b e p q : Int) {u v : Nat} (hu : u < c.toks.length) (hv : v < c.toks.length) (tu : Bound A b e p q u) (tv : Bound B b e p q v) :
    callV prog 32 [.agg c.cells, .agg (gc 9 A B name ⟨#[]⟩ ⟨#[]⟩ 0 0 []), .list labs, .agg (mc b e p q)] = some (.bool (c.nodes.any (over name u v)), []) := by
  have h := related_node hc hn hd name A B hu hv
  generalize (c.nodes.any (over name u v)) = r at *
  unfold Bound at tu tv
  have n1 : ¬ (u : Int) < 0 := by omega
  have n2 : ¬ (v : Int) < 0 := by omega
  have n3 : 0 ≤ (v : Int) := by omega
  refine callV_fn (body := ic32) rfl rfl ?_
  simp [sc, gc, Corp.cells] at h
  simp [mc] at tu tv
  simp [ic32, sc, gc, mc, Corp.cells, tu, tv, h, n1, n2, n3]

theorem holds1_node (c : Corp) (A B : ByteArray) (name : ByteArray) (b e p q : Int) {k : Int} (tu : Bound A b e p q k) (hk : k < 0) :
    callV prog 32 [.agg c.cells, .agg (gc 9 A B name ⟨#[]⟩ ⟨#[]⟩ 0 0 []), .list labs, .agg (mc b e p q)] = some (.bool false, []) := by
  unfold Bound at tu
  refine callV_fn (body := ic32) rfl rfl ?_
  simp [mc] at tu
  simp [ic32, gc, mc, Corp.cells, tu, hk]

theorem holds2_node (c : Corp) (A B : ByteArray) (name : ByteArray) (b e p q : Int) {u : Nat} {k : Int} (tu : Bound A b e p q u) (tv : Bound B b e p q k) (hk : k < 0) :
    callV prog 32 [.agg c.cells, .agg (gc 9 A B name ⟨#[]⟩ ⟨#[]⟩ 0 0 []), .list labs, .agg (mc b e p q)] = some (.bool false, []) := by
  unfold Bound at tu tv
  have n1 : ¬ (u : Int) < 0 := by omega
  have n3 : ¬ 0 ≤ k := by omega
  refine callV_fn (body := ic32) rfl rfl ?_
  simp [mc] at tu tv
  simp [ic32, gc, mc, Corp.cells, tu, tv, hk, n1, n3]

theorem Holds_node {c : Corp} {rk : Nat → Nat} (hc : HeadsOk c rk) (hn : c.toks.length ≤ 100) (hd : c.nodes.length ≤ 100) (name : ByteArray) (A B : ByteArray) (b e p q : Int) {u v : Nat} (hu : u < c.toks.length) (hv : v < c.toks.length) (tu : Bound A b e p q u) (tv : Bound B b e p q v) (hf : (inC c p && inC c q) = true) :
    callV prog 14 [.agg c.cells, .agg (gc 9 A B name ⟨#[]⟩ ⟨#[]⟩ 0 0 []), .list labs, .agg (mc b e p q)] = some (.bool (c.nodes.any (over name u v)), []) := by
  have h1 := sound_node A B name
  have h2 := gknown_spec c (op := 9) (by decide) (by decide) A B name ⟨#[]⟩ ⟨#[]⟩ 0 0 []
  have h3 := fits_spec c b e p q
  rw [hf] at h3
  have h4 := holds_node hc hn hd name A B b e p q hu hv tu tv
  generalize (c.nodes.any (over name u v)) = r at *
  refine callV_fn (body := ic14) rfl rfl ?_
  simp [gc, mc, Corp.cells] at h1 h2 h3 h4
  simp [ic14, gc, mc, Corp.cells, h1, h2, h3, h4]

theorem Holds_depth {c : Corp} {rk : Nat → Nat} (hc : HeadsOk c rk) (hn : c.toks.length ≤ 100) (mn mx : Int) (A : ByteArray) (b e p q : Int) {u : Nat} (hu : u < c.toks.length) (tu : Bound A b e p q u) (hf : (inC c p && inC c q) = true) :
    callV prog 14 [.agg c.cells, .agg (gc 10 A ⟨#[]⟩ ⟨#[]⟩ ⟨#[]⟩ ⟨#[]⟩ mn mx []), .list labs, .agg (mc b e p q)] = some (.bool (decide (mn ≤ (up c u).length) && decide (((up c u).length : Int) ≤ mx)), []) := by
  have h1 := sound_depth A mn mx
  have h2 := gknown_spec c (op := 10) (by decide) (by decide) A ⟨#[]⟩ ⟨#[]⟩ ⟨#[]⟩ ⟨#[]⟩ mn mx []
  have h3 := fits_spec c b e p q
  rw [hf] at h3
  have g1 := gup_spec hc hn hu
  have h4 : callV prog 32 [.agg c.cells, .agg (gc 10 A ⟨#[]⟩ ⟨#[]⟩ ⟨#[]⟩ ⟨#[]⟩ mn mx []), .list labs, .agg (mc b e p q)] = some (.bool (decide (mn ≤ (up c u).length) && decide (((up c u).length : Int) ≤ mx)), []) := by
    unfold Bound at tu
    have n1 : ¬ (u : Int) < 0 := by omega
    refine callV_fn (body := ic32) rfl rfl ?_
    simp [mc] at tu
    simp [Corp.cells] at g1
    cases h5 : decide (mn ≤ (up c u).length)
    · simp [ic32, gc, mc, Corp.cells, tu, n1, g1, h5]
    · simp [ic32, gc, mc, Corp.cells, tu, n1, g1, h5]
  generalize (decide (mn ≤ (up c u).length) && decide (((up c u).length : Int) ≤ mx)) = r at *
  refine callV_fn (body := ic14) rfl rfl ?_
  simp [gc, mc, Corp.cells] at h1 h2 h3 h4
  simp [ic14, gc, mc, Corp.cells, h1, h2, h3, h4]

end Go.Ab.Prog
