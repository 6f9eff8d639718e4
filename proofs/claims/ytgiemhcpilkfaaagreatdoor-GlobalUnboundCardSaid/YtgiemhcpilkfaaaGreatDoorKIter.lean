/- The iterator's own walk, piece by piece: the relation for its frame beside what the caller holds. And what follows from it, part by part. -/
import Derived.Test.YtgiemhcpilkfaaaGreatDoorK2
import Derived.Test.YtgiemhcpilkfaaaGreatDoorKLim
import Derived.Test.YtgiemhcpilkfaaaGreatDoorKRun

/- Part Iter. -/
namespace Go.Ab
open Go
set_option linter.unusedSimpArgs false
set_option linter.unusedVariables false

theorem p0_ok {P : Program} (n : Nat) : CallOk P (callN p0 n) := callN_sound (u := 0) (fun h => absurd rfl h) (fun f F h => by cases h) n

/-- At a point of the iterator's walk: its frame is as 'σ' says; what the caller holds still holds; and what the frame owns is among the blocks that the caller lets turn. -/
structure Pt (nt : Nat) (x : Addr) (s : ByteArray) (J : List U → (Nat → Prop) → World → Prop) (σ : St) (pre : List U) (a : Act) (w : World) where
  E : Env
  G : Ghost
  X : Nat → Prop
  lk : List Nat
  rel : Rel nt w (pbOf E σ.H lk) G σ E G a w
  keys : ∀ κ, (σ.H κ).isSome = true → κ ∈ lk
  str : G x = some (.string s)
  gh : ∀ y, G y ≠ none → y = x ∨ laidG y ≠ none ∨ X y.block
  own : ∀ κ B b, σ.H κ = some B → blkOf E κ B = some b → X b
  hj : J pre X w

section
variable {nt : Nat} {P : Program} {x : Addr} {s : ByteArray} {J : List U → (Nat → Prop) → World → Prop} {Jx : World → Prop}

abbrev StepOk (J : List U → (Nat → Prop) → World → Prop) : Prop :=
  ∀ pre X W W', J pre X W → (∀ b, b < W.heap.size → ¬ X b → W'.heap[b]? = W.heap[b]?) → W.heap.size ≤ W'.heap.size → W'.os = W.os → W'.tape = W.tape → W'.output = W.output → J pre (fun r => X r ∨ (W.heap.size ≤ r ∧ r < W'.heap.size)) W'

theorem Pt.rebased {σ : St} {pre : List U} {a a' : Act} {w w' : World} (p : Pt nt x s J σ pre a w) (hs : StepOk J) {σ' : St} {E' : Env} {G' : Ghost} (h : Rel nt w (pbOf p.E σ.H p.lk) p.G σ' E' G' a' w') (hd : a'.defers = []) {lk : List Nat} (hk : ∀ κ, (σ'.H κ).isSome = true → κ ∈ lk) :
    Nonempty (Pt nt x s J σ' pre a' w') := by
  have hX : ∀ b, b ∈ (pbOf p.E σ.H p.lk).map (·.2) → p.X b := fun b hb => by
    obtain ⟨κ, B, _, hB, hbk⟩ := pbOf_snd hb
    exact p.own κ B b hB hbk
  exact ⟨
  { E := E', G := G', X := fun r => p.X r ∨ (w.heap.size ≤ r ∧ r < w'.heap.size), lk := lk,
    rel := h.rebase hk rfl hd, keys := hk, str := h.gle _ _ p.str,
    gh := fun y hy => by
      rcases h.gnew y hy with h1 | h1 | h1
      · rcases p.gh y h1 with h2 | h2 | h2
        · exact .inl h2
        · exact .inr (.inl h2)
        · exact .inr (.inr (.inl h2))
      · refine .inr (.inr (.inr ⟨h1, ?_⟩))
        cases hv : G' y with
        | none => exact absurd hv hy
        | some v => exact cell_lt (h.hold y v hv)
      · exact .inr (.inr (.inl (hX _ h1)))
    own := fun κ B b hB hb => by
      rcases h.own κ B b hB hb with h1 | h1
      · exact .inr ⟨h1, h.lt hB hb⟩
      · exact .inl (hX b (List.mem_map.2 ⟨_, h1, rfl⟩))
    hj := hs pre p.X w w' p.hj (fun b hb hn => h.fr b hb (fun hm => hn (hX b hm))) h.sz h.os h.tape h.output }⟩

/-- A piece of the iterator's code that calls nobody. -/
theorem Pt.seg {σ : St} {pre : List U} {a : Act} {w : World} (p : Pt nt x s J σ pre a w) (hs : StepOk J) (hd : a.defers = []) {ic : IC} {c : Code} {np : Nat} (hok : okCode P 0 np nt ic c = true) (hnp : ∀ κ, (σ.H κ).isSome = true → κ < np)
    {y : IX} {σ' : St} (hev : evV p0 ic σ = some (y, σ')) {lk : List Nat} (hk : ∀ κ, (σ'.H κ).isSome = true → κ ∈ lk) {Q : Exit → Act → World → Prop} (hQ : ∀ e a' w', Fits y e → a'.defers = [] → Nonempty (Pt nt x s J σ' pre a' w') → Q e a' w') : c.wpIn (FR none) 0 P Q a w := by
  obtain ⟨n, hn⟩ := evV_lim hev
  have h1 := ev_sound (r := none) (m := 0) (u := 0) (nt := nt) (dd := some []) (p0_ok (P := P) n) ic (fun e => absurd rfl e) (fun κ b hm => by
    obtain ⟨_, B, hB, _⟩ := pbOf_mem.1 hm
    exact hnp κ (by rw [hB]; rfl)) c hok (fun d h => by injection h with h; rw [← h]; exact hd) p.rel hn
  refine wpIn_mono h1 ?_
  rintro e a' w' ⟨hf, hd', E', G', hr⟩
  exact hQ e a' w' hf (hd' [] rfl) (p.rebased hs hr (hd' [] rfl) hk)

/-- Operations of a region, the first of them, that call nobody. -/
theorem ops_pre {np : Nat} {base : World} {pb : List (Nat × Nat)} {G0 : Ghost} (hnp : ∀ κ b, (κ, b) ∈ pb → κ < np) {call : CallF} (hcall : CallOk P call) {ops : Array Oper} {Q : Exit → Act → World → Prop} {σ' : St} {rest : List Nat} : ∀ (ks : List Nat) (σ : St) (E : Env) (G : Ghost) (a : Act) (w : World) (ios : List IOper),
    (∀ (i k : Nat) io, ks[i]? = some k → ios[i]? = some io → ∃ o, ops[k]? = some o ∧ okOper P np nt ops o io = true) → ks.length = ios.length →
    Rel nt base pb G0 σ E G a w → evOps call ios σ = some σ' → (∀ E' G' a' w', a'.defers = a.defers → Rel nt base pb G0 σ' E' G' a' w' → wpOpsIn (FR none) 0 P ops Q rest a' w') → wpOpsIn (FR none) 0 P ops Q (ks ++ rest) a w := by
  intro ks
  induction ks with
  | nil =>
    intro σ E G a w ios hok hl h he hQ
    cases ios with
    | cons io ios => simp at hl
    | nil =>
      simp only [evOps, Option.some.injEq] at he; subst he
      exact hQ E G a w rfl h
  | cons k ks ih =>
    intro σ E G a w ios hok hl h he hQ
    cases ios with
    | nil => simp at hl
    | cons io ios =>
      simp only [evOps] at he
      split at he
      · rename_i σ1 h1
        obtain ⟨o, ho, hoo⟩ := hok 0 k io rfl rfl
        rw [List.cons_append, wpOpsIn_cons]
        refine oper_sound hnp h hcall ho hoo h1 fun E' G' a' w' hd hr => ?_
        exact ih σ1 E' G' a' w' ios (fun i k io h1 h2 => hok (i + 1) k io (by simpa using h1) (by simpa using h2)) (by simpa using hl) hr he (fun E2 G2 a2 w2 hd2 => hQ E2 G2 a2 w2 (hd2.trans hd))
      · cases he

theorem Pt.ops {σ : St} {pre : List U} {a : Act} {w : World} (p : Pt nt x s J σ pre a w) (hs : StepOk J) (hd : a.defers = []) {ks rest : List Nat} {ops : Array Oper} {ios : List IOper} {np : Nat} (hnp : ∀ κ, (σ.H κ).isSome = true → κ < np)
    (hok : ∀ (i k : Nat) io, ks[i]? = some k → ios[i]? = some io → ∃ o, ops[k]? = some o ∧ okOper P np nt ops o io = true) (hl : ks.length = ios.length)
    {σ' : St} (hev : evOps (callV p0) ios σ = some σ') {lk : List Nat} (hk : ∀ κ, (σ'.H κ).isSome = true → κ ∈ lk) {Q : Exit → Act → World → Prop} (hQ : ∀ a' w', a'.defers = [] → Nonempty (Pt nt x s J σ' pre a' w') → wpOpsIn (FR none) 0 P ops Q rest a' w') : wpOpsIn (FR none) 0 P ops Q (ks ++ rest) a w := by
  obtain ⟨n, hn⟩ := evOps_lim hev
  exact ops_pre (P := P) (fun κ b hm => by
    obtain ⟨_, B, hB, _⟩ := pbOf_mem.1 hm
    exact hnp κ (by rw [hB]; rfl)) (p0_ok (P := P) n) ks σ _ _ a w ios hok hl p.rel hn (fun E' G' a' w' hd' hr => hQ a' w' (hd'.trans hd) (p.rebased hs hr (hd'.trans hd) hk))

def okKs (P : Program) (np nt : Nat) (ops : Array Oper) : List Nat → List IOper → Bool
  | [], [] => true
  | k :: ks, io :: ios => (match ops[k]? with | some o => okOper P np nt ops o io | none => false) && okKs P np nt ops ks ios
  | _, _ => false

theorem okKs_get {np nt : Nat} {ops : Array Oper} : ∀ {ks : List Nat} {ios : List IOper}, okKs P np nt ops ks ios = true → ks.length = ios.length ∧ ∀ (i k : Nat) io, ks[i]? = some k → ios[i]? = some io → ∃ o, ops[k]? = some o ∧ okOper P np nt ops o io = true
  | [], [], _ => ⟨rfl, fun i k io h _ => by simp at h⟩
  | [], _ :: _, h => by simp [okKs] at h
  | _ :: _, [], h => by simp [okKs] at h
  | k :: ks, io :: ios, h => by
    simp only [okKs, Bool.and_eq_true] at h
    obtain ⟨h1, h2⟩ := okKs_get h.2
    refine ⟨by simp [h1], fun i k' io' e1 e2 => ?_⟩
    cases i with
    | zero =>
      simp at e1 e2; subst e1; subst e2
      have h3 := h.1
      split at h3
      · rename_i o ho; exact ⟨o, ho, h3⟩
      · cases h3
    | succ i => exact h2 i k' io' (by simpa using e1) (by simpa using e2)

theorem wpIn_not {o : Oper} {t : TypeId} {i : Nat} (ho : o.op = .unOp .not t (.tmp i)) {a : Act} {w : World} {b : Bool} (hb : a.eval (.tmp i) = .bool b) {K : Act → World → Prop} {Q : Exit → Act → World → Prop} (h : K (a.put o.dst (.bool !b)) w) : o.wpIn (FR none) 0 P a w K Q := by
  refine ⟨fun _ _ => trivial, ?_⟩
  rw [Oper.semAt_eq _ _ _ (by rw [ho]; intro c e; cases e)]
  have hrun : (execOp a.eval o).run P w = .ok (.value (.bool !b)) w := by
    unfold execOp
    rw [ho]
    generalize Operand.tmp i = fo at hb ⊢
    generalize a.eval = ev at hb ⊢
    simp [hb, go_sem, Op.unary]
  rw [hrun]; exact h

theorem wpOpIn_of {ops : Array Oper} {i : Nat} {o : Oper} (ho : ops[i]? = some o) {a : Act} {w : World} (hw : Region.wanted o (yielded ops a.tmps) = true) {K : Act → World → Prop} {Q : Exit → Act → World → Prop} (h : o.wpIn (FR none) 0 P a w K Q) : wpOpIn (FR none) 0 P ops Q i K a w := by
  unfold wpOpIn
  rw [ho]
  simp only [hw, if_true]
  exact h

theorem Rel.putB {base : World} {pb : List (Nat × Nat)} {G0 : Ghost} {T : Tm} {H : Hp} {E : Env} {G : Ghost} {a : Act} {w : World} (h : Rel nt base pb G0 ⟨T, H⟩ E G a w) {d : Nat} (hd : d < nt) (b : Bool) : Rel nt base pb G0 ⟨upd T d (.bool b), H⟩ E G (a.put (some d) (.bool b)) w :=
  Rel.put (d := some d) (v := PV.bool b) (x := Value.bool b) h (fun k hk => by injection hk with hk; omega) (.one (.pure (.bool b))) (Cl.nil rfl)

theorem Rel.evalB {base : World} {pb : List (Nat × Nat)} {G0 : Ghost} {σ : St} {E : Env} {G : Ghost} {a : Act} {w : World} (h : Rel nt base pb G0 σ E G a w) {t : Nat} {b : Bool} (hb : σ.T t = .bool b) : a.eval (.tmp t) = .bool b := by
  have h1 := h.tm t
  rw [hb] at h1
  exact rep_bool h1

theorem wpIn_pick {o : Oper} {c x y : Operand} (ho : o.op = .pick c x y) {a : Act} {w : World} {b : Bool} (hb : a.eval c = .bool b) {K : Act → World → Prop} {Q : Exit → Act → World → Prop} (h : K (a.put o.dst (if b then a.eval x else a.eval y)) w) : o.wpIn (FR none) 0 P a w K Q := by
  refine ⟨fun _ _ => trivial, ?_⟩
  rw [Oper.semAt_eq _ _ _ (by rw [ho]; intro c e; cases e)]
  have hrun : (execOp a.eval o).run P w = .ok (.value (if b then a.eval x else a.eval y)) w := by
    unfold execOp
    rw [ho]
    simp only [Sem.run_bind, hb, asBool, Sem.run_pure, Result.andThen_ok]
  rw [hrun]; exact h

theorem repX_int {E : Env} {G : Ghost} {k : IntKind} {n : Int} {v : Value} (h : RepX E G (.int k n) v) : v = .int k n := by
  cases h with | pure h => cases h; rfl

theorem rep_unit {E : Env} {G : Ghost} {u : U} {v : Value} (h : Rep E G (unitPV u) v) : v = unitV u := by
  cases h with
  | one h => cases h with | pure h => cases h
  | agg cs vs hl hr =>
    have hs : vs.size = 3 := by simpa using hl.symm
    have h0 := repX_int (hr 0 (.int .i32 u.1) (vs[0]'(by omega)) rfl (Array.getElem?_eq_getElem (by omega)))
    have h1 := repX_int (hr 1 (.int .i64 u.2.1) (vs[1]'(by omega)) rfl (Array.getElem?_eq_getElem (by omega)))
    have h2 := repX_int (hr 2 (.int .i64 u.2.2) (vs[2]'(by omega)) rfl (Array.getElem?_eq_getElem (by omega)))
    have : vs = #[vs[0]'(by omega), vs[1]'(by omega), vs[2]'(by omega)] := by
      apply Array.ext
      · simp [hs]
      · intro i h1 h2
        have hi : i = 0 ∨ i = 1 ∨ i = 2 := by omega
        rcases hi with rfl | rfl | rfl <;> rfl
    rw [this, h0, h1, h2]; rfl

/-- A call of yield. -/
theorem Pt.yield {l : Nat} {σ : St} {pre : List U} {a : Act} {w : World} (p : Pt nt x s J σ pre a w) (hd : a.defers = [])
    (hc : ∀ pre X W, J pre X W → W.cell? x = some (.string s) ∧ Holds laidG W)
    (hround : ∀ pre u rest X W, J pre X W → unitsOf s = pre ++ u :: rest → ∃ fn tmps assign body, (Instr.yield l #[unitV u]).run P W = .ok (.round l fn tmps assign body) W ∧ RoundIn Fence.wide 0 P l fn tmps assign body W fun e W' =>
      (e = .returned (.bool true) ∧ J (pre ++ [u]) X W' ∧ W.heap.size ≤ W'.heap.size ∧ ∀ r, X r → W'.heap[r]? = W.heap[r]?) ∨ (e = .returned (.bool false) ∧ Jx W'))
    {u : U} {rest : List U} (hun : unitsOf s = pre ++ u :: rest) {o : Oper} {tf ta d : Nat} {ts : Array TypeId} (ho : o.op = .call ⟨.value (.tmp tf), #[.tmp ta], ts⟩) (hod : o.dst = some d) (hdn : d < nt)
    (hf : σ.T tf = .yfn l) (hu : σ.T ta = unitPV u) {K : Act → World → Prop} {Q : Exit → Act → World → Prop}
    (hgo : ∀ w', Nonempty (Pt nt x s J ⟨upd σ.T d (.bool true), σ.H⟩ (pre ++ [u]) (a.put (some d) (.bool true)) w') → K (a.put (some d) (.bool true)) w')
    (hstop : ∀ w', Jx w' → K (a.put (some d) (.bool false)) w') : o.wpIn (FR none) 0 P a w K Q := by
  obtain ⟨fn, tmps, assign, body, hy, hR⟩ := hround pre u rest p.X w p.hj hun
  have e1 : a.eval (.tmp tf) = .func (.yield l) #[] #[] := by
    have h := p.rel.tm tf
    rw [hf] at h
    show a.tmps.getD tf Go.undef = _
    generalize a.tmps.getD tf Go.undef = z at h
    cases h with | one h => cases h with | pure h => cases h; rfl
  have e2 : a.eval (.tmp ta) = unitV u := by
    have h := p.rel.tm ta
    rw [hu] at h
    exact rep_unit h
  refine ⟨fun _ _ => trivial, ?_⟩
  rw [Oper.semAt_eq _ _ _ (by rw [ho]; intro c e; cases e)]
  have hrun : (execOp a.eval o).run P w = .ok (.round l fn tmps assign body) w := by
    unfold execOp
    rw [ho]
    generalize Operand.tmp tf = fo at e1 ⊢
    generalize Operand.tmp ta = ao at e2 ⊢
    generalize a.eval = ev at e1 e2 ⊢
    simp [resolve, e1, e2, Deferred.ofValue, invoke, go_sem, hy]

  rw [hrun, Oper.uponIn_round]
  refine ⟨(fun h => nomatch h), RoundIn.mono hR ?_⟩
  rintro e W' (⟨rfl, hj, hsz, hX⟩ | ⟨rfl, hjx⟩)
  · show K (a.put o.dst (.bool true)) W'
    rw [hod]
    refine hgo W' ⟨?_⟩
    have hr1 := Rel.put (d := some d) (v := PV.bool true) (x := Value.bool true) (T := σ.T) (H := σ.H) p.rel (fun k hk => by injection hk with hk; omega) (.one (.pure (.bool true))) (Cl.nil rfl)
    have hx' := hc _ _ _ hj
    exact
    { E := p.E, G := p.G, X := p.X, lk := p.lk,
      rel :=
      { tm := hr1.tm, ts := hr1.ts, df := by rw [put_defers, hd]; trivial,
        hp := fun κ B hH => (p.rel.hp κ B hH).keep (.refl _) (fun b hb => hX b (p.own κ B b hH hb)) (fun _ _ _ _ k => k),
        inj := p.rel.inj, cT := hr1.cT, cH := hr1.cH,
        hold := fun y v hv => by
          rcases p.gh y (by simp [hv]) with h1 | h1 | h1
          · subst h1
            rw [p.str] at hv; injection hv with hv; subst hv
            exact hx'.1
          · cases hl : laidG y with
            | none => exact absurd hl h1
            | some v' =>
              have := p.rel.lai y v' hl
              rw [hv] at this; injection this with this; subst this
              exact hx'.2 y v hl
          · rw [cell_of_heap (hX _ h1)]; exact p.rel.hold y v hv
        lai := p.rel.lai, gle := .refl _, gnew := fun y hy => .inl hy, fr := fun _ _ _ => rfl, sz := Nat.le_refl _,
        own := fun κ B b hH hb => .inr (pbOf_mem.2 ⟨p.keys κ (by rw [hH]; rfl), B, hH, hb⟩),
        par := p.rel.par, os := rfl, tape := rfl, output := rfl }
      keys := p.keys, str := p.str, gh := p.gh, own := p.own, hj := hj }
  · show K (a.put o.dst (.bool false)) W'
    rw [hod]
    exact hstop W' hjx

end
end Go.Ab

/- Part IterE. -/
namespace Go.Ab
set_option linter.unusedSimpArgs false
set_option linter.unusedVariables false

section
variable {l : Nat} {s : ByteArray} {r at' sz : Int} {pos : Nat}

/-- The iterator's variable u. -/
abbrev ub (r at' sz : Int) : List PV := [.int .i32 r, .int .i64 at', .int .i64 sz]

def S0 (l : Nat) (s : ByteArray) : St := ⟨tm [(0, .yfn l), (1, .rptr [.str s])], hp []⟩
def S1 (l : Nat) (s : ByteArray) (r at' sz : Int) : St := ⟨tm [(0, .yfn l), (1, .rptr [.str s]), (3, .ptr 100 0)], hp [(100, some (.box (ub r at' sz)))]⟩
def S2 (l : Nat) (s : ByteArray) (r at' sz : Int) (pos : Nat) : St := ⟨tm [(0, .yfn l), (1, .rptr [.str s]), (3, .ptr 100 0), (8, .ptr 101 0)], hp [(100, some (.box (ub r at' sz))), (101, some (.siter s pos))]⟩
/-- Behind 'next': there is one more. -/
def S3 (l : Nat) (s : ByteArray) (r at' sz : Int) (pos : Nat) : St := ⟨tm [(0, .yfn l), (1, .rptr [.str s]), (3, .ptr 100 0), (8, .ptr 101 0), (9, .tuple [.bool true, .int .i64 pos, .int .i32 (Utf8.decode s pos).1]), (10, .bool true)],
  hp [(100, some (.box (ub r at' sz))), (101, some (.siter s (pos + (Utf8.decode s pos).2)))]⟩
def S3e (l : Nat) (s : ByteArray) (r at' sz : Int) (pos : Nat) : St := ⟨tm [(0, .yfn l), (1, .rptr [.str s]), (3, .ptr 100 0), (8, .ptr 101 0), (9, .tuple [.bool false]), (10, .bool false)],
  hp [(100, some (.box (ub r at' sz))), (101, some (.siter s pos))]⟩
def S4 (l : Nat) (s : ByteArray) (r at' sz : Int) (pos pos' : Nat) (r' : Int) : St := ⟨tm [(0, .yfn l), (1, .rptr [.str s]), (3, .ptr 100 0), (4, .int .i64 pos), (5, .int .i32 r'), (8, .ptr 101 0)], hp [(100, some (.box (ub r at' sz))), (101, some (.siter s pos'))]⟩

def ua1 : IC := .gpost [0, 1, 3] [100] (.region [
    ⟨some 6, .build [.int .i32 0, .int .i64 0, .int .i64 0] [(1, 1, .c (.int .i64 (-1)))], none, [], []⟩,
    ⟨some 3, .alloc 100 [.int .i32 0, .int .i64 0, .int .i64 0], none, [100], []⟩,
    ⟨none, .store 3 (.t 3) (.t 6), none, [100], []⟩] false)
theorem ev_a1 : evV p0 ua1 (S0 l s) = some (.normal, S1 l s 0 (-1) 0) := by simp [ua1, S0, S1]

def ua2 : IC := .gpost [0, 1, 3, 8] [100, 101] (.region [
    ⟨some 7, .load 1 false (.t 1), none, [], []⟩,
    ⟨some 8, .range 101 (.t 7), none, [101], []⟩] false)
theorem ev_a2 : evV p0 ua2 (S1 l s r at' sz) = some (.normal, S2 l s r at' sz 0) := by simp [ua2, S1, S2]

def ub2 : IC := .gpost [0, 1, 3, 8, 9, 10] [100, 101] (.region [
    ⟨some 9, .next (.t 8), none, [101], []⟩,
    ⟨some 10, .extract (.t 9) 0, none, [], []⟩] false)
theorem ev_b2 (h : pos < s.size) : evV p0 ub2 (S2 l s r at' sz pos) = some (.normal, S3 l s r at' sz pos) := by simp [ub2, S2, S3, h]
theorem ev_b2e (h : ¬ pos < s.size) : evV p0 ub2 (S2 l s r at' sz pos) = some (.normal, S3e l s r at' sz pos) := by simp [ub2, S2, S3e, h]

def ub3 : IC := .gpost [0, 1, 3, 4, 5, 8] [100, 101] (.region [
    ⟨some 11, .extract (.t 9) 1, none, [], []⟩,
    ⟨some 12, .extract (.t 9) 2, none, [], []⟩,
    ⟨some 4, .mov (.t 11), none, [], []⟩,
    ⟨some 5, .mov (.t 12), none, [], []⟩] false)
theorem ev_b3 : evV p0 ub3 (S3 l s r at' sz pos) = some (.normal, S4 l s r at' sz pos (pos + (Utf8.decode s pos).2) (Utf8.decode s pos).1) := by simp [ub3, S3, S4]

def ub4 : IC := .gpost [0, 1, 3, 4, 5, 8] [100, 101] (.region [
    ⟨some 13, .mov (.t 4), none, [], []⟩,
    ⟨some 14, .faddr 1 (.t 3), none, [], []⟩,
    ⟨some 15, .load 1 false (.t 14), none, [100], []⟩,
    ⟨some 16, .bin .sub (.t 13) (.t 15), none, [], []⟩,
    ⟨some 17, .faddr 2 (.t 3), none, [], []⟩,
    ⟨none, .store 1 (.t 17) (.t 16), none, [100], []⟩] false)
theorem ev_b4 {pos' : Nat} {r' : Int} : evV p0 ub4 (S4 l s r at' sz pos pos' r') = some (.normal, S4 l s r at' (IntKind.i64.wrap (pos - at')) pos pos' r') := by simp [ub4, S4]

def ub5 : List IOper := [
    ⟨some 18, .faddr 1 (.t 3), none, [], []⟩,
    ⟨some 19, .load 1 false (.t 18), none, [100], []⟩,
    ⟨some 20, .bin .geq (.t 19) (.c (.int .i64 0)), none, [], []⟩,
    ⟨some 21, .mov (.t 20), none, [], []⟩,
    ⟨some 22, .mov (.t 0), some (21, true), [], []⟩,
    ⟨some 23, .load 3 true (.t 3), some (21, true), [100], []⟩]
theorem ev_b5 {pos' : Nat} {r' : Int} (h : 0 ≤ at') : ∃ T, evOps (callV p0) ub5 (S4 l s r at' sz pos pos' r') = some ⟨T, (S4 l s r at' sz pos pos' r').H⟩ ∧ T 21 = .bool true ∧ T 22 = .yfn l ∧ T 23 = .agg (ub r at' sz) ∧
    (∀ t, t < 18 → T t = (S4 l s r at' sz pos pos' r').T t) := by
  have h' : ¬ at' < 0 := by omega
  refine ⟨_, by simp [ub5, S4, h]; rfl, by simp, by simp, by simp, fun t ht => ?_⟩
  have e1 : t ≠ 18 := by omega
  have e2 : t ≠ 19 := by omega
  have e3 : t ≠ 20 := by omega
  have e4 : t ≠ 21 := by omega
  have e5 : t ≠ 22 := by omega
  have e6 : t ≠ 23 := by omega
  simp [e1, e2, e3, e4, e5, e6, S4]
/-- The first round: nothing is yielded. -/
def ub5n : IC := .gpost [0, 1, 3, 4, 5, 8, 26] [100, 101] (.region [
    ⟨some 18, .faddr 1 (.t 3), none, [], []⟩,
    ⟨some 19, .load 1 false (.t 18), none, [100], []⟩,
    ⟨some 20, .bin .geq (.t 19) (.c (.int .i64 0)), none, [], []⟩,
    ⟨some 21, .mov (.t 20), none, [], []⟩,
    ⟨some 22, .mov (.t 0), some (21, true), [], []⟩,
    ⟨some 23, .load 3 true (.t 3), some (21, true), [100], []⟩,
    ⟨some 24, .callv (.t 22) [] [.t 23], some (21, true), [], []⟩,
    ⟨some 25, .un .not (.t 24), some (21, true), [], []⟩,
    ⟨some 26, .pick (.t 21) (.t 25) (.c (.bool false)), none, [], []⟩] false)
def S5 (l : Nat) (s : ByteArray) (r at' sz : Int) (pos pos' : Nat) (r' : Int) : St := ⟨tm [(0, .yfn l), (1, .rptr [.str s]), (3, .ptr 100 0), (4, .int .i64 pos), (5, .int .i32 r'), (8, .ptr 101 0), (26, .bool false)], hp [(100, some (.box (ub r at' sz))), (101, some (.siter s pos'))]⟩
theorem ev_b5n {pos' : Nat} {r' : Int} : evV p0 ub5n (S4 l s r (-1) sz pos pos' r') = some (.normal, S5 l s r (-1) sz pos pos' r') := by simp [ub5n, S4, S5]

def ub5s : List IOper := [
    ⟨some 25, .un .not (.t 24), some (21, true), [], []⟩,
    ⟨some 26, .pick (.t 21) (.t 25) (.c (.bool false)), none, [], []⟩]
theorem ev_b5s {T : Tm} {H : Hp} {b : Bool} (h1 : T 21 = .bool true) (h2 : T 24 = .bool b) : evOps (callV p0) ub5s ⟨T, H⟩ = some ⟨upd (upd T 25 (.bool !b)) 26 (.bool !b), H⟩ := by simp [ub5s, h1, h2]

def ub6 : IC := .gpost [0, 1, 3, 8] [100, 101] (.region [
    ⟨some 27, .mov (.t 5), none, [], []⟩,
    ⟨some 28, .mov (.t 4), none, [], []⟩,
    ⟨some 29, .build [.int .i32 0, .int .i64 0, .int .i64 0] [(0, 1, .t 27), (1, 1, .t 28)], none, [], []⟩,
    ⟨none, .store 3 (.t 3) (.t 29), none, [100], []⟩] false)
theorem ev_b6 {T : Tm} {pos' : Nat} {r' : Int} (h0 : T 0 = .yfn l) (h1 : T 1 = .rptr [.str s]) (h3 : T 3 = .ptr 100 0) (h4 : T 4 = .int .i64 pos) (h5 : T 5 = .int .i32 r') (h8 : T 8 = .ptr 101 0) :
    evV p0 ub6 ⟨T, hp [(100, some (.box (ub r at' sz))), (101, some (.siter s pos'))]⟩ = some (.normal, S2 l s r' pos 0 pos') := by simp [ub6, h0, h1, h3, h4, h5, h8, S2]

theorem ev_b6n {pos' : Nat} {r' : Int} : evV p0 ub6 (S5 l s r at' sz pos pos' r') = some (.normal, S2 l s r' pos 0 pos') := by simp [ub6, S5, S2]

def uc7 : IC := .gpost [0, 1, 3] [100] (.region [
    ⟨some 30, .load 1 false (.t 1), none, [], []⟩,
    ⟨some 31, .len true (.t 30), none, [], []⟩,
    ⟨some 32, .faddr 1 (.t 3), none, [], []⟩,
    ⟨some 33, .load 1 false (.t 32), none, [100], []⟩,
    ⟨some 34, .bin .sub (.t 31) (.t 33), none, [], []⟩,
    ⟨some 35, .faddr 2 (.t 3), none, [], []⟩,
    ⟨none, .store 1 (.t 35) (.t 34), none, [100], []⟩] false)
theorem ev_c7 : evV p0 uc7 (S3e l s r at' sz pos) = some (.normal, S1 l s r at' (IntKind.i64.wrap (s.size - at'))) := by simp [uc7, S3e, S1]

def uc8 : IC := .gpost [0, 1, 3, 38] [100] (.region [
    ⟨some 36, .faddr 1 (.t 3), none, [], []⟩,
    ⟨some 37, .load 1 false (.t 36), none, [100], []⟩,
    ⟨some 38, .bin .geq (.t 37) (.c (.int .i64 0)), none, [], []⟩] false)
def S8 (l : Nat) (s : ByteArray) (r at' sz : Int) (b : Bool) : St := ⟨tm [(0, .yfn l), (1, .rptr [.str s]), (3, .ptr 100 0), (38, .bool b)], hp [(100, some (.box (ub r at' sz)))]⟩
theorem ev_c8 : evV p0 uc8 (S1 l s r at' sz) = some (.normal, S8 l s r at' sz (decide (at' ≥ 0))) := by simp [uc8, S1, S8]

def uc9 : List IOper := [
    ⟨some 39, .mov (.t 0), none, [], []⟩,
    ⟨some 40, .load 3 true (.t 3), none, [100], []⟩]
theorem ev_c9 {b : Bool} : ∃ T, evOps (callV p0) uc9 (S8 l s r at' sz b) = some ⟨T, (S8 l s r at' sz b).H⟩ ∧ T 39 = .yfn l ∧ T 40 = .agg (ub r at' sz) :=
  ⟨_, by simp [uc9, S8]; rfl, by simp, by simp⟩

end
end Go.Ab
