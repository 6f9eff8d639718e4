/- The iterator over a string's code points keeps its promise. -/
import Derived.Test.YtgiemhcpilkfaaaGreatDoorKIter
import Derived.Test.YtgiemhcpilkfaaaGreatDoorChecked
import Derived.KernelRfl

namespace Go.Ab
open Go Go.Proofs
set_option linter.unusedSimpArgs false
set_option linter.unusedVariables false
set_option maxRecDepth 100000

/-! ### Code points of a string -/

theorem decode_width {s : ByteArray} {p : Nat} (h : p < s.size) : 1 ≤ (Utf8.decode s p).2 ∧ p + (Utf8.decode s p).2 ≤ s.size := by
  simp only [Utf8.decode]
  repeat' split
  all_goals simp_all [Utf8.runeError]
  all_goals omega

theorem unitsFrom_fuel {s : ByteArray} : ∀ (f g p : Nat), s.size - p ≤ f → s.size - p ≤ g → unitsFrom s f p = unitsFrom s g p
  | 0, 0, p, _, _ => rfl
  | 0, g + 1, p, h, _ => by
    have : ¬ p < s.size := by omega
    simp [unitsFrom, this]
  | f + 1, 0, p, _, h => by
    have : ¬ p < s.size := by omega
    simp [unitsFrom, this]
  | f + 1, g + 1, p, h1, h2 => by
    simp only [unitsFrom]
    split
    · rename_i h
      obtain ⟨h3, h4⟩ := decode_width h
      rw [unitsFrom_fuel f g _ (by omega) (by omega)]
    · rfl

theorem unitsFrom_step {s : ByteArray} {p : Nat} (h : p < s.size) : unitsFrom s s.size p = ((Utf8.decode s p).1, p, (Utf8.decode s p).2) :: unitsFrom s s.size (p + (Utf8.decode s p).2) := by
  obtain ⟨h3, h4⟩ := decode_width h
  have e : unitsFrom s s.size p = unitsFrom s (s.size - 1 + 1) p := by rw [Nat.sub_add_cancel (by omega)]
  rw [e]
  simp only [unitsFrom, if_pos h]
  rw [unitsFrom_fuel (s.size - 1) s.size _ (by omega) (by omega)]

/-- Where the iterator stands: what is still to come, the unit in hand first. -/
def Inv (s : ByteArray) (pre : List U) (r at' : Int) (pos : Nat) : Prop :=
  (at' = -1 ∧ pre = [] ∧ pos = 0) ∨ (∃ rn q : Nat, r = rn ∧ at' = q ∧ q < pos ∧ pos ≤ s.size ∧ unitsOf s = pre ++ (rn, q, pos - q) :: unitsFrom s s.size pos)

section
variable {x : Addr} {s : ByteArray} {l : Nat} {J : List U → (Nat → Prop) → World → Prop} {Jx : World → Prop}

theorem eval_bool {nt : Nat} {σ : St} {pre : List U} {a : Act} {w : World} (p : Pt nt x s J σ pre a w) {t : Nat} {b : Bool} (h : σ.T t = .bool b) : a.eval (.tmp t) = .bool b := by
  have h1 := p.rel.tm t
  rw [h] at h1
  exact rep_bool h1

abbrev K10 : List Nat := [100, 101]
theorem keys_S1 {r at' sz : Int} : ∀ κ, ((S1 l s r at' sz).H κ).isSome = true → κ ∈ K10 := fun κ h => by
  by_cases e : κ = 100
  · subst e; simp
  · simp [S1, e] at h
theorem keys_hp {b c : Option Blk} : ∀ κ, ((hp [(100, b), (101, c)]) κ).isSome = true → κ ∈ K10 := fun κ h => by
  by_cases e : κ = 100
  · subst e; simp
  · by_cases e2 : κ = 101
    · subst e2; simp
    · simp [e, e2] at h
theorem keys_hp1 {b : Option Blk} : ∀ κ, ((hp [(100, b)]) κ).isSome = true → κ ∈ K10 := fun κ h => by
  by_cases e : κ = 100
  · subst e; simp
  · simp [e] at h
theorem k10_lt {κ : Nat} (h : κ ∈ K10) : κ < 1000 := by simp at h; omega

theorem units_ok : UnitsOk Tryz.prog 167 := by
  intro s x l J Jx W hxs hsr hc hstep hround h0
  have hs : StepOk J := hstep
  refine callsIn_of_wp (F := Fence.wide) (n := 0) Tryz.func167 rfl trivial ?_ rfl
  obtain ⟨a0, ha0⟩ : ∃ a0 : Act, a0 = { tmps := #[Value.func (.yield l) #[] #[], Value.pointer (some x)] ++ Array.replicate (Tryz.f167.ntmps - (#[Value.func (.yield l) #[] #[], Value.pointer (some x)] : Array Value).size) Go.undef, defers := [] } := ⟨_, rfl⟩
  rw [← ha0]
  have hnt : Tryz.f167.ntmps = 42 := by kernel_rfl
  have hfin : ∀ (a : Act) (w : World), a.defers = [] → ((∃ X, J (unitsOf s) X w) ∨ Jx w) →
      bodyPost Tryz.prog Tryz.f167 (fun e W' => (∃ v, e = .returned v) ∧ ((∃ X, J (unitsOf s) X W') ∨ Jx W')) .normal a w ∧ bodyPost Tryz.prog Tryz.f167 (fun e W' => (∃ v, e = .returned v) ∧ ((∃ X, J (unitsOf s) X W') ∨ Jx W')) .ret a w := fun a w hd h => by
    have hr : ∃ v, (results Tryz.f167 a.tmps).run Tryz.prog w = .ok v w := ⟨_, results_none rfl _ _ _⟩
    obtain ⟨v, hv⟩ := hr
    exact ⟨⟨hd, v, hv, ⟨v, rfl⟩, h⟩, ⟨hd, v, hv, ⟨v, rfl⟩, h⟩⟩
  generalize hQ : bodyPost Tryz.prog Tryz.f167 (fun e W' => (∃ v, e = .returned v) ∧ ((∃ X, J (unitsOf s) X W') ∨ Jx W')) = Q at hfin ⊢
  clear hQ
  -- at the call's begin
  have hG := hc _ _ _ h0
  obtain ⟨p0'⟩ : Nonempty (Pt 42 x s J (S0 l s) [] a0 W) := by
    let G : Ghost := fun y => match laidG y with
      | some v => some v
      | none => if y = x then some (.string s) else none
    have hle : laidG.le G := fun y v hy => by simp only [G, hy]
    have hold : Holds G W := fun y v hy => by
      simp only [G] at hy
      split at hy
      · rename_i u hu; injection hy with hy; subst hy; exact hG.2 y u hu
      · split at hy
        · rename_i e; injection hy with hy; subst hy; subst e; exact hG.1
        · cases hy
    have hstr : G x = some (.string s) := by
      simp only [G]
      split
      · rename_i u hu
        have h1 := hG.2 x u hu
        rw [hG.1] at h1; injection h1 with h1; rw [h1]
      · simp
    refine ⟨⟨⟨fun _ => 0, fun _ => ⟨none, 0, 0, 0⟩⟩, G, fun _ => False, [], ?_, fun κ h => by simp [S0] at h, hstr, fun y hy => ?_, fun κ B b h => by simp [S0] at h, h0⟩⟩
    · refine
      { tm := fun t => ?_, ts := by rw [ha0]; simp [hnt], df := by rw [ha0]; trivial, hp := fun κ B h => by simp [S0] at h, inj := fun κ κ' B B' b h => by simp [S0] at h, cT := fun t κ hκ => ?_,
        cH := fun κ cs h => by simp [S0] at h, hold := hold, lai := hle, gle := .refl _, gnew := fun x hx => .inl hx, fr := fun _ _ _ => rfl, sz := Nat.le_refl _, own := fun κ B b h => by simp [S0] at h, par := fun κ b cs hm => by simp [pbOf] at hm, os := rfl, tape := rfl, output := rfl }
      · rw [ha0, hnt]
        by_cases e0 : t = 0
        · subst e0; simp [S0]; exact .one (.pure (.yfn l))
        · by_cases e1 : t = 1
          · subst e1
            simp [S0]
            have hxe : x = ⟨x.block, x.off, none⟩ := by cases x; simp_all
            rw [hxe]
            exact .one (.pure (.rptr [.str s] x.block x.off (fun _ => .string s) (fun i c h => by
              cases i with
              | zero => rw [Nat.add_zero, ← hxe]; exact hstr
              | succ i => simp at h) (fun i c h => by
              cases i with
              | zero => simp at h; subst h; exact .str s
              | succ i => simp at h)))
          · simp [S0, e0, e1]; exact .undef _
      · by_cases e0 : t = 0
        · subst e0; simp [S0] at hκ
        · by_cases e1 : t = 1
          · subst e1; simp [S0] at hκ
          · simp [S0, e0, e1] at hκ
    · simp only [G] at hy
      split at hy
      · rename_i u hu; exact .inr (.inl (by simp [hu]))
      · split at hy
        · rename_i e; exact .inl e
        · exact absurd rfl hy
  -- the pieces, one behind the other
  have hd0 : a0.defers = [] := by rw [ha0]
  have hK : ∀ {σ : St}, (∀ κ, (σ.H κ).isSome = true → κ ∈ K10) → ∀ κ, (σ.H κ).isSome = true → κ < 1000 := fun h κ hk => k10_lt (h κ hk)
  refine wpIn_seq (F := Fence.wide) ?_
  refine p0'.seg hs hd0 (np := 2) (ic := ua1) (by kernel_rfl) (fun κ h => by simp [S0] at h) ev_a1 keys_S1 (fun e a w he hd ⟨p⟩ => ?_)
  cases e <;> simp only [Fits] at he
  refine wpIn_seq (F := Fence.wide) ?_
  refine wpIn_seq (F := Fence.wide) ?_
  refine p.seg hs hd (np := 101) (ic := ua2) (by kernel_rfl) (fun κ h => by
    by_cases e : κ = 100
    · omega
    · simp [S1, e] at h) ev_a2 keys_hp (fun e a w he hd ⟨p⟩ => ?_)
  cases e <;> simp only [Fits] at he
  clear p0'
  refine wpIn_block (F := Fence.wide) ?_
  refine wp_loop_by (F := Fence.wide) (fun k a w => a.defers = [] ∧ ∃ pre r at' sz pos, Nonempty (Pt 42 x s J (S2 l s r at' sz pos) pre a w) ∧ Inv s pre r at' pos ∧ k = s.size - pos) ?_ (s.size - 0) ⟨hd, [], 0, -1, 0, 0, ⟨p⟩, .inl ⟨rfl, rfl, rfl⟩, rfl⟩
  rintro k a w ⟨hd, pre, r, at', sz, pos, ⟨p⟩, hinv, rfl⟩
  refine wpIn_seq (F := Fence.wide) ?_
  by_cases hpos : pos < s.size
  · obtain ⟨hw1, hw2⟩ := decode_width hpos
    refine p.seg hs hd (np := 1000) (ic := ub2) (by kernel_rfl) (hK keys_hp) (ev_b2 hpos) keys_hp (fun e a w he hd ⟨p⟩ => ?_)
    cases e <;> simp only [Fits] at he
    refine wpIn_seq (F := Fence.wide) (wpIn_cond_true (F := Fence.wide) (eval_bool p rfl) (wpIn_skip (F := Fence.wide) ?_))
    refine wpIn_block (F := Fence.wide) (wpIn_seq (F := Fence.wide) ?_)
    refine p.seg hs hd (np := 1000) (ic := ub3) (by kernel_rfl) (hK keys_hp) ev_b3 keys_hp (fun e a w he hd ⟨p⟩ => ?_)
    cases e <;> simp only [Fits] at he
    refine wpIn_seq (F := Fence.wide) ?_
    refine p.seg hs hd (np := 1000) (ic := ub4) (by kernel_rfl) (hK keys_hp) ev_b4 keys_hp (fun e a w he hd ⟨p⟩ => ?_)
    cases e <;> simp only [Fits] at he
    refine wpIn_seq (F := Fence.wide) (wpIn_seq (F := Fence.wide) ?_)
    have next : ∀ (pre' : List U) (a : Act) (w : World), a.defers = [] → (unitsOf s = pre' ++ ((Utf8.decode s pos).1, pos, pos + (Utf8.decode s pos).2 - pos) :: unitsFrom s s.size (pos + (Utf8.decode s pos).2)) → Nonempty (Pt 42 x s J (S2 l s (Utf8.decode s pos).1 pos 0 (pos + (Utf8.decode s pos).2)) pre' a w) →
        ∃ k', k' < s.size - pos ∧ a.defers = [] ∧ ∃ pre r at' sz pos, Nonempty (Pt 42 x s J (S2 l s r at' sz pos) pre a w) ∧ Inv s pre r at' pos ∧ k' = s.size - pos := fun pre' a w hd hu hp =>
      ⟨_, by omega, hd, pre', _, _, _, _, hp, .inr ⟨_, pos, rfl, rfl, by omega, hw2, hu⟩, rfl⟩
    rcases hinv with ⟨rfl, rfl, rfl⟩ | ⟨rn, q, rfl, rfl, hq, hps, hun⟩
    · refine p.seg hs hd (np := 1000) (ic := ub5n) (by kernel_rfl) (hK keys_hp) ev_b5n keys_hp (fun e a w he hd ⟨p⟩ => ?_)
      cases e <;> simp only [Fits] at he
      refine wpIn_cond_false (F := Fence.wide) (eval_bool p rfl) (wpIn_skip (F := Fence.wide) ?_)
      refine p.seg hs hd (np := 1000) (ic := ub6) (by kernel_rfl) (hK keys_hp) ev_b6n keys_hp (fun e a w he hd hp => ?_)
      cases e <;> simp only [Fits] at he
      refine next [] a w hd ?_ hp
      unfold unitsOf
      rw [unitsFrom_step hpos]
      simp
    · have hsz : IntKind.i64.wrap ((pos : Int) - (q : Int)) = ((pos - q : Nat) : Int) := by
        unfold room at hsr
        rw [wrap64 (by omega) (by omega)]; omega
      rw [hsz] at p
      have hun' : unitsOf s = pre ++ (rn, q, pos - q) :: (((Utf8.decode s pos).1, pos, (Utf8.decode s pos).2) :: unitsFrom s s.size (pos + (Utf8.decode s pos).2)) := by
        rw [hun, unitsFrom_step hpos]
      refine wpIn_region (F := Fence.wide) ?_
      show wpOpsIn (FR none) 0 Tryz.prog _ _ ([0, 1, 2, 3, 4, 5] ++ [6, 7, 8]) a w
      obtain ⟨T, hT, h21, h22, h23, hlow⟩ := ev_b5 (l := l) (s := s) (r := (rn : Int)) (at' := (q : Int)) (sz := ((pos - q : Nat) : Int)) (pos := pos) (pos' := pos + (Utf8.decode s pos).2) (r' := ((Utf8.decode s pos).1 : Int)) (by omega)
      refine p.ops hs hd (np := 1000) (hK keys_hp) (okKs_get (by kernel_rfl)).2 rfl hT keys_hp (fun a w hd ⟨p⟩ => ?_)
      rw [wpOpsIn_cons]
      refine wpOpIn_of rfl (wanted_of p.rel (g := some (21, true)) (by kernel_rfl) (by simp [wantd, h21])) (p.yield hd hc hround hun' (tf := 22) (ta := 23) (d := 24) rfl rfl (by omega) h22 h23 (fun w' ⟨p'⟩ => ?_) (fun w' hj => ?_))
      · show wpOpsIn (FR none) 0 Tryz.prog _ _ ([7, 8] ++ []) _ _
        refine p'.ops hs (by rw [put_defers]; exact hd) (np := 1000) (hK keys_hp) (okKs_get (by kernel_rfl)).2 rfl (ev_b5s (b := true) (by simp [h21]) (by simp)) keys_hp (fun a w hd ⟨p⟩ => ?_)
        show (Code.cond _ _ _).wpIn Fence.wide 0 _ _ _ _
        refine wpIn_cond_false (F := Fence.wide) (eval_bool p (by simp)) (wpIn_skip (F := Fence.wide) ?_)
        refine p.seg hs hd (np := 1000) (ic := ub6) (by kernel_rfl) (hK keys_hp) (ev_b6 (by simp [hlow]; rfl) (by simp [hlow]; rfl) (by simp [hlow]; rfl) (by simp [hlow]; rfl) (by simp [hlow]; rfl) (by simp [hlow]; rfl)) keys_hp (fun e a w he hd hp => ?_)
        cases e <;> simp only [Fits] at he
        refine next (pre ++ [(rn, q, pos - q)]) a w hd ?_ hp
        rw [hun']; simp
      · have hr1 := p.rel.putB (d := 24) (by omega) false
        have hr2 := hr1.putB (d := 25) (by omega) true
        have hr3 := hr2.putB (d := 26) (by omega) true
        rw [wpOpsIn_cons]
        refine wpOpIn_of rfl (wanted_of hr1 (g := some (21, true)) (by kernel_rfl) (by simp [wantd, h21])) (wpIn_not rfl (b := false) (hr1.evalB (by simp)) ?_)
        rw [wpOpsIn_cons]
        refine wpOpIn_of rfl (wanted_of hr2 (g := none) (by kernel_rfl) rfl) (wpIn_pick rfl (b := true) (hr2.evalB (by simp [h21])) ?_)
        have e25 : (((a.put (some 24) (.bool false)).put (some 25) (.bool true)).eval (.tmp 25)) = .bool true := hr2.evalB (by simp)
        show (Code.cond _ _ _).wpIn Fence.wide 0 _ _ (((a.put (some 24) (.bool false)).put (some 25) (.bool true)).put (some 26) (((a.put (some 24) (.bool false)).put (some 25) (.bool true)).eval (.tmp 25))) _
        rw [e25]
        refine wpIn_cond_true (F := Fence.wide) (hr3.evalB (by simp)) (wpIn_ret (F := Fence.wide) ?_)
        exact (hfin _ _ (by rw [put_defers, put_defers, put_defers]; exact hd) (.inr hj)).2
  · refine p.seg hs hd (np := 1000) (ic := ub2) (by kernel_rfl) (hK keys_hp) (ev_b2e hpos) keys_hp (fun e a w he hd ⟨p⟩ => ?_)
    cases e <;> simp only [Fits] at he
    refine wpIn_seq (F := Fence.wide) (wpIn_cond_false (F := Fence.wide) (eval_bool p rfl) (wpIn_exit (F := Fence.wide) ?_))
    show (Code.seq _ _).wpIn Fence.wide 0 _ _ _ _
    refine wpIn_seq (F := Fence.wide) ?_
    refine p.seg hs hd (np := 1000) (ic := uc7) (by kernel_rfl) (hK keys_hp) ev_c7 keys_S1 (fun e a w he hd ⟨p⟩ => ?_)
    cases e <;> simp only [Fits] at he
    refine wpIn_seq (F := Fence.wide) ?_
    refine p.seg hs hd (np := 1000) (ic := uc8) (by kernel_rfl) (hK keys_S1) ev_c8 keys_hp1 (fun e a w he hd hp8 => ?_)
    cases e <;> simp only [Fits] at he
    rcases hinv with ⟨rfl, rfl, rfl⟩ | ⟨rn, q, rfl, rfl, hq, hps, hun⟩
    · obtain ⟨p⟩ := hp8
      refine wpIn_cond_false (F := Fence.wide) (eval_bool p (by simp [S8])) (wpIn_skip (F := Fence.wide) ?_)
      have h0 : s.size = 0 := by omega
      have hu : unitsOf s = [] := by unfold unitsOf; rw [h0]; rfl
      exact (hfin _ _ hd (.inl ⟨p.X, by rw [hu]; exact p.hj⟩)).1
    · obtain ⟨p⟩ := hp8
      refine wpIn_cond_true (F := Fence.wide) (eval_bool p (by simp [S8])) ?_
      have hpe : pos = s.size := by omega
      have hlast : unitsFrom s s.size pos = [] := by
        cases s.size with
        | zero => rfl
        | succ f => simp [unitsFrom, hpos]
      rw [hlast] at hun
      have hsz : IntKind.i64.wrap ((s.size : Int) - (q : Int)) = ((pos - q : Nat) : Int) := by
        unfold room at hsr
        rw [wrap64 (by omega) (by omega)]; omega
      rw [hsz] at p
      refine wpIn_region (F := Fence.wide) ?_
      show wpOpsIn (FR none) 0 Tryz.prog _ _ ([0, 1] ++ [2]) a w
      obtain ⟨T, hT, h39, h40⟩ := ev_c9 (l := l) (s := s) (r := (rn : Int)) (at' := (q : Int)) (sz := ((pos - q : Nat) : Int)) (b := decide ((q : Int) ≥ 0))
      refine p.ops hs hd (np := 1000) (hK keys_hp1) (okKs_get (by kernel_rfl)).2 rfl hT keys_hp1 (fun a w hd ⟨p⟩ => ?_)
      rw [wpOpsIn_cons]
      refine wpOpIn_of rfl (wanted_of p.rel (g := none) (by kernel_rfl) rfl) (p.yield hd hc hround hun (tf := 39) (ta := 40) (d := 41) rfl rfl (by omega) h39 h40 (fun w' ⟨p'⟩ => ?_) (fun w' hj => ?_))
      · exact (hfin _ _ (by rw [put_defers]; exact hd) (.inl ⟨p'.X, by rw [hun]; exact p'.hj⟩)).1
      · exact (hfin _ _ (by rw [put_defers]; exact hd) (.inr hj)).1

end
end Go.Ab
