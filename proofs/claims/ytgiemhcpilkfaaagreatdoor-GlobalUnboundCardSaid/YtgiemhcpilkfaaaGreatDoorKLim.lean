/- The evaluator without fuel: what is answered with some fuel. -/
import Derived.Test.YtgiemhcpilkfaaaGreatDoorK0

namespace Go.Ab
set_option linter.unusedSimpArgs false

def LeC (c c' : CallF) : Prop := ∀ f a r, c f a = some r → c' f a = some r

theorem evCall_mono {c c' : CallF} (h : LeC c c') {H : Hp} {rκ : Option Nat} {f : Nat} {vs : List PV} {r} (he : evCall c H rκ f vs = some r) : evCall c' H rκ f vs = some r := by
  unfold evCall at he ⊢
  split at he
  · rename_i as has
    split at he
    · rename_i res os hc
      simp only [h _ _ _ hc]; exact he
    · cases he
  · cases he

theorem evOp_mono {c c' : CallF} (h : LeC c c') {ρ : Src → PV} {H : Hp} : ∀ {o : IOp} {r}, evOp c ρ H o = some r → evOp c' ρ H o = some r := by
  intro o r he
  cases o
  case call rκ f args => exact evCall_mono h he
  case callv x fs args =>
    simp only [evOp] at he ⊢
    split at he
    · split at he
      · rename_i hf; rw [if_pos hf]; exact evCall_mono h he
      · cases he
    · split at he
      · rename_i hf; rw [if_pos hf]; exact evCall_mono h he
      · cases he
    · cases he
  all_goals exact he

theorem evOper_mono {c c' : CallF} (h : LeC c c') {o : IOper} {σ σ' : St} (he : evOper c o σ = some σ') : evOper c' o σ = some σ' := by
  unfold evOper at he ⊢
  split at he
  · cases he
  · exact he
  · split at he
    · rename_i v us hv
      rw [evOp_mono h hv]; exact he
    · cases he

theorem evOps_mono {c c' : CallF} (h : LeC c c') : ∀ {os : List IOper} {σ σ' : St}, evOps c os σ = some σ' → evOps c' os σ = some σ'
  | [], σ, σ', he => he
  | o :: os, σ, σ', he => by
    simp only [evOps] at he ⊢
    split at he
    · rename_i σ1 h1
      rw [evOper_mono h h1]; exact evOps_mono h he
    · cases he

theorem loopN_mono {lt lk : List Nat} {b b' : St → Option (IX × St)} (h : ∀ σ r, b σ = some r → b' σ = some r) : ∀ {n m : Nat} {σ r}, n ≤ m → loopN lt lk b n σ = some r → loopN lt lk b' m σ = some r
  | 0, _, _, _, _, he => by simp [loopN] at he
  | n + 1, 0, _, _, hl, _ => by omega
  | n + 1, m + 1, σ, r, hl, he => by
    simp only [loopN] at he ⊢
    split at he
    · rename_i σ₀ h0
      split at he
      · rename_i σ1 h1
        rw [h _ _ h1]
        exact loopN_mono h (by omega) he
      · rename_i hne
        rw [h _ _ he]
        split
        · rename_i σ1 h1; injection h1 with h1; exact absurd (by rw [he, h1]) (hne σ1)
        · rfl
    · cases he

theorem roundsN_mono {lt lk : List Nat} {p : Nat} {ea eb ea' eb' : St → Option (IX × St)} (h1 : ∀ σ r, ea σ = some r → ea' σ = some r) (h2 : ∀ σ r, eb σ = some r → eb' σ = some r) :
    ∀ {us : List U} {σ r}, roundsN lt lk p ea eb us σ = some r → roundsN lt lk p ea' eb' us σ = some r
  | [], _, _, he => he
  | u :: us, σ, r, he => by
    simp only [roundsN] at he ⊢
    split at he
    · rename_i σ1 e1
      simp only [h1 _ _ e1]
      split at he
      · rename_i x σ2 e2
        simp only [h2 _ _ e2]
        split at he
        · rename_i hk
          rw [if_pos hk]
          split at he
          · rename_i σ3 e3
            cases x with
            | normal => exact roundsN_mono h1 h2 he
            | _ => exact he
          · cases he
        · cases he
      · cases he
    · cases he

theorem runU_mono {g : Nat} {x : Src} {lt lk : List Nat} {p : Nat} {ea eb ea' eb' : St → Option (IX × St)} (h1 : ∀ σ r, ea σ = some r → ea' σ = some r) (h2 : ∀ σ r, eb σ = some r → eb' σ = some r) {σ r} (he : runU g x lt lk p ea eb σ = some r) :
    runU g x lt lk p ea' eb' σ = some r := by
  unfold runU at he ⊢
  split at he
  · rename_i f s hv
    split at he
    · rename_i hf
      rw [if_pos hf]
      split at he
      · rename_i σ0 h0
        split at he
        · rename_i hs
          rw [if_pos hs]; exact roundsN_mono h1 h2 he
        · cases he
      · cases he
    · cases he
  · cases he

theorem ev_mono {c c' : CallF} (h : LeC c c') {n m : Nat} (hn : n ≤ m) : ∀ {i : IC} {σ r}, ev c n i σ = some r → ev c' m i σ = some r := by
  intro i
  induction i with
  | skip => intro σ r he; exact he
  | region ops d =>
    intro σ r he
    simp only [ev] at he ⊢
    split at he
    · rename_i σ1 h1; rw [evOps_mono h h1]; exact he
    · cases he
  | seq a b iha ihb =>
    intro σ r he
    simp only [ev] at he ⊢
    split at he
    · rename_i σ1 h1; rw [iha h1]; exact ihb he
    · rename_i hne; rw [iha he]
      split
      · rename_i σ1 h1; injection h1 with h1; exact absurd (by rw [he, h1]) (hne σ1)
      · rfl
  | cond y a b iha ihb =>
    intro σ r he
    simp only [ev] at he ⊢
    split at he
    · split at he
      · rename_i ht; rw [if_pos ht]; exact iha he
      · rename_i ht; rw [if_neg ht]; exact ihb he
    · cases he
  | block id a ih =>
    intro σ r he
    simp only [ev] at he ⊢
    split at he
    · rename_i j σ1 h1; rw [ih h1]; exact he
    · rename_i hne; rw [ih he]
      split
      · rename_i j σ1 h1; injection h1 with h1; exact absurd (by rw [he, h1]) (hne j σ1)
      · rfl
  | loop lt lk a ih =>
    intro σ r he
    simp only [ev] at he ⊢
    exact loopN_mono (fun σ r => ih) hn he
  | exit id => intro σ r he; exact he
  | ret => intro σ r he; exact he
  | scope a ih => intro σ r he; exact ih he
  | gmask lt lk a ih =>
    intro σ r he
    simp only [ev] at he ⊢
    split at he
    · rename_i σ1 h1; exact ih he
    · cases he
  | gpost lt lk a ih =>
    intro σ r he
    simp only [ev] at he ⊢
    split at he
    · rename_i σ1 h1; rw [ih h1]; exact he
    · rename_i hne; rw [ih he]
      split
      · rename_i σ1 h1; injection h1 with h1; exact absurd (by rw [he, h1]) (hne σ1)
      · rfl
  | gadopt kb off κ sz a ih =>
    intro σ r he
    simp only [ev] at he ⊢
    split at he
    · rename_i σ1 h1; exact ih he
    · cases he
  | runits g x lt lk p npb a b iha ihb =>
    intro σ r he
    simp only [ev] at he ⊢
    exact runU_mono (fun σ r => iha) (fun σ r => ihb) he

theorem finish_some {F : IFunc} {args : List PV} {x : Option (IX × St)} {r} (h : finish F args x = some r) : ∃ y, x = some y := by
  cases x with
  | none => simp [finish] at h
  | some y => exact ⟨y, rfl⟩

section
variable {prog : Nat → Option IFunc}

/-- No functions at all. -/
def p0 : Nat → Option IFunc := fun _ => none

theorem callN_eq {n f : Nat} {args : List PV} : callN prog (n + 1) f args = (match prog f with
    | some F => match F.prim with
      | some g => match g args with
        | some r => some (r, [])
        | none => none
      | none => if args.length = F.np then finish F args (ev (callN prog n) n F.body ⟨enterT 0 args, enterH 0 args⟩) else none
    | none => none) := rfl

theorem callN_succ : ∀ n, LeC (callN prog n) (callN prog (n + 1))
  | 0 => fun f a r h => by simp [callN] at h
  | n + 1 => fun f a r h => by
    rw [callN_eq] at h ⊢
    split at h
    · rename_i F hF
      cases hp : F.prim with
      | some g => rw [hp] at h; exact h
      | none =>
        rw [hp] at h
        simp only at h ⊢
        split at h
        · rename_i hl
          rw [if_pos hl]
          obtain ⟨y, hy⟩ := finish_some h
          rw [ev_mono (callN_succ n) (Nat.le_succ n) hy]
          rw [hy] at h; exact h
        · cases h
    · cases h

theorem callN_mono {n m : Nat} (h : n ≤ m) : LeC (callN prog n) (callN prog m) := by
  induction h with
  | refl => exact fun _ _ _ h => h
  | step _ ih => exact fun f a r h => callN_succ _ f a r (ih f a r h)

/-! ### Limits -/

open Classical in
noncomputable def lim {α : Type} (f : Nat → Option α) : Option α := if h : ∃ n r, f n = some r then some h.choose_spec.choose else none

theorem lim_iff {α : Type} {f : Nat → Option α} (hm : ∀ n m r, n ≤ m → f n = some r → f m = some r) {r : α} : lim f = some r ↔ ∃ n, f n = some r := by
  unfold lim
  constructor
  · intro h
    split at h
    · rename_i he
      injection h with h
      exact ⟨_, by rw [← h]; exact he.choose_spec.choose_spec⟩
    · cases h
  · rintro ⟨n, hn⟩
    have he : ∃ n r, f n = some r := ⟨n, r, hn⟩
    rw [dif_pos he]
    have h2 := he.choose_spec.choose_spec
    have e1 := hm _ (max n he.choose) _ (Nat.le_max_left ..) hn
    have e2 := hm _ (max n he.choose) _ (Nat.le_max_right ..) h2
    rw [e1] at e2; injection e2 with e2; rw [e2]

noncomputable def callV (prog : Nat → Option IFunc) : CallF := fun f args => lim (fun n => callN prog n f args)

theorem callV_iff {f : Nat} {args : List PV} {r} : callV prog f args = some r ↔ ∃ n, callN prog n f args = some r :=
  lim_iff (fun _ _ _ h he => callN_mono h _ _ _ he)

noncomputable def loopV (lt lk : List Nat) (b : St → Option (IX × St)) (σ : St) : Option (IX × St) := lim (fun n => loopN lt lk b n σ)

theorem loopV_iff {lt lk : List Nat} {b : St → Option (IX × St)} {σ : St} {r} : loopV lt lk b σ = some r ↔ ∃ n, loopN lt lk b n σ = some r :=
  lim_iff (fun _ _ _ h he => loopN_mono (fun _ _ h => h) h he)

theorem loopV_eq {lt lk : List Nat} {b : St → Option (IX × St)} {σ : St} : loopV lt lk b σ = (match mask lt lk σ with
    | some σ₀ => match b σ₀ with
      | some (.normal, σ') => loopV lt lk b σ'
      | r => r
    | none => none) := by
  apply Option.ext
  intro r
  rw [loopV_iff]
  constructor
  · rintro ⟨n, hn⟩
    cases n with
    | zero => simp [loopN] at hn
    | succ n =>
      simp only [loopN] at hn
      cases h0 : mask lt lk σ with
      | none => rw [h0] at hn; cases hn
      | some σ₀ =>
        simp only [h0] at hn ⊢
        split at hn
        · rename_i σ1 h1; simp only [h1]; exact loopV_iff.2 ⟨n, hn⟩
        · rename_i hne
          split
          · rename_i σ1 h1; exact absurd h1 (hne σ1)
          · exact hn
  · intro h
    cases h0 : mask lt lk σ with
    | none => rw [h0] at h; cases h
    | some σ₀ =>
      simp only [h0] at h
      split at h
      · rename_i σ1 h1
        obtain ⟨n, hn⟩ := loopV_iff.1 h
        exact ⟨n + 1, by simp only [loopN, h0, h1]; exact hn⟩
      · rename_i hne
        refine ⟨1, ?_⟩
        simp only [loopN, h0]
        exact h

noncomputable def evV (prog : Nat → Option IFunc) : IC → St → Option (IX × St)
  | .skip, σ => some (.normal, σ)
  | .region ops _, σ => match evOps (callV prog) ops σ with
    | some σ' => some (.normal, σ')
    | none => none
  | .seq a b, σ => match evV prog a σ with
    | some (.normal, σ') => evV prog b σ'
    | r => r
  | .cond c a b, σ => match val σ.T c with
    | .bool t => if t then evV prog a σ else evV prog b σ
    | _ => none
  | .block id c, σ => match evV prog c σ with
    | some (.exit j, σ') => if j = id then some (.normal, σ') else some (.exit j, σ')
    | r => r
  | .loop lt lk c, σ => loopV lt lk (evV prog c) σ
  | .exit id, σ => some (.exit id, σ)
  | .ret, σ => some (.ret, σ)
  | .scope c, σ => evV prog c σ
  | .gmask lt lk c, σ => match mask lt lk σ with
    | some σ' => evV prog c σ'
    | none => none
  | .gpost lt lk c, σ => match evV prog c σ with
    | some (.normal, σ') => match mask lt lk σ' with
      | some σ'' => some (.normal, σ'')
      | none => none
    | r => r
  | .gadopt kb off κ sz c, σ => match adopt kb off κ sz σ with
    | some σ' => evV prog c σ'
    | none => none
  | .runits g x lt lk p _ ia ib, σ => runU g x lt lk p (evV prog ia) (evV prog ib) σ

theorem evCall_lim {H : Hp} {rκ : Option Nat} {f : Nat} {vs : List PV} {r} (he : evCall (callV prog) H rκ f vs = some r) : ∃ n, evCall (callN prog n) H rκ f vs = some r := by
  unfold evCall at he
  split at he
  · rename_i as has
    split at he
    · rename_i res os hc
      obtain ⟨n, hn⟩ := callV_iff.1 hc
      exact ⟨n, by unfold evCall; simp only [has, hn]; exact he⟩
    · cases he
  · cases he

theorem evOp_lim {ρ : Src → PV} {H : Hp} : ∀ {o : IOp} {r}, evOp (callV prog) ρ H o = some r → ∃ n, evOp (callN prog n) ρ H o = some r := by
  intro o r he
  cases o
  case call rκ f args => exact evCall_lim he
  case callv x fs args =>
    simp only [evOp] at he ⊢
    split at he
    · split at he
      · rename_i hf
        obtain ⟨n, hn⟩ := evCall_lim he
        exact ⟨n, by rw [if_pos hf]; exact hn⟩
      · cases he
    · split at he
      · rename_i hf
        obtain ⟨n, hn⟩ := evCall_lim he
        exact ⟨n, by rw [if_pos hf]; exact hn⟩
      · cases he
    · cases he
  all_goals exact ⟨0, he⟩

theorem evOper_lim {o : IOper} {σ σ' : St} (he : evOper (callV prog) o σ = some σ') : ∃ n, evOper (callN prog n) o σ = some σ' := by
  unfold evOper at he
  split at he
  · cases he
  · rename_i hw; injection he with he; exact ⟨0, by unfold evOper; rw [hw, he]⟩
  · rename_i hw
    split at he
    · rename_i v us hv
      obtain ⟨n, hn⟩ := evOp_lim hv
      exact ⟨n, by unfold evOper; rw [hw]; simp only [hn]; exact he⟩
    · cases he

theorem evOps_lim : ∀ {os : List IOper} {σ σ' : St}, evOps (callV prog) os σ = some σ' → ∃ n, evOps (callN prog n) os σ = some σ'
  | [], σ, σ', he => ⟨0, he⟩
  | o :: os, σ, σ', he => by
    simp only [evOps] at he
    split at he
    · rename_i σ1 h1
      obtain ⟨n, hn⟩ := evOper_lim h1
      obtain ⟨m, hm⟩ := evOps_lim he
      refine ⟨max n m, ?_⟩
      simp only [evOps, evOper_mono (callN_mono (Nat.le_max_left n m)) hn]
      exact evOps_mono (callN_mono (Nat.le_max_right n m)) hm
    · cases he

theorem up {i : IC} {n m : Nat} {σ r} (h : n ≤ m) (he : ev (callN prog n) n i σ = some r) : ev (callN prog m) m i σ = some r := ev_mono (callN_mono h) h he

theorem evV_lim : ∀ {i : IC} {σ r}, evV prog i σ = some r → ∃ n, ev (callN prog n) n i σ = some r := by
  intro i
  induction i with
  | skip => intro σ r he; exact ⟨0, he⟩
  | region ops d =>
    intro σ r he
    simp only [evV] at he
    split at he
    · rename_i σ1 h1
      obtain ⟨n, hn⟩ := evOps_lim h1
      exact ⟨n, by simp only [ev, hn]; exact he⟩
    · cases he
  | seq a b iha ihb =>
    intro σ r he
    simp only [evV] at he
    split at he
    · rename_i σ1 h1
      obtain ⟨n, hn⟩ := iha h1
      obtain ⟨m, hm⟩ := ihb he
      exact ⟨max n m, by simp only [ev, up (Nat.le_max_left n m) hn]; exact up (Nat.le_max_right n m) hm⟩
    · rename_i hne
      obtain ⟨n, hn⟩ := iha he
      refine ⟨n, ?_⟩
      simp only [ev, hn]
      split
      · rename_i σ1 h1; injection h1 with h1; exact absurd (by rw [he, h1]) (hne σ1)
      · rfl
  | cond y a b iha ihb =>
    intro σ r he
    simp only [evV] at he
    split at he
    · rename_i t ht
      split at he
      · rename_i hb; obtain ⟨n, hn⟩ := iha he; exact ⟨n, by simp only [ev, ht]; rw [if_pos hb]; exact hn⟩
      · rename_i hb; obtain ⟨n, hn⟩ := ihb he; exact ⟨n, by simp only [ev, ht]; rw [if_neg hb]; exact hn⟩
    · cases he
  | block id a ih =>
    intro σ r he
    simp only [evV] at he
    split at he
    · rename_i j σ1 h1; obtain ⟨n, hn⟩ := ih h1; exact ⟨n, by simp only [ev, hn]; exact he⟩
    · rename_i hne
      obtain ⟨n, hn⟩ := ih he
      refine ⟨n, ?_⟩
      simp only [ev, hn]
      split
      · rename_i j σ1 h1; injection h1 with h1; exact absurd (by rw [he, h1]) (hne j σ1)
      · rfl
  | loop lt lk a ih =>
    intro σ r he
    simp only [evV] at he
    obtain ⟨k, hk⟩ := loopV_iff.1 he
    have key : ∀ k σ, loopN lt lk (evV prog a) k σ = some r → ∃ n, loopN lt lk (ev (callN prog n) n a) n σ = some r := by
      intro k
      induction k with
      | zero => intro σ h; simp [loopN] at h
      | succ k ihk =>
        intro σ h
        simp only [loopN] at h
        split at h
        · rename_i σ₀ h0
          split at h
          · rename_i σ1 h1
            obtain ⟨n, hn⟩ := ih h1
            obtain ⟨m, hm⟩ := ihk _ h
            refine ⟨max n m + 1, ?_⟩
            simp only [loopN, h0, up (Nat.le_succ_of_le (Nat.le_max_left n m)) hn]
            exact loopN_mono (fun σ r h => up (Nat.le_succ_of_le (Nat.le_max_right n m)) h) (Nat.le_max_right n m) hm
          · rename_i hne
            obtain ⟨n, hn⟩ := ih h
            refine ⟨n + 1, ?_⟩
            simp only [loopN, h0, up (Nat.le_succ n) hn]
            split
            · rename_i σ1 h1; injection h1 with h1; exact absurd (by rw [h, h1]) (hne σ1)
            · rfl
        · cases h
    obtain ⟨n, hn⟩ := key k σ hk
    exact ⟨n, by simp only [ev]; exact hn⟩
  | exit id => intro σ r he; exact ⟨0, he⟩
  | ret => intro σ r he; exact ⟨0, he⟩
  | scope a ih => intro σ r he; exact ih he
  | gmask lt lk a ih =>
    intro σ r he
    simp only [evV] at he
    split at he
    · rename_i σ1 h1; obtain ⟨n, hn⟩ := ih he; exact ⟨n, by simp only [ev, h1]; exact hn⟩
    · cases he
  | gpost lt lk a ih =>
    intro σ r he
    simp only [evV] at he
    split at he
    · rename_i σ1 h1; obtain ⟨n, hn⟩ := ih h1; exact ⟨n, by simp only [ev, hn]; exact he⟩
    · rename_i hne
      obtain ⟨n, hn⟩ := ih he
      refine ⟨n, ?_⟩
      simp only [ev, hn]
      split
      · rename_i σ1 h1; injection h1 with h1; exact absurd (by rw [he, h1]) (hne σ1)
      · rfl
  | gadopt kb off κ sz a ih =>
    intro σ r he
    simp only [evV] at he
    split at he
    · rename_i σ1 h1; obtain ⟨n, hn⟩ := ih he; exact ⟨n, by simp only [ev, h1]; exact hn⟩
    · cases he
  | runits g x lt lk p npb a b iha ihb =>
    intro σ r he
    simp only [evV] at he
    have key : ∀ us σ, roundsN lt lk p (evV prog a) (evV prog b) us σ = some r → ∃ n, roundsN lt lk p (ev (callN prog n) n a) (ev (callN prog n) n b) us σ = some r := by
      intro us
      induction us with
      | nil => intro σ h; exact ⟨0, h⟩
      | cons u us ihu =>
        intro σ h
        simp only [roundsN] at h
        split at h
        · rename_i σ1 e1
          obtain ⟨n1, hn1⟩ := iha e1
          split at h
          · rename_i y σ2 e2
            obtain ⟨n2, hn2⟩ := ihb e2
            split at h
            · rename_i hk
              split at h
              · rename_i σ3 e3
                cases y with
                | normal =>
                  obtain ⟨n3, hn3⟩ := ihu _ h
                  refine ⟨max n1 (max n2 n3), ?_⟩
                  simp only [roundsN, up (show n1 ≤ max n1 (max n2 n3) by omega) hn1, up (show n2 ≤ max n1 (max n2 n3) by omega) hn2, hk, if_true, e3]
                  exact roundsN_mono (fun σ r h => up (show n3 ≤ max n1 (max n2 n3) by omega) h) (fun σ r h => up (show n3 ≤ max n1 (max n2 n3) by omega) h) hn3
                | _ =>
                  refine ⟨max n1 n2, ?_⟩
                  simp only [roundsN, up (show n1 ≤ max n1 n2 by omega) hn1, up (show n2 ≤ max n1 n2 by omega) hn2, hk, if_true, e3]
                  exact h
              · cases h
            · cases h
          · cases h
        · cases h
    unfold runU at he
    split at he
    · rename_i f s hv
      split at he
      · rename_i hf
        split at he
        · rename_i σ0 h0
          split at he
          · rename_i hs
            obtain ⟨n, hn⟩ := key _ _ he
            refine ⟨n, ?_⟩
            simp only [ev, runU, hv]
            rw [if_pos hf]
            simp only [h0, hs, if_true]
            exact hn
          · cases he
        · cases he
      · cases he
    · cases he

/-- A function's equation. -/
theorem callV_of {f : Nat} {F : IFunc} (hF : prog f = some F) (hp : F.prim = none) {args : List PV} (hl : args.length = F.np) {r} (h : finish F args (evV prog F.body ⟨enterT 0 args, enterH 0 args⟩) = some r) : callV prog f args = some r := by
  obtain ⟨y, hy⟩ := finish_some h
  obtain ⟨n, hn⟩ := evV_lim hy
  refine callV_iff.2 ⟨n + 1, ?_⟩
  rw [callN_eq, hF]
  simp only [hp, hl, if_true, hn]
  rw [hy] at h; exact h

/-- A function that is given whole. -/
theorem callV_prim {f : Nat} {F : IFunc} (hF : prog f = some F) {g : List PV → Option PV} (hp : F.prim = some g) {args : List PV} {r} (h : g args = some r) : callV prog f args = some (r, []) := by
  refine callV_iff.2 ⟨1, ?_⟩
  rw [callN_eq, hF]
  simp only [hp, h]

end
end Go.Ab
