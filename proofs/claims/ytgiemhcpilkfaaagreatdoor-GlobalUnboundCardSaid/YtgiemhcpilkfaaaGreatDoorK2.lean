/- A call, out of the callee's word. And what follows from it, part by part. -/
import Derived.Test.YtgiemhcpilkfaaaGreatDoorK1
import Derived.CallsIn
import Derived.Scope
import Derived.OrdersIn
import Derived.RangeFuncRecord
import Derived.RangeFuncLeaves

/- Part Call. -/
namespace Go.Ab
open Go
set_option linter.unusedSimpArgs false

/-- A block's cells, plain. -/
def CellsAt (G : Ghost) (w : World) (b : Nat) (cs : List PV) : Prop :=
  ∃ vals elem, w.heap[b]? = some (.cells vals elem (0, 0)) ∧ cs.length = vals.size ∧ (∀ (i : Nat) c v, cs[i]? = some c → vals[i]? = some v → RepC G c v) ∧ GFree G b

inductive ArgsRep (G : Ghost) (w : World) : List PV → List Value → List Nat → Prop
  | nil : ArgsRep G w [] [] []
  | plain (p : PV) (v : Value) (ps : List PV) (vs : List Value) (bs : List Nat) (h : RepP G p v) (hr : ArgsRep G w ps vs bs) : ArgsRep G w (p :: ps) (v :: vs) bs
  | boxed (cs : List PV) (b : Nat) (ps : List PV) (vs : List Value) (bs : List Nat) (h : CellsAt G w b cs) (hr : ArgsRep G w ps vs bs) : ArgsRep G w (.boxed cs :: ps) (.pointer (some ⟨b, 0, none⟩) :: vs) (b :: bs)

inductive OutsRep (G : Ghost) (w : World) : List (List PV) → List Nat → Prop
  | nil : OutsRep G w [] []
  | cons (cs : List PV) (b : Nat) (os : List (List PV)) (bs : List Nat) (h : CellsAt G w b cs) (hr : OutsRep G w os bs) : OutsRep G w (cs :: os) (b :: bs)

inductive ResRep (G : Ghost) (w w' : World) : PV → Value → Prop
  | plain (p : PV) (v : Value) (h : RepP G p v) : ResRep G w w' p v
  | boxed (cs : List PV) (b : Nat) (hb : w.heap.size ≤ b) (h : CellsAt G w' b cs) : ResRep G w w' (.boxed cs) (.pointer (some ⟨b, 0, none⟩))
  | tuple (ps : List PV) (vs : Array Value) (hl : ps.length = vs.size) (h : ∀ (i : Nat) p v, ps[i]? = some p → vs[i]? = some v → RepP G p v) : ResRep G w w' (.tuple ps) (.tuple vs)

/-- What a call comes to. -/
structure Post (G : Ghost) (w : World) (bs : List Nat) (res : PV) (os : List (List PV)) (v : Value) (G' : Ghost) (w' : World) : Prop where
  gle : G.le G'
  hold : Holds G' w'
  gnew : ∀ x, G' x ≠ none → G x ≠ none ∨ w.heap.size ≤ x.block
  res : ResRep G' w w' res v
  outs : OutsRep G' w' os bs
  fr : ∀ b, b < w.heap.size → b ∉ bs → w'.heap[b]? = w.heap[b]?
  size : w.heap.size ≤ w'.heap.size
  os : w'.os = w.os
  tape : w'.tape = w.tape
  output : w'.output = w.output

def CallsPost (P : Program) (f : Nat) (vals : Array Value) (G : Ghost) (w : World) (bs : List Nat) (res : PV) (os : List (List PV)) : Prop :=
  Calls P f vals w fun e w' => ∃ v G', e = .returned v ∧ Post G w bs res os v G' w'

def CallOk (P : Program) (call : CallF) : Prop :=
  ∀ f args res os, call f args = some (res, os) → ∀ (w : World) (G : Ghost) (vals : Array Value) (bs : List Nat), laidG.le G → Holds G w → ArgsRep G w args vals.toList bs → bs.Nodup → CallsPost P f vals G w bs res os

section
variable {nt : Nat} {base : World} {pb : List (Nat × Nat)} {G0 : Ghost} {P : Program} {T : Tm} {H : Hp} {E : Env} {G : Ghost} {a : Act} {w : World}

/-- The caller's values, as the callee reads them. -/
inductive ValsRep (E : Env) (G : Ghost) (H : Hp) : List PV → List Value → Prop
  | nil : ValsRep E G H [] []
  | cons (p : PV) (v : Value) (ps : List PV) (vs : List Value) (h : Rep E G p v) (hc : Cl H p) (hr : ValsRep E G H ps vs) : ValsRep E G H (p :: ps) (v :: vs)

theorem ValsRep.mono {E : Env} {G G' : Ghost} {H H' : Hp} (hg : G.le G') (hH : ∀ p, Cl H p → Cl H' p) : ∀ {ps : List PV} {vs : List Value}, ValsRep E G H ps vs → ValsRep E G' H' ps vs
  | _, _, .nil => .nil
  | _, _, .cons p v ps vs h hc hr => .cons p v ps vs (h.mono hg) (hH p hc) (hr.mono hg hH)

theorem frz_box {h : Hp} (hs : Sees h H) {κ : Nat} {cs : List PV} (hk : h κ = some (.box cs)) : H κ = some (.box cs) := hs.2 κ _ hk (fun _ _ _ e => by cases e)

theorem lend_plain {h : Hp} {p q : PV} (hl : lend h p = some q) (hn : ∀ κ off, p ≠ .ptr κ off) : pur h true p = some q ∧ lentKeys h p = refs p ∧ boxKey p = [] := by
  cases p with
  | ptr κ off => exact absurd rfl (hn κ off)
  | _ => exact ⟨hl, rfl, rfl⟩

theorem pur_notboxed {h : Hp} {p q : PV} (hp : pur h true p = some q) : ∀ cs, q ≠ .boxed cs := by
  intro cs e; subst e
  cases p <;> simp only [pur, purC] at hp <;> first
    | (cases hp; done)
    | (split at hp <;> first | (split at hp <;> first | (injection hp with hp; cases hp; done) | (cases hp; done)) | (injection hp with hp; cases hp; done) | (cases hp; done))
    | (injection hp with hp; cases hp; done)

theorem lends_args (h : Rel nt base pb G0 ⟨T, H⟩ E G a w) {hh : Hp} (hs : Sees hh H) : ∀ {ps : List PV} {vs : List Value} {as : List PV}, ValsRep E G H ps vs → lends hh ps = some as → OpenAll E G hh (ps.flatMap (lentKeys hh)) →
    ∃ bs, ArgsRep G w as vs bs ∧ bs = (ps.flatMap boxKey).map E.bx ∧ (∀ κ ∈ ps.flatMap boxKey, ∃ cs, H κ = some (.box cs))
  | _, _, as, .nil, hl, _ => by
    simp only [lends, Option.some.injEq] at hl; subst hl
    exact ⟨[], .nil, rfl, fun κ hk => by cases hk⟩
  | _, _, as, .cons p v ps vs hp hc hr, hl, ho => by
    simp only [lends] at hl
    split at hl
    · rename_i q hq
      split at hl
      · rename_i qs hqs
        injection hl with hl; subst hl
        obtain ⟨bs, h1, h2, h3⟩ := lends_args h hs hr hqs (fun κ hk => ho κ (by rw [List.flatMap_cons]; exact List.mem_append_right _ hk))
        have ho1 : OpenAll E G hh (lentKeys hh p) := fun κ hk => ho κ (by rw [List.flatMap_cons]; exact List.mem_append_left _ hk)
        by_cases hptr : ∃ κ off, p = .ptr κ off
        · obtain ⟨κ, off, rfl⟩ := hptr
          simp only [lend] at hq
          split at hq
          · rename_i h0; subst h0
            split at hq
            · rename_i cs hk
              split at hq
              · rename_i qcs hpur
                injection hq with hq; subst hq
                have hH := frz_box hs hk
                obtain ⟨vals, elem, hw, hl, hrr, hf⟩ := h.hp κ _ hH
                have hve : v = .pointer (some ⟨E.bx κ, 0, none⟩) := by cases hp with | one hp => cases hp with | pure r => cases r | ptr κ off => rfl
                subst hve
                obtain ⟨hl', hr'⟩ := purCs_get hpur
                refine ⟨E.bx κ :: bs, .boxed qcs _ _ _ _ ⟨vals, elem, hw, by omega, fun i c u hi hu => ?_, hf⟩ h1, by simp [boxKey, h2], fun κ' hk' => ?_⟩
                · obtain ⟨d, hd, hpd⟩ := hr' i c hi
                  refine purC_rep hpd (hrr i d u hd hu) (.refl G) fun κ' hκ' => ho1 κ' ?_
                  simp only [lentKeys, hk]
                  exact List.mem_flatMap.2 ⟨d, List.mem_of_getElem? hd, hκ'⟩
                · rw [List.flatMap_cons] at hk'
                  rcases List.mem_append.1 hk' with hk' | hk'
                  · simp [boxKey] at hk'; subst hk'; exact ⟨cs, hH⟩
                  · exact h3 κ' hk'
              · cases hq
            · cases hq
          · cases hq
        · have hn : ∀ κ off, p ≠ .ptr κ off := fun κ off e => hptr ⟨κ, off, e⟩
          obtain ⟨e1, e2, e3⟩ := lend_plain hq hn
          rw [e2] at ho1
          refine ⟨bs, .plain _ _ _ _ _ (pur_rep e1 hp (.refl G) ho1) h1, by simp [e3, h2], fun κ' hk' => ?_⟩
          rw [List.flatMap_cons, e3, List.nil_append] at hk'
          exact h3 κ' hk'
      · cases hl
    · cases hl

theorem outUps_get : ∀ {ks : List Nat} {os : List (List PV)} {us : List (Nat × Blk)}, outUps ks os = some us → us.map (·.1) = ks ∧ us.map (·.2) = os.map Blk.box
  | [], [], us, h => by simp only [outUps, Option.some.injEq] at h; subst h; exact ⟨rfl, rfl⟩
  | [], _ :: _, us, h => by simp [outUps] at h
  | _ :: _, [], us, h => by simp [outUps] at h
  | κ :: ks, cs :: os, us, h => by
    simp only [outUps] at h
    split at h
    · rename_i u hu
      injection h with h; subst h
      obtain ⟨h1, h2⟩ := outUps_get hu
      exact ⟨by simp [h1], by simp [h2]⟩
    · cases h

theorem ups_other : ∀ (us : List (Nat × Blk)) (H : Hp) (κ : Nat), κ ∉ us.map (·.1) → ups H us κ = H κ
  | [], _, _, _ => rfl
  | (k, b) :: l, H, κ, hκ => by
    simp only [List.map_cons, List.mem_cons, not_or] at hκ
    show ups (upd H k (some b)) l κ = H κ
    rw [ups_other l _ κ hκ.2, upd_ne _ _ hκ.1]

theorem outUps_box : ∀ {ks : List Nat} {os : List (List PV)} {us : List (Nat × Blk)} {H : Hp} {κ : Nat}, outUps ks os = some us → (∃ cs, H κ = some (.box cs)) → ∃ cs, ups H us κ = some (.box cs)
  | [], [], us, H, κ, hu, hb => by simp only [outUps, Option.some.injEq] at hu; subst hu; exact hb
  | [], _ :: _, us, H, κ, hu, _ => by simp [outUps] at hu
  | _ :: _, [], us, H, κ, hu, _ => by simp [outUps] at hu
  | k :: ks, cs :: os, us, H, κ, hu, hb => by
    simp only [outUps] at hu
    split at hu
    · rename_i u hu'
      injection hu with hu; subst hu
      refine outUps_box (H := upd H k (some (.box cs))) hu' ?_
      by_cases e : κ = k
      · subst e; exact ⟨cs, upd_same _ _ _⟩
      · rw [upd_ne _ _ e]; exact hb
    · cases hu

theorem outUps_cells {G' : Ghost} {w' : World} {E : Env} : ∀ {ks : List Nat} {os : List (List PV)} {us : List (Nat × Blk)} {H : Hp} {κ : Nat}, outUps ks os = some us → OutsRep G' w' os (ks.map E.bx) → κ ∈ ks →
    ∃ cs, ups H us κ = some (.box cs) ∧ CellsAt G' w' (E.bx κ) cs
  | [], _, us, H, κ, _, _, hκ => by cases hκ
  | k :: ks, [], us, H, κ, hu, _, _ => by simp [outUps] at hu
  | k :: ks, cs :: os, us, H, κ, hu, ho, hκ => by
    cases ho with
    | cons cs b os bs hc hr =>
      simp only [outUps] at hu
      split at hu
      · rename_i u hu'
        injection hu with hu; subst hu
        by_cases hm : κ ∈ ks
        · exact outUps_cells (H := upd H k (some (.box cs))) hu' hr hm
        · have e : κ = k := by
            rcases List.mem_cons.1 hκ with e | e
            · exact e
            · exact absurd e hm
          subst e
          refine ⟨cs, ?_, hc⟩
          show ups (upd H κ (some (.box cs))) u κ = _
          rw [ups_other u _ κ (by rw [(outUps_get hu').1]; exact hm), upd_same]
      · cases hu

theorem ValsRep.cl {E : Env} {G : Ghost} {H : Hp} : ∀ {l : List PV} {vs : List Value}, ValsRep E G H l vs → ∀ p ∈ l, Cl H p
  | _, _, .nil, p, hp => by cases hp
  | _, _, .cons q v ps vs h hc hr, p, hp => by
    rcases List.mem_cons.1 hp with rfl | hp
    · exact hc
    · exact hr.cl p hp

/-- The caller's state behind the call, but for what the lent boxes hold: there it is still said of the old content: so those keys are told apart. -/
theorem Rel.afterCall (h : Rel nt base pb G0 ⟨T, H⟩ E G a w) {ks : List Nat} {os : List (List PV)} {us : List (Nat × Blk)} {v : Value} {G' : Ghost} {w' : World} {res : PV} (hk : ∀ κ ∈ ks, ∃ cs, H κ = some (.box cs))
    (hp : Post G w (ks.map E.bx) res os v G' w') (hu : outUps ks os = some us) : Rel nt base pb G0 ⟨T, ups H us⟩ E G' a w' := by
  obtain ⟨hu1, hu2⟩ := outUps_get hu
  have hkey : ∀ κ, κ ∉ ks → ups H us κ = H κ := fun κ hκ => ups_other us H κ (by rw [hu1]; exact hκ)
  -- every block that was alive and was not lent stands as it did
  have hblk : ∀ κ B b, κ ∉ ks → H κ = some B → blkOf E κ B = some b → w'.heap[b]? = w.heap[b]? := fun κ B b hκ hH hb =>
    hp.fr b (h.lt hH hb) (fun hm => by
      obtain ⟨κ', hκ', rfl⟩ := List.mem_map.1 hm
      obtain ⟨cs, hcs⟩ := hk κ' hκ'
      exact h.inj κ κ' B (.box cs) _ hH hcs (fun e => hκ (e ▸ hκ')) hb rfl)
  have hsome : ∀ κ, (H κ).isSome = true → (ups H us κ).isSome = true := fun κ hs => by
    by_cases hκ : κ ∈ ks
    · obtain ⟨cs, hcs⟩ := outUps_box hu (hk κ hκ); rw [hcs]; rfl
    · rw [hkey κ hκ]; exact hs
  have old : ∀ κ B, ups H us κ = some B → ∃ B0, H κ = some B0 ∧ blkOf E κ B = blkOf E κ B0 ∧ ((∃ cs, B = .box cs) ↔ ∃ cs, B0 = .box cs) := fun κ B hB => by
    by_cases hκ : κ ∈ ks
    · obtain ⟨cs, hcs⟩ := outUps_box hu (hk κ hκ)
      obtain ⟨cs0, hcs0⟩ := hk κ hκ
      rw [hcs] at hB; injection hB with hB; subst hB
      exact ⟨_, hcs0, rfl, ⟨fun _ => ⟨_, rfl⟩, fun _ => ⟨_, rfl⟩⟩⟩
    · rw [hkey κ hκ] at hB; exact ⟨B, hB, rfl, Iff.rfl⟩
  have hgf : ∀ κ B b, κ ∉ ks → H κ = some B → blkOf E κ B = some b → ∀ x : Addr, x.block = b → G' x ≠ none → G x ≠ none := fun κ B b _ hH hb x hx hne =>
    (hp.gnew x hne).resolve_right (fun hge => by have := h.lt hH hb; omega)
  exact
  { tm := fun t => (h.tm t).mono hp.gle, ts := h.ts, lai := h.lai,
    df := h.df.keep fun D o hD => (hp.fr D (heap_lt hD) (fun hm => by
      obtain ⟨κ', hκ', rfl⟩ := List.mem_map.1 hm
      obtain ⟨cs, hcs⟩ := hk κ' hκ'
      exact (h.hp κ' _ hcs).noMark rfl hD)).trans hD,
    hp := fun κ B hB => by
      replace hB : ups H us κ = some B := hB
      by_cases hκ : κ ∈ ks
      · obtain ⟨cs, hcs, vals, elem, hw, hl, hr, hf⟩ := outUps_cells (H := H) hu hp.outs hκ
        rw [hcs] at hB; injection hB with hB; subst hB
        exact ⟨vals, elem, hw, hl, fun i c v a b => .pure (hr i c v a b), hf⟩
      · rw [hkey κ hκ] at hB
        exact (h.hp κ B hB).keep hp.gle (fun b hb => hblk κ B b hκ hB hb) (hgf κ B · hκ hB ·)
    inj := fun κ κ' B B' b h1 h2 hn hb => by
      obtain ⟨B0, g1, g2, _⟩ := old κ B h1
      obtain ⟨B0', g1', g2', _⟩ := old κ' B' h2
      rw [g2'] ; rw [g2] at hb
      exact h.inj κ κ' B0 B0' b g1 g1' hn hb
    cT := fun t κ hκ => hsome κ (h.cT t κ hκ),
    cH := fun κ cs hB => by
      replace hB : ups H us κ = some (.box cs) := hB
      by_cases hκ : κ ∈ ks
      · obtain ⟨cs', hcs, vals, elem, hw, hl, hr, hf⟩ := outUps_cells (H := H) hu hp.outs hκ
        rw [hcs] at hB; injection hB with hB; injection hB with hB; subst hB
        intro c hc κ' hκ'
        obtain ⟨i, hi⟩ := List.mem_iff_getElem?.1 hc
        have hlt : i < vals.size := by rw [← hl]; exact (List.getElem?_eq_some_iff.1 hi).1
        rw [(hr i c _ hi (Array.getElem?_eq_getElem hlt)).refC] at hκ'; cases hκ'
      · rw [hkey κ hκ] at hB
        exact fun c hc κ' hκ' => hsome κ' (h.cH κ cs hB c hc κ' hκ')
    hold := hp.hold, gle := h.gle.trans hp.gle,
    gnew := fun x hx => by
      rcases hp.gnew x hx with h1 | h1
      · exact h.gnew x h1
      · have := h.sz; exact .inr (.inl (by omega))
    fr := fun b hb hpb => by
      refine (hp.fr b (Nat.lt_of_lt_of_le hb h.sz) (fun hm => ?_)).trans (h.fr b hb hpb)
      obtain ⟨κ', hκ', rfl⟩ := List.mem_map.1 hm
      obtain ⟨cs, hcs⟩ := hk κ' hκ'
      rcases h.own κ' _ _ hcs rfl with h1 | h1
      · omega
      · exact hpb (List.mem_map.2 ⟨_, h1, rfl⟩)
    sz := Nat.le_trans h.sz hp.size,
    own := fun κ B b hB hb => by
      obtain ⟨B0, g1, g2, g3⟩ := old κ B hB
      rw [g2] at hb
      exact h.own κ B0 b g1 hb
    par := fun κ b B hm hB => by
      obtain ⟨B0, g1, g2, g3⟩ := old κ _ hB
      obtain ⟨cs', rfl⟩ := g3.1 ⟨B, rfl⟩
      exact h.par κ b cs' hm g1
    os := hp.os.trans h.os, tape := hp.tape.trans h.tape, output := hp.output.trans h.output }

/-- A box that the callee made and gave. -/
theorem Rel.takeBox (h : Rel nt base pb G0 ⟨T, H⟩ E G a w) {κ b : Nat} {cs : List PV} (hκ : H κ = none) (hb : base.heap.size ≤ b) (hfr : ∀ κ' B', H κ' = some B' → blkOf E κ' B' ≠ some b) (hc : CellsAt G w b cs) (hpb : ∀ b, (κ, b) ∉ pb) :
    ∃ E', Rel nt base pb G0 ⟨T, upd H κ (some (.box cs))⟩ E' G a w ∧ E'.bx κ = b := by
  obtain ⟨vals, elem, hw, hl, hr, hf⟩ := hc
  let E' : Env := ⟨upd E.bx κ b, E.ar⟩
  have hE : E'.bx κ = b := upd_same _ _ _
  refine ⟨E', h.newKey hκ (fun κ' e => ⟨upd_ne _ _ e, rfl⟩) ?_ (fun b' hb' => ?_) (fun cs' e c hc => ?_) hpb, hE⟩
  · refine ⟨vals, elem, by rw [hE]; exact hw, hl, fun i c v a b => .pure (hr i c v a b), by rw [hE]; exact hf⟩
  · simp only [blkOf, hE, Option.some.injEq] at hb'; subst hb'; exact ⟨hb, hfr⟩
  · injection e with e; subst e
    intro κ' hκ'
    obtain ⟨i, hi⟩ := List.mem_iff_getElem?.1 hc
    have hlt : i < vals.size := by rw [← hl]; exact (List.getElem?_eq_some_iff.1 hi).1
    rw [(hr i c _ hi (Array.getElem?_eq_getElem hlt)).refC] at hκ'; cases hκ'

/-- THE CALL. -/
theorem op_callL {σ : St} (h : Rel nt base pb G0 σ E G a w) {hh : Hp} (hle : ∀ κ B, hh κ = some B → σ.H κ = some B) {call : CallF} (hcall : CallOk P call) {ro : Option Nat} {f : Nat} {ls : List PV} {vals : Array Value}
    (hv : ValsRep E G σ.H ls vals.toList) (hro : ∀ κ, ro = some κ → (∃ r, (call f ((lends hh ls).getD [])) = some r ∧ ∃ cs, r.1 = .boxed cs) → hh κ = σ.H κ) (hpb : ∀ κ, ro = some κ → ∀ b, (κ, b) ∉ pb) {v : PV} {us : List (Nat × Blk)} (he : evCall call hh ro f ls = some (v, us)) :
    Calls P f vals w fun e w' => ∃ x E' G', e = .returned x ∧ Rel nt base pb G0 ⟨σ.T, ups σ.H us⟩ E' G' a w' ∧ Rep E' G' v x ∧ Cl (ups σ.H us) v := by
  simp only [evCall] at he
  split at he
  · rename_i as hl
    split at he
    · rename_i res os hc
      split at he
      · rename_i hnd
        split at he
        · rename_i us0 hu
          obtain ⟨G1, hg1, hr1, ho1, hs1, hn1⟩ := Rel.freezes (h := hh) (ls.flatMap (lentKeys hh)) (H := σ.H) h (.of_le hle)
          obtain ⟨bs, hab, hbs, hbk⟩ := lends_args hr1 hs1 (hv.mono hg1 (fun p hp => hp.ups)) hl ho1
          have hbnd : bs.Nodup := by
            rw [hbs]
            have key : ∀ l : List Nat, (∀ κ ∈ l, ∃ cs, ups σ.H (frz hh (ls.flatMap (lentKeys hh))) κ = some (.box cs)) → l.Nodup → (l.map E.bx).Nodup := fun l => by
              induction l with
              | nil => simp
              | cons x l ih =>
                intro hl hnd
                rw [List.nodup_cons] at hnd
                rw [List.map_cons, List.nodup_cons]
                refine ⟨fun hm => ?_, ih (fun κ hκ => hl κ (List.mem_cons_of_mem _ hκ)) hnd.2⟩
                obtain ⟨y, hy, hxy⟩ := List.mem_map.1 hm
                obtain ⟨cx, hcx⟩ := hl x (by simp)
                obtain ⟨cy, hcy⟩ := hl y (List.mem_cons_of_mem _ hy)
                exact hr1.inj x y _ _ _ hcx hcy (fun e => hnd.1 (e ▸ hy)) rfl (by simp [blkOf, hxy])
            exact key _ hbk hnd
          refine (hcall f as res os hc w G1 vals bs (hr1.lai.trans hr1.gle) hr1.hold hab hbnd).mono fun e w' ⟨x, G', hx, hpost⟩ => ?_
          subst hx
          rw [hbs] at hpost
          have hr2 := hr1.afterCall hbk hpost hu
          rw [← ups_append] at hr2
          cases hpost.res with
          | plain _ _ hp =>
            have hnb : ∀ cs, res ≠ .boxed cs := fun cs e => by subst e; cases hp with | one r => cases r
            have hfin : some (res, frz hh (ls.flatMap (lentKeys hh)) ++ us0) = some (v, us) := by
              split at he
              · exact absurd rfl (hnb _)
              · exact absurd rfl (hnb _)
              · exact he
            simp only [Option.some.injEq, Prod.mk.injEq] at hfin
            obtain ⟨rfl, rfl⟩ := hfin
            exact ⟨x, E, G', rfl, hr2, hp.rep, Cl.nil hp.refs⟩
          | tuple ps xs hl hp =>
            simp only [Option.some.injEq, Prod.mk.injEq] at he
            obtain ⟨rfl, rfl⟩ := he
            refine ⟨_, E, G', rfl, hr2, .tuple ps xs hl hp, Cl.nil ?_⟩
            simp only [refs, List.flatMap_eq_nil_iff]
            intro c hc
            obtain ⟨i, hi⟩ := List.mem_iff_getElem?.1 hc
            have hlt : i < xs.size := by rw [← hl]; exact (List.getElem?_eq_some_iff.1 hi).1
            have hrr := hp i c _ hi (Array.getElem?_eq_getElem hlt)
            generalize xs[i] = x at hrr
            cases hrr with
            | one r => exact r.refC
            | agg cs vs hl' hr' => rfl
          | boxed cs b hb hcell =>
            cases ro with
            | none => cases he
            | some κ =>
              simp only at he
              split at he
              · rename_i hn
                rw [hro κ rfl ⟨_, by rw [hl]; exact hc, cs, rfl⟩, Option.isNone_iff_eq_none] at hn
                simp only [Option.some.injEq, Prod.mk.injEq] at he
                obtain ⟨rfl, rfl⟩ := he
                have hκ1 : κ ∉ ls.flatMap (lentKeys hh) ∧ κ ∉ ls.flatMap boxKey := by
                  have hcl : ∀ p ∈ ls, Cl σ.H p := hv.cl
                  refine ⟨fun hm => ?_, fun hm => ?_⟩
                  · obtain ⟨p, hp, hm⟩ := List.mem_flatMap.1 hm
                    have hcp := hcl p hp
                    have : (σ.H κ).isSome = true := by
                      by_cases hptr : ∃ k off, p = .ptr k off
                      · obtain ⟨k, off, rfl⟩ := hptr
                        simp only [lentKeys] at hm
                        split at hm
                        · rename_i cs' hk
                          obtain ⟨c, hcm, hc⟩ := List.mem_flatMap.1 hm
                          exact h.cH k cs' (hle _ _ hk) c hcm κ hc
                        · cases hm
                      · have : lentKeys hh p = refs p := by
                          cases p <;> first | rfl | exact absurd ⟨_, _, rfl⟩ hptr
                        rw [this] at hm; exact hcp κ hm
                    rw [hn] at this; cases this
                  · obtain ⟨p, hp, hm⟩ := List.mem_flatMap.1 hm
                    have hcp := hcl p hp
                    have : (σ.H κ).isSome = true := by
                      cases p <;> simp only [boxKey, List.not_mem_nil] at hm
                      simp only [List.mem_singleton] at hm; subst hm
                      exact hcp κ (by simp [refs, refC])
                    rw [hn] at this; cases this
                have hn2 : ups σ.H (frz hh (ls.flatMap (lentKeys hh)) ++ us0) κ = none := by
                  rw [ups_append]
                  have e1 : ups σ.H (frz hh (ls.flatMap (lentKeys hh))) κ = none := by rw [hn1 κ hκ1.1]; exact hn
                  rw [ups_other us0 _ κ (by rw [(outUps_get hu).1]; exact hκ1.2)]; exact e1
                have hbase : base.heap.size ≤ b := Nat.le_trans h.sz hb
                obtain ⟨E', hr3, hE⟩ := hr2.takeBox hn2 hbase (fun κ' B' hB' hbb => by
                  -- a block that was alive before the call lies below it
                  have hne := hr2.own κ' B' b hB' hbb
                  by_cases hm : κ' ∈ ls.flatMap boxKey
                  · obtain ⟨cs', hcs'⟩ := hbk κ' hm
                    have h1 := hr1.lt hcs' rfl
                    have hin : ∃ cs'', B' = .box cs'' := by
                      rw [ups_append] at hB'
                      obtain ⟨cs'', hcs''⟩ := outUps_box hu ⟨cs', hcs'⟩
                      rw [hcs''] at hB'; injection hB' with hB'; exact ⟨cs'', hB'.symm⟩
                    obtain ⟨cs'', rfl⟩ := hin
                    simp only [blkOf, Option.some.injEq] at hbb h1
                    omega
                  · rw [ups_append, ups_other us0 _ κ' (by rw [(outUps_get hu).1]; exact hm)] at hB'
                    have := hr1.lt hB' hbb
                    omega) hcell (hpb κ rfl)
                refine ⟨_, E', G', rfl, by rw [ups_append]; exact hr3, by rw [← hE]; exact .one (.ptr κ 0), fun κ' hk' => ?_⟩
                simp [refs, refC] at hk'; subst hk'
                rw [ups_append]; simp [ups, upd_same]
              · cases he
        · cases he
      · cases he
    · cases he
  · cases he

/-- THE CALL of a named function. -/
theorem op_call {σ : St} (h : Rel nt base pb G0 σ E G a w) {hh : Hp} (hle : ∀ κ B, hh κ = some B → σ.H κ = some B) {call : CallF} (hcall : CallOk P call) {ρ : Src → PV} {ro : Option Nat} {f : Nat} {args : List Src} {vals : Array Value}
    (hv : ValsRep E G σ.H (args.map ρ) vals.toList) (hro : ∀ κ, ro = some κ → (∃ r, (call f ((lends hh (args.map ρ)).getD [])) = some r ∧ ∃ cs, r.1 = .boxed cs) → hh κ = σ.H κ) (hpb : ∀ κ, ro = some κ → ∀ b, (κ, b) ∉ pb) {v : PV} {us : List (Nat × Blk)} (he : evOp call ρ hh (.call ro f args) = some (v, us)) :
    Calls P f vals w fun e w' => ∃ x E' G', e = .returned x ∧ Rel nt base pb G0 ⟨σ.T, ups σ.H us⟩ E' G' a w' ∧ Rep E' G' v x ∧ Cl (ups σ.H us) v :=
  op_callL h hle hcall hv hro hpb (by simpa only [evOp] using he)

end
end Go.Ab

/- Part Swap. -/
namespace Go.Ab
open Go
set_option linter.unusedSimpArgs false

def srcT : Src → List Nat
  | .t i => [i]
  | .c _ => []

def IOper.reads (o : IOper) : List Nat :=
  o.op.operands.flatMap srcT ++ (match o.guard with | some (t, _) => [t] | none => [])

def roOp : IOp → Bool
  | .mov _ | .pick _ _ _ | .build _ _ | .load _ _ _ | .nilChk _ | .bin _ _ _ | .eqB _ _ _ | .isNil _ | .eqAgg _ _ _ _ | .un _ _ | .conv _ _ | .faddr _ _ | .field _ _ _ _ | .iaddr _ _ _ | .index _ _
  | .slice _ _ _ _ _ | .len _ _ | .mm _ _ _ | .extract _ _ => true
  | _ => false

theorem val_upd {T : Tm} {d : Option Nat} {v : PV} {y : Src} (h : ∀ k, d = some k → k ∉ srcT y) : val (put T d v) y = val T y := by
  cases y with
  | c p => rfl
  | t i =>
    cases d with
    | none => rfl
    | some k =>
      have := h k rfl
      simp only [srcT, List.mem_singleton] at this
      show upd T k v i = T i
      exact upd_ne _ _ (fun e => this e.symm)

theorem bnd_congr {ρ ρ' : Src → PV} : ∀ {o : Option Src}, (∀ y, o = some y → ρ y = ρ' y) → bnd ρ o = bnd ρ' o
  | none, _ => rfl
  | some y, h => by simp only [bnd, h y rfl]

theorem evOp_congr (call : CallF) {ρ ρ' : Src → PV} (h : Hp) (io : IOp) (he : ∀ y ∈ io.operands, ρ y = ρ' y) : evOp call ρ h io = evOp call ρ' h io := by
  cases io <;> simp only [IOp.operands, List.mem_cons, List.not_mem_nil, or_false, forall_eq_or_imp, forall_eq] at he <;> first
    | simp only [evOp, he]
    | skip
  case build zs parts =>
    have : (parts.map fun p => (p.1, p.2.1, ρ p.2.2)) = parts.map fun p => (p.1, p.2.1, ρ' p.2.2) := List.map_congr_left fun p hp => by rw [he _ (List.mem_map.2 ⟨p, hp, rfl⟩)]
    simp only [evOp, this]
  case buildSl κ sz zero n parts =>
    have e1 : (parts.map fun p => (p.1, ρ p.2)) = parts.map fun p => (p.1, ρ' p.2) := List.map_congr_left fun p hp => by rw [he _ (List.mem_map.2 ⟨p, hp, rfl⟩)]
    have e2 : (parts.flatMap fun p => refs (ρ p.2)) = parts.flatMap fun p => refs (ρ' p.2) := by
      simp only [List.flatMap]
      congr 1
      exact List.map_congr_left fun p hp => by rw [he _ (List.mem_map.2 ⟨p, hp, rfl⟩)]
    simp only [evOp, e1, e2]
  case slice isStr sz x lo hi =>
    have e0 : ρ x = ρ' x := he x (by simp)
    have e1 : bnd ρ lo = bnd ρ' lo := bnd_congr fun y hy => he y (by simp [hy])
    have e2 : bnd ρ hi = bnd ρ' hi := bnd_congr fun y hy => he y (by simp [hy])
    simp only [evOp, e0, e1, e2]
  case call rκ f args =>
    have : args.map ρ = args.map ρ' := List.map_congr_left he
    simp only [evOp, this]
  case mkFn f lo as bs =>
    have : (as ++ bs).map ρ = (as ++ bs).map ρ' := List.map_congr_left he
    simp only [evOp, this]
  case callv x fs args =>
    have : args.map ρ = args.map ρ' := List.map_congr_left he.2
    simp only [evOp, this, he.1]

theorem evOp_ro {call : CallF} {ρ : Src → PV} {h : Hp} {io : IOp} (hr : roOp io = true) {v : PV} {us : List (Nat × Blk)} (he : evOp call ρ h io = some (v, us)) : us = [] := by
  have map2 : ∀ {α : Type} {o : Option α} {f : α → PV}, o.map (fun x => (f x, ([] : List (Nat × Blk)))) = some (v, us) → us = [] := fun {α o f} h => by
    cases o with
    | none => cases h
    | some x => simp at h; exact h.2
  cases io <;> simp only [roOp, Bool.false_eq_true] at hr <;> simp only [evOp] at he
  case mov => simp at he; exact he.2
  case bin => exact map2 (f := id) he
  case un => exact map2 (f := id) he
  case conv => exact map2 (f := id) he
  case len => exact map2 (f := fun n => .int .i64 ((n : Nat) : Int)) he
  all_goals
    (repeat' (split at he))
    all_goals first
      | (cases he; done)
      | (simp at he; exact he.2)
      | exact map2 (f := id) he
      | exact map2 he

def indep (x y : IOper) : Bool :=
  (match x.dst with | some d => !y.reads.contains d | none => true) &&
  (match y.dst with | some d => !x.reads.contains d | none => true) &&
  (match x.dst, y.dst with | some d, some e => d != e | _, _ => true) &&
  ((roOp x.op && roOp y.op) || x.ks.all fun κ => !y.ks.contains κ)

structure Indep (x y : IOper) : Prop where
  xy : ∀ d, x.dst = some d → d ∉ y.reads
  yx : ∀ d, y.dst = some d → d ∉ x.reads
  dd : ∀ d e, x.dst = some d → y.dst = some e → d ≠ e
  ks : (roOp x.op = true ∧ roOp y.op = true) ∨ ∀ κ ∈ x.ks, κ ∉ y.ks

theorem indep_spec {x y : IOper} (h : indep x y = true) : Indep x y := by
  simp only [indep, Bool.and_eq_true, Bool.or_eq_true] at h
  obtain ⟨⟨⟨h1, h2⟩, h3⟩, h4⟩ := h
  refine ⟨fun d hd => ?_, fun d hd => ?_, fun d e hd he => ?_, h4.imp id (fun h κ hκ => ?_)⟩
  · rw [hd] at h1; simpa using h1
  · rw [hd] at h2; simpa using h2
  · rw [hd, he] at h3; simpa using h3
  · have := List.all_eq_true.1 h κ hκ; simpa using this

theorem wantd_put {T : Tm} {d : Option Nat} {v : PV} {g : Option (Nat × Bool)} (h : ∀ k, d = some k → ∀ t b, g = some (t, b) → k ≠ t) : wantd (put T d v) g = wantd T g := by
  cases g with
  | none => rfl
  | some p =>
    obtain ⟨t, b⟩ := p
    cases d with
    | none => rfl
    | some k => simp only [wantd, put, upd_ne T v (fun e => h k rfl t b rfl e.symm : t ≠ k)]

theorem restr_ups {H : Hp} {ks : List Nat} : ∀ {us : List (Nat × Blk)}, (∀ u ∈ us, u.1 ∉ ks) → restr (ups H us) ks = restr H ks := fun {us} h => by
  funext κ
  simp only [restr]
  split
  · rename_i hκ
    rw [ups_other us H κ (fun hm => by
      obtain ⟨u, hu, rfl⟩ := List.mem_map.1 hm
      exact h u hu (by simpa using hκ))]
  · rfl

theorem ups_comm {H : Hp} {us vs : List (Nat × Blk)} (h : ∀ u ∈ us, ∀ v ∈ vs, u.1 ≠ v.1) : ups (ups H us) vs = ups (ups H vs) us := by
  have get : ∀ (us : List (Nat × Blk)) (H H' : Hp) (κ : Nat), κ ∈ us.map (·.1) → ups H us κ = ups H' us κ := fun us => by
    induction us with
    | nil => intro H H' κ hκ; cases hκ
    | cons u us ih =>
      intro H H' κ hκ
      obtain ⟨k, b⟩ := u
      show ups (upd H k (some b)) us κ = ups (upd H' k (some b)) us κ
      by_cases hm : κ ∈ us.map (·.1)
      · exact ih _ _ κ hm
      · have e : κ = k := by
          rcases List.mem_cons.1 hκ with e | e
          · exact e
          · exact absurd e hm
        subst e
        rw [ups_other us _ κ hm, ups_other us _ κ hm, upd_same, upd_same]
  funext κ
  by_cases hv : κ ∈ vs.map (·.1)
  · have hu : κ ∉ us.map (·.1) := fun hu => by
      obtain ⟨u, hu, e1⟩ := List.mem_map.1 hu
      obtain ⟨v, hv, e2⟩ := List.mem_map.1 hv
      exact h u hu v hv (e1.trans e2.symm)
    rw [ups_other us (ups H vs) κ hu]
    exact get vs _ _ κ hv
  · rw [ups_other vs _ κ hv]
    by_cases hu : κ ∈ us.map (·.1)
    · exact get us _ _ κ hu
    · rw [ups_other us _ κ hu, ups_other us _ κ hu, ups_other vs _ κ hv]

theorem put_comm {T : Tm} {d e : Option Nat} {v u : PV} (h : ∀ k l, d = some k → e = some l → k ≠ l) : put (put T d v) e u = put (put T e u) d v := by
  cases d with
  | none => rfl
  | some k =>
    cases e with
    | none => rfl
    | some l =>
      have := h k l rfl rfl
      funext i
      simp only [put, upd]
      by_cases h1 : i = l
      · subst h1; simp [Ne.symm this]
      · simp [h1]

/-- What one operation does to a state, told apart from the state: nothing (its guard says no), or a value and heap updates. -/
theorem evOper_spec {call : CallF} {o : IOper} {σ σ' : St} (h : evOper call o σ = some σ') :
    ∃ v us, σ' = ⟨put σ.T o.dst v, ups σ.H us⟩ ∧ (∀ u ∈ us, u.1 ∈ o.ks) ∧ (roOp o.op = true → us = []) ∧
      ∀ τ : St, wantd τ.T o.guard = wantd σ.T o.guard → (∀ y ∈ o.op.operands, val τ.T y = val σ.T y) → restr τ.H o.ks = restr σ.H o.ks → evOper call o τ = some ⟨put τ.T o.dst v, ups τ.H us⟩ := by
  unfold evOper at h
  split at h
  · cases h
  · rename_i hw
    injection h with h
    refine ⟨.never, [], h.symm, (fun u hu => nomatch hu), fun _ => rfl, fun τ hτ _ _ => ?_⟩
    unfold evOper; rw [hτ, hw]; rfl
  · rename_i hw
    split at h
    · rename_i v us hv
      split at h
      · rename_i hks
        injection h with h
        refine ⟨v, us, h.symm, fun u hu => by have := List.all_eq_true.1 hks u hu; simpa using this, fun hr => evOp_ro hr hv, fun τ hτ ho hr => ?_⟩
        have : evOp call (val τ.T) (restr τ.H o.ks) o.op = some (v, us) := by rw [hr, evOp_congr call _ o.op ho]; exact hv
        unfold evOper; rw [hτ, hw, this]; simp only [hks, if_true]
      · cases h
    · cases h

theorem evOper_swap {call : CallF} {x y : IOper} (hi : Indep x y) {σ σ1 σ2 : St} (h1 : evOper call x σ = some σ1) (h2 : evOper call y σ1 = some σ2) :
    ∃ σ1', evOper call y σ = some σ1' ∧ evOper call x σ1' = some σ2 := by
  obtain ⟨vx, ux, rfl, hkx, hrx, hx⟩ := evOper_spec h1
  obtain ⟨vy, uy, rfl, hky, hry, hy⟩ := evOper_spec h2
  have memg : ∀ (o : IOper) t b, o.guard = some (t, b) → t ∈ o.reads := fun o t b hg => by simp [IOper.reads, hg]
  have memo : ∀ (o : IOper) (s : Src), s ∈ o.op.operands → ∀ k ∈ srcT s, k ∈ o.reads := fun o s hs k hk => by
    simp only [IOper.reads, List.mem_append, List.mem_flatMap]; exact .inl ⟨s, hs, hk⟩
  have hd : ∀ u ∈ ux, u.1 ∉ y.ks := fun u hu => by
    rcases hi.ks with ⟨h, _⟩ | h
    · rw [hrx h] at hu; cases hu
    · exact h _ (hkx u hu)
  have hd' : ∀ u ∈ uy, u.1 ∉ x.ks := fun u hu => by
    rcases hi.ks with ⟨_, h⟩ | h
    · rw [hry h] at hu; cases hu
    · exact fun hm => h _ hm (hky u hu)
  refine ⟨_, hy σ ?_ (fun s hs => ?_) ?_, ?_⟩
  · exact (wantd_put fun k hk t b hg e => hi.xy k hk (e ▸ memg y t b hg)).symm
  · exact (val_upd fun k hk hm => hi.xy k hk (memo y s hs k hm)).symm
  · exact (restr_ups hd).symm
  · rw [hx ⟨put σ.T y.dst vy, ups σ.H uy⟩ (wantd_put fun k hk t b hg e => hi.yx k hk (e ▸ memg x t b hg)) (fun s hs => val_upd fun k hk hm => hi.yx k hk (memo x s hs k hm)) (restr_ups hd')]
    show some (⟨put (put σ.T y.dst vy) x.dst vx, ups (ups σ.H uy) ux⟩ : St) = some ⟨put (put σ.T x.dst vx) y.dst vy, ups (ups σ.H ux) uy⟩
    rw [put_comm (d := x.dst) (e := y.dst) (fun k l hk hl => hi.dd k l hk hl), ups_comm (us := ux) (vs := uy) (fun u hu v hv e => hd u hu (e ▸ hky v hv))]

/-- Operations by number. -/
def evIx (call : CallF) (ios : List IOper) : List Nat → St → Option St
  | [], σ => some σ
  | i :: l, σ => match ios[i]? with
    | some o => match evOper call o σ with
      | some σ' => evIx call ios l σ'
      | none => none
    | none => none

theorem evIx_range {call : CallF} : ∀ (pre ios : List IOper) (σ : St), evIx call (pre ++ ios) ((List.range ios.length).map (· + pre.length)) σ = evOps call ios σ
  | pre, [], σ => rfl
  | pre, o :: ios, σ => by
    rw [List.length_cons, List.range_succ_eq_map, List.map_cons, List.map_map]
    simp only [evIx, Nat.zero_add, List.getElem?_append_right (Nat.le_refl _), Nat.sub_self, List.getElem?_cons_zero, evOps]
    cases evOper call o σ with
    | none => rfl
    | some σ' =>
      have := evIx_range (call := call) (pre ++ [o]) ios σ'
      simp only [List.append_assoc, List.singleton_append, List.length_append, List.length_singleton] at this
      simp only
      rw [← this]
      congr 1
      apply List.map_congr_left
      intro k _
      simp; omega

/-- One that is independent of all that come before it may come first. -/
theorem evIx_front {call : CallF} {ios : List IOper} {i : Nat} : ∀ {l m : List Nat} {σ σ' : St}, (∀ j ∈ l, ∀ x y, ios[j]? = some x → ios[i]? = some y → Indep x y) → evIx call ios (l ++ i :: m) σ = some σ' → evIx call ios (i :: (l ++ m)) σ = some σ'
  | [], m, σ, σ', _, h => h
  | j :: l, m, σ, σ', hi, h => by
    simp only [List.cons_append, evIx] at h
    split at h
    · rename_i x hx
      split at h
      · rename_i σ1 h1
        have h2 := evIx_front (fun k hk => hi k (List.mem_cons_of_mem _ hk)) h
        simp only [evIx] at h2
        split at h2
        · rename_i y hy
          split at h2
          · rename_i σ2 h3
            obtain ⟨σ1', h4, h5⟩ := evOper_swap (hi j (by simp) x y hx hy) h1 h3
            simp only [evIx, hy, h4, List.cons_append, hx, h5]
            exact h2
          · cases h2
        · cases h2
      · cases h
    · cases h

end Go.Ab

/- Part Clos. -/
namespace Go.Ab
open Go
set_option linter.unusedSimpArgs false
set_option linter.unusedVariables false

section
variable {nt : Nat} {base : World} {pb : List (Nat × Nat)} {G0 : Ghost} {P : Program} {T : Tm} {H : Hp} {E : Env} {G : Ghost} {a : Act} {w : World}

theorem ups_le {hh H : Hp} : ∀ (us : List (Nat × Blk)), (∀ κ B, hh κ = some B → H κ = some B) → ∀ κ B, ups hh us κ = some B → ups H us κ = some B
  | [], h, κ, B, hk => h κ B hk
  | (k, b) :: l, h, κ, B, hk => by
    refine ups_le l (hh := upd hh k (some b)) (H := upd H k (some b)) (fun κ' B' h' => ?_) κ B hk
    by_cases e : κ' = k
    · subst e; simpa [upd_same] using h'
    · rw [upd_ne _ _ e] at h' ⊢; exact h κ' B' h'

theorem capV_rep (h : Rel nt base pb G0 ⟨T, H⟩ E G a w) {hh : Hp} (hle : ∀ κ B, hh κ = some B → H κ = some B) {lo : Nat} (hnp : ∀ κ b, lo ≤ κ → (κ, b) ∉ pb) {v : PV} {x : Value} (hr : Rep E G v x)
    {p : PV} {us : List (Nat × Blk)} (hc : capV hh lo v = some (p, us)) : ∃ G', G.le G' ∧ Rel nt base pb G0 ⟨T, ups H us⟩ E G' a w ∧ RepC G' p x := by
  have plain : (match purC hh true v with | some p => some (p, frz hh (refC v)) | none => none) = some (p, us) → (∃ y, RepX E G v y ∧ y = x) → ∃ G', G.le G' ∧ Rel nt base pb G0 ⟨T, ups H us⟩ E G' a w ∧ RepC G' p x := by
    intro hc ⟨y, hy, e⟩
    subst e
    split at hc
    · rename_i q hq
      simp only [Option.some.injEq, Prod.mk.injEq] at hc
      obtain ⟨rfl, rfl⟩ := hc
      obtain ⟨G1, hg1, hr1, ho1, _, _⟩ := Rel.freezes (h := hh) (refC v) (H := H) h (.of_le hle)
      exact ⟨G1, hg1, hr1, purC_rep hq hy hg1 ho1⟩
    · cases hc
  unfold capV at hc
  split at hc
  · rename_i κ off
    split at hc
    · rename_i h0
      obtain ⟨rfl, hlo⟩ := h0
      have hx : x = .pointer (some ⟨E.bx κ, 0, none⟩) := by
        cases hr with | one hr => cases hr with
          | pure r => cases r
          | ptr κ off => rfl
      subst hx
      split at hc
      · rename_i cs hk
        split at hc
        · rename_i ps hps
          simp only [Option.some.injEq, Prod.mk.injEq] at hc
          obtain ⟨rfl, rfl⟩ := hc
          obtain ⟨G1, hg1, hr1, ho1, hs1, _⟩ := Rel.freezes (h := hh) (cs.flatMap refC) (H := H) h (.of_le hle)
          have hb1 := frz_box hs1 hk
          obtain ⟨hl, hget⟩ := purCs_get hps
          obtain ⟨G2, hg2, hr2, hp2⟩ := hr1.freezeBox hb1 (fun b => hnp κ b hlo) hl (fun i p c v hp hcs hrx => by
            obtain ⟨c', hc', hpc⟩ := hget i p hp
            rw [hc'] at hcs; injection hcs with hcs; subst hcs
            exact purC_rep hpc hrx (.refl G1) (fun κ' hκ' => ho1 κ' (List.mem_flatMap.2 ⟨_, List.mem_of_getElem? hc', hκ'⟩)))
          refine ⟨G2, hg1.trans hg2, ?_, hp2⟩
          rw [ups_append]; exact hr2
        · cases hc
      · rename_i ps hk
        simp only [Option.some.injEq, Prod.mk.injEq] at hc
        obtain ⟨rfl, rfl⟩ := hc
        obtain ⟨vals, elem, hh', hl, hg⟩ := h.hp κ _ (hle _ _ hk)
        refine ⟨G, .refl G, h, .rptr ps _ 0 (fun i => (vals[i]?).getD Go.undef) (fun i c hi => ?_) (fun i c hi => ?_)⟩
        · have hlt : i < vals.size := by rw [← hl]; exact (List.getElem?_eq_some_iff.1 hi).1
          have := (hg i c _ hi (Array.getElem?_eq_getElem hlt)).1
          rw [Nat.zero_add, this, Array.getElem?_eq_getElem hlt]; rfl
        · have hlt : i < vals.size := by rw [← hl]; exact (List.getElem?_eq_some_iff.1 hi).1
          rw [Array.getElem?_eq_getElem hlt]
          exact (hg i c _ hi (Array.getElem?_eq_getElem hlt)).2
      · cases hc
    · cases hc
  · rename_i hn
    refine plain hc ?_
    cases hr with
    | one hr => exact ⟨x, hr, rfl⟩
    | agg cs vs hl hr => simp [purC] at hc
    | tuple cs vs hl hr => simp [purC] at hc
    | eptr cs b o hr => simp [purC] at hc
    | undef v => simp [purC] at hc
    | never => simp [purC] at hc

theorem ups_ups {H : Hp} (a b : List (Nat × Blk)) : ups H (a ++ b) = ups (ups H a) b := ups_append H a b

/-- The captured values, as plain values. -/
inductive PlainsRep (G : Ghost) : List PV → List Value → Prop
  | nil : PlainsRep G [] []
  | cons (p : PV) (v : Value) (ps : List PV) (vs : List Value) (h : RepC G p v) (hr : PlainsRep G ps vs) : PlainsRep G (p :: ps) (v :: vs)

theorem PlainsRep.mono {G G' : Ghost} (hg : G.le G') : ∀ {ps : List PV} {vs : List Value}, PlainsRep G ps vs → PlainsRep G' ps vs
  | _, _, .nil => .nil
  | _, _, .cons p v ps vs h hr => .cons p v ps vs (h.mono hg) (hr.mono hg)

theorem capL_rep {lo : Nat} (hnp : ∀ κ b, lo ≤ κ → (κ, b) ∉ pb) : ∀ {vs : List PV} {xs : List Value} {H : Hp} {hh : Hp} {G : Ghost} {ps : List PV} {us : List (Nat × Blk)}, Rel nt base pb G0 ⟨T, H⟩ E G a w → (∀ κ B, hh κ = some B → H κ = some B) →
    ValsRep E G H vs xs → capL hh lo vs = some (ps, us) → ∃ G', G.le G' ∧ Rel nt base pb G0 ⟨T, ups H us⟩ E G' a w ∧ PlainsRep G' ps xs
  | _, _, H, hh, G, ps, us, h, _, .nil, hc => by
    simp only [capL, Option.some.injEq, Prod.mk.injEq] at hc
    obtain ⟨rfl, rfl⟩ := hc
    exact ⟨G, .refl G, h, .nil⟩
  | _, _, H, hh, G, ps, us, h, hle, .cons v x vs xs hr hcl hrs, hc => by
    simp only [capL] at hc
    split at hc
    · rename_i p us1 h1
      split at hc
      · rename_i qs us2 h2
        simp only [Option.some.injEq, Prod.mk.injEq] at hc
        obtain ⟨rfl, rfl⟩ := hc
        obtain ⟨G1, hg1, hr1, hp1⟩ := capV_rep h hle hnp hr h1
        obtain ⟨G2, hg2, hr2, hp2⟩ := capL_rep hnp hr1 (ups_le us1 hle) (hrs.mono hg1 (fun p hp => hp.ups)) h2
        refine ⟨G2, hg1.trans hg2, ?_, .cons _ _ _ _ (hp1.mono hg2) hp2⟩
        rw [ups_ups]; exact hr2
      · cases hc
    · cases hc

theorem PlainsRep.len {G : Ghost} : ∀ {ps : List PV} {vs : List Value}, PlainsRep G ps vs → ps.length = vs.length
  | _, _, .nil => rfl
  | _, _, .cons p v ps vs h hr => by simp [hr.len]

theorem PlainsRep.get {G : Ghost} : ∀ {ps : List PV} {vs : List Value}, PlainsRep G ps vs → ∀ (i : Nat) p v, ps[i]? = some p → vs[i]? = some v → RepC G p v
  | _, _, .nil, i, p, v, hp, _ => by simp at hp
  | _, _, .cons q u ps vs h hr, i, p, v, hp, hv => by
    cases i with
    | zero => simp at hp hv; subst hp; subst hv; exact h
    | succ i => exact hr.get i p v (by simpa using hp) (by simpa using hv)

theorem op_mkFn {σ : St} (h : Rel nt base pb G0 σ E G a w) {hh : Hp} (hle : ∀ κ B, hh κ = some B → σ.H κ = some B) {call : CallF} {ρ : Src → PV} {f lo : Nat} (hnp : ∀ κ b, lo ≤ κ → (κ, b) ∉ pb) {as bs : List Src} {xs ys : Array Value}
    (hx : ValsRep E G σ.H ((as ++ bs).map ρ) (xs.toList ++ ys.toList)) (hl : xs.size = as.length) {v : PV} {us : List (Nat × Blk)} (he : evOp call ρ hh (.mkFn f lo as bs) = some (v, us)) :
    OpOut nt base pb G0 P σ a (Instr.makeFunc (.func f) xs ys) w v us := by
  simp only [evOp] at he
  split at he
  · rename_i ps us0 hc
    simp only [Option.some.injEq, Prod.mk.injEq] at he
    obtain ⟨rfl, rfl⟩ := he
    obtain ⟨G', hg, hr, hp⟩ := capL_rep hnp (H := σ.H) h hle hx hc
    have hlen := hp.len
    simp only [List.length_append, Array.length_toList] at hlen
    have ht : (ps.take as.length).length = as.length := by simp; omega
    refine ⟨.func (.func f) xs ys, w, E, G', rfl, hr, .one (.pure (.clo f _ _ xs ys (fun i => (xs[i]?).getD Go.undef) (fun i => (ys[i]?).getD Go.undef) (by simp; omega) (by simp; omega) (fun i u hu => by rw [hu]; rfl) (fun i u hu => by rw [hu]; rfl) (fun i c hi => ?_) (fun i c hi => ?_))), Cl.nil rfl⟩
    · have hi2 := (List.getElem?_eq_some_iff.1 hi).1
      have hlt : i < xs.size := by omega
      rw [List.getElem?_take_of_lt (by omega)] at hi
      rw [Array.getElem?_eq_getElem hlt]
      exact hp.get i c _ hi (by rw [List.getElem?_append_left (by simpa using hlt)]; simp [hlt])
    · have hi2 := (List.getElem?_eq_some_iff.1 hi).1
      simp at hi2
      have hlt : i < ys.size := by omega
      rw [List.getElem?_drop] at hi
      rw [Array.getElem?_eq_getElem hlt]
      exact hp.get (as.length + i) c _ hi (by rw [List.getElem?_append_right (by simp; omega)]; simp [hl, hlt])
  · cases he

theorem ValsRep.append {E : Env} {G : Ghost} {H : Hp} : ∀ {ps qs : List PV} {vs us : List Value}, ValsRep E G H ps vs → ValsRep E G H qs us → ValsRep E G H (ps ++ qs) (vs ++ us)
  | _, _, _, _, .nil, h => h
  | _, _, _, _, .cons p v ps vs h hc hr, h' => .cons p v _ _ h hc (hr.append h')

theorem vals_plain {E : Env} {G : Ghost} {H : Hp} : ∀ (ps : List PV) (vs : List Value), ps.length = vs.length → (∀ (i : Nat) p v, ps[i]? = some p → vs[i]? = some v → RepC G p v) → ValsRep E G H ps vs
  | [], [], _, _ => .nil
  | [], _ :: _, h, _ => by simp at h
  | _ :: _, [], h, _ => by simp at h
  | p :: ps, v :: vs, h, hr => .cons _ _ _ _ (.one (.pure (hr 0 p v rfl rfl))) (fun κ hk => by
      have h0 := (hr 0 p v rfl rfl)
      have : refs p = [] := by cases h0 <;> rfl
      rw [this] at hk; cases hk) (vals_plain ps vs (by simpa using h) (fun i q u hq hu => hr (i + 1) q u (by simpa using hq) (by simpa using hu)))

theorem ValsRep.len {E : Env} {G : Ghost} {H : Hp} : ∀ {ps : List PV} {vs : List Value}, ValsRep E G H ps vs → ps.length = vs.length
  | _, _, .nil => rfl
  | _, _, .cons p v ps vs h hc hr => by simp [hr.len]

theorem op_callv {σ : St} (h : Rel nt base pb G0 σ E G a w) {hh : Hp} (hle : ∀ κ B, hh κ = some B → σ.H κ = some B) {call : CallF} (hcall : CallOk P call) {ρ : Src → PV} {fs : List Nat} {y : Src} {x : Value} (hx : Rep E G (ρ y) x) {args : List Src} {vals : Array Value}
    (hv : ValsRep E G σ.H (args.map ρ) vals.toList) {v : PV} {us : List (Nat × Blk)} (he : evOp call ρ hh (.callv y fs args) = some (v, us)) :
    ∃ f us0 vs0, x = .func (.func f) us0 vs0 ∧ fs.contains f = true ∧ Calls P f (us0 ++ vals ++ vs0) w fun e w' => ∃ x E' G', e = .returned x ∧ Rel nt base pb G0 ⟨σ.T, ups σ.H us⟩ E' G' a w' ∧ Rep E' G' v x ∧ Cl (ups σ.H us) v := by
  simp only [evOp] at he
  split at he
  · rename_i f hy
    split at he
    · rename_i hf
      rw [hy] at hx
      have e1 : x = .func (.func f) #[] #[] := by
        cases hx with | one hx => cases hx with | pure r => cases r; rfl
      refine ⟨f, #[], #[], e1, hf, ?_⟩
      exact op_callL (vals := #[] ++ vals ++ #[]) h hle hcall (by simpa using hv) (fun κ hk => by cases hk) (fun κ hk => by cases hk) he
    · cases he
  · rename_i f as bs hy
    split at he
    · rename_i hf
      rw [hy] at hx
      cases hx with | one hx => cases hx with | pure r => cases r with
        | clo _ _ _ us0 vs0 val wal hu hv0 hus hvs hr hr' =>
          refine ⟨f, us0, vs0, rfl, hf, ?_⟩
          have h1 : ValsRep E G σ.H as us0.toList := vals_plain _ _ (by simp [hu]) (fun i p v hp hv => by
            have := hus i v (by simpa using hv); subst this; exact hr i p hp)
          have h2 : ValsRep E G σ.H bs vs0.toList := vals_plain _ _ (by simp [hv0]) (fun i p v hp hv => by
            have := hvs i v (by simpa using hv); subst this; exact hr' i p hp)
          exact op_callL (vals := us0 ++ vals ++ vs0) h hle hcall (by simpa using (h1.append hv).append h2) (fun κ hk => by cases hk) (fun κ hk => by cases hk) he
    · cases he
  · cases he

end
end Go.Ab

/- Part Okay. -/
namespace Go.Ab
open Go
set_option linter.unusedSimpArgs false

def eqvA : PV → Value → Bool
  | .agg ps, .agg vs => eqvs ps vs.toList
  | p, v => eqv p v

def okSrc : Operand → Src → Bool
  | .tmp t, .t i => t == i
  | .const v, .c p => eqvA p v
  | .func f, .c (.fn g) => f == g
  | _, _ => false

def okOpt : Option Operand → Option Src → Bool
  | none, none => true
  | some x, some y => okSrc x y
  | _, _ => false

def okArgs : List Operand → List Src → Bool
  | [], [] => true
  | x :: xs, y :: ys => okSrc x y && okArgs xs ys
  | _, _ => false

def okParts (places : List (Nat × Nat)) : List (Nat × Operand) → List (Nat × Nat × Src) → Bool
  | [], [] => true
  | (i, x) :: l, (off, size, y) :: m => (match places[i]? with | some p => p.1 == off && p.2 == size | none => false) && okSrc x y && okParts places l m
  | _, _ => false

def okRows : List (Nat × Operand) → List (Nat × Src) → Bool
  | [], [] => true
  | (i, x) :: l, (j, y) :: m => i == j && okSrc x y && okRows l m
  | _, _ => false

def slOf (P : Program) (t : Nat) : Nat :=
  match P.underlying t with
  | some (.slice e) => e
  | _ => 0

def isSl (P : Program) (t : Nat) : Bool :=
  match P.underlying t with
  | some (.slice _) => true
  | _ => false

def isStrT (P : Program) (t : Nat) : Bool :=
  match P.underlying t with
  | some .string => true
  | _ => false

theorem isSl_spec {P : Program} {t : Nat} (h : isSl P t = true) : P.underlying t = some (.slice (slOf P t)) := by
  unfold isSl at h; unfold slOf
  split at h
  · rename_i e hu; rw [hu]
  · cases h

theorem isStrT_spec {P : Program} {t : Nat} (h : isStrT P t = true) : P.underlying t = some .string := by
  unfold isStrT at h
  split at h
  · rename_i hu; exact hu
  · cases h

def bytesT (P : Program) (t : Nat) : Nat :=
  match P.info? t with
  | some i => i.bytes
  | none => 0

def okBuild (P : Program) (t : Nat) (zs : List PV) (xs : List (Nat × Operand)) (ps : List (Nat × Nat × Src)) : Bool :=
  zerosB P t zs &&
  match P.underlying t with
  | some (.struct fs) => (match fs.toList.mapM (fun f => (P.info? f.type).map fun i => (f.offset, i.size)) with | some places => okParts places xs ps | none => false)
  | _ => false

def okCallee (P : Program) (f : Nat) : Bool :=
  match P.funcs[f]? with
  | some fn => fn.name != "runtime.NumGoroutine" && fn.body.isSome
  | none => false

def okKey (np : Nat) : Option Nat → Bool
  | some κ => decide (np ≤ κ)
  | none => true

def okOp (P : Program) (np : Nat) (o : Op) : IOp → Bool
  | .mov y => (match o with | .move x | .assign x => okSrc x y | _ => false)
  | .movp y => (match o with | .move x | .assign x => okSrc x y | _ => false)
  | .pick c a b => (match o with | .pick x y z => okSrc x c && okSrc y a && okSrc z b | _ => false)
  | .nilarr κ _ => decide (np ≤ κ) && (match o with | .move x | .assign x => okSrc x (.c .nil) | _ => false)
  | .alloc κ zs => decide (np ≤ κ) && (match o with | .alloc t => zerosB P t zs | _ => false)
  | .box κ _ y => decide (np ≤ κ) && (match o with | .box _ x => okSrc x y | _ => false)
  | .build zs ps => (match o with | .build t xs => okBuild P t zs xs.toList ps | _ => false)
  | .buildSl ko sz zero n ps => okKey np ko && (match o with | .buildSlice t n' xs => n == n' && zrowB P t (slOf P t) sz (bytesT P (slOf P t)) zero && decide (n * sz ≤ 16777216) && okRows xs.toList ps | _ => false)
  | .makeSl κ sz by_ zero l c => decide (np ≤ κ) && (match o with | .makeSlice t x y => zrowB P t (slOf P t) sz by_ zero && okSrc x l && okSrc y c | _ => false)
  | .load n ag y => (match o with | .load t x => tyB P t n ag && okSrc x y | _ => false)
  | .store n y z => (match o with | .store t x u => szB P t n && okSrc x y && okSrc u z | _ => false)
  | .nilChk y => (match o with | .nilCheck x => okSrc x y | _ => false)
  | .bin op y z => (match o with | .binOp op' _ x u _ => op == op' && okSrc x y && okSrc u z | _ => false)
  | .eqB ne y z => (match o with | .binOp op t x u _ => op == (if ne then .neq else .eql) && (match P.underlying t with | some .bool => true | _ => false) && okSrc x y && okSrc u z | _ => false)
  | .eqAgg ne ks y z => (match o with | .binOp op t x u _ => op == (if ne then .neq else .eql) && eqAggB P t ks && okSrc x y && okSrc u z | _ => false)
  | .un op y => (match o with | .unOp op' _ x => op == op' && okSrc x y | _ => false)
  | .conv k y => (match o with | .convert s d x => convB P s d k && okSrc x y | _ => false)
  | .faddr off y => (match o with | .fieldAddr t x i => fldB P t i off && okSrc x y | _ => false)
  | .field off n ag y => (match o with | .field t x i => fldTyB P t i off n ag && okSrc x y | _ => false)
  | .iaddr sz y z => (match o with | .indexAddr t x u => isSl P t && szB P (slOf P t) sz && okSrc x y && okSrc u z | _ => false)
  | .index y z => (match o with | .index t x u => isStrT P t && okSrc x y && okSrc u z | _ => false)
  | .slice isStr sz y lo hi => (match o with | .slice t x l h none => slTyB P t isStr sz && okSrc x y && okOpt l lo && okOpt h hi | _ => false)
  | .len isStr y => (match o with | .call ⟨.builtin .len, as, ts⟩ => (match as.toList, ts.toList with | [x], [t] => lenTyB P t isStr && okSrc x y | _, _ => false) | _ => false)
  | .app ko sz by_ y z => okKey np ko && (match o with | .call ⟨.builtin .append, as, ts⟩ => (match as.toList, ts.toList with | [x, u], [t, tx] => elB P t (slOf P t) sz by_ && (isSl P tx || isStrT P tx) && okSrc x y && okSrc u z | _, _ => false) | _ => false)
  | .copy sz y z => (match o with | .call ⟨.builtin .copy, as, ts⟩ => (match as.toList, ts.toList with | [x, u], [t, _] => isSl P t && szB P (slOf P t) sz && okSrc x y && okSrc u z | _, _ => false) | _ => false)
  | .mm isMax y z => (match o with | .call ⟨.builtin b, as, _⟩ => (b == if isMax then .max else .min) && (match as.toList with | [x, u] => okSrc x y && okSrc u z | _ => false) | _ => false)
  | .extract y i => (match o with | .extract x j => i == j && okSrc x y | _ => false)
  | .call ko f ys => okKey np ko && (match o with | .call ⟨.value (.func g), as, _⟩ => f == g && okCallee P f && okArgs as.toList ys | _ => false)
  | .range κ y => decide (np ≤ κ) && (match o with | .range t x => isStrT P t && okSrc x y | _ => false)
  | .next y => (match o with | .next x true => okSrc x y | _ => false)
  | .mkFn f lo ys zs => decide (np ≤ lo) && (match o with | .makeFunc (.func g) first caps => f == g && okArgs first.toList ys && okArgs caps.toList zs | _ => false)
  | .callv y fs ys => (match o with | .call ⟨.value c, as, _⟩ => okSrc c y && fs.all (okCallee P) && okArgs as.toList ys | _ => false)
  | .isNil y => (match o with | .binOp op t x u _ => op == .eql && isSl P t && okSrc x y && okSrc u (.c .nil) | _ => false)
  | .mkMap κ => decide (np ≤ κ) && (match o with | .makeMap _ none => true | _ => false)
  | .mapSet y z u => (match o with | .mapUpdate t m k x => mapTB P t && okSrc m y && okSrc k z && okSrc x u | .insert t m k x => mapTB P t && okSrc m y && okSrc k z && okSrc x u | _ => false)
  | .mapGet y z => (match o with | .lookup t m k false => mapTB P t && okSrc m y && okSrc k z | _ => false)
  | .mapLen y => (match o with | .call ⟨.builtin .len, as, ts⟩ => (match as.toList, ts.toList with | [x], [t] => mapTB P t && okSrc x y | _, _ => false) | _ => false)

section
variable {nt : Nat} {base : World} {pb : List (Nat × Nat)} {G0 : Ghost} {P : Program} {σ : St} {E : Env} {G : Ghost} {a : Act} {w : World}

theorem eqvA_rep {p : PV} {v : Value} (h : eqvA p v = true) : Rep E G p v ∧ refs p = [] := by
  unfold eqvA at h
  split at h
  · rename_i ps vs
    obtain ⟨hl, hg⟩ := eqvs_get h
    have hr : RepP G (.agg ps) (.agg vs) := .agg ps vs (by simpa using hl) (fun i c v h1 h2 => eqv_rep (hg i c v h1 (by simpa using h2)))
    exact ⟨hr.rep, hr.refs⟩
  · have hr : RepP G p v := .one (eqv_rep h)
    exact ⟨hr.rep, hr.refs⟩

theorem okSrc_rep (h : Rel nt base pb G0 σ E G a w) {x : Operand} {y : Src} (hs : okSrc x y = true) : Rep E G (val σ.T y) (a.eval x) ∧ Cl σ.H (val σ.T y) := by
  unfold okSrc at hs
  split at hs
  · rename_i t i
    simp only [beq_iff_eq] at hs; subst hs
    exact ⟨h.tm t, h.cT t⟩
  · obtain ⟨h1, h2⟩ := eqvA_rep (E := E) (G := G) hs
    exact ⟨h1, Cl.nil h2⟩
  · simp only [beq_iff_eq] at hs; subst hs
    exact ⟨.one (.pure (.fn _)), Cl.nil rfl⟩
  · cases hs

theorem okArgs_rep (h : Rel nt base pb G0 σ E G a w) : ∀ {xs : List Operand} {ys : List Src}, okArgs xs ys = true → ValsRep E G σ.H (ys.map (val σ.T)) (xs.map a.eval)
  | [], [], _ => .nil
  | [], _ :: _, hs => by simp [okArgs] at hs
  | _ :: _, [], hs => by simp [okArgs] at hs
  | x :: xs, y :: ys, hs => by
    simp only [okArgs, Bool.and_eq_true] at hs
    obtain ⟨h1, h2⟩ := okSrc_rep h hs.1
    exact .cons _ _ _ _ h1 h2 (okArgs_rep h hs.2)

theorem okParts_rep (h : Rel nt base pb G0 σ E G a w) {places : List (Nat × Nat)} : ∀ {xs : List (Nat × Operand)} {ys : List (Nat × Nat × Src)}, okParts places xs ys = true →
    PRel (places.toArray[·]?) E G (xs.map fun p => (p.1, a.eval p.2)) (ys.map fun p => (p.1, p.2.1, val σ.T p.2.2)) ∧ ∀ q ∈ ys, Cl σ.H (val σ.T q.2.2)
  | [], [], _ => ⟨.nil, fun q hq => by cases hq⟩
  | [], _ :: _, hs => by simp [okParts] at hs
  | (_, _) :: _, [], hs => by simp [okParts] at hs
  | (i, x) :: xs, (off, size, y) :: ys, hs => by
    simp only [okParts, Bool.and_eq_true] at hs
    obtain ⟨⟨hp, hx⟩, hr⟩ := hs
    obtain ⟨h1, h2⟩ := okSrc_rep h hx
    obtain ⟨h3, h4⟩ := okParts_rep h hr
    split at hp
    · rename_i p hpl
      simp only [Bool.and_eq_true, beq_iff_eq] at hp
      obtain ⟨rfl, rfl⟩ := hp
      refine ⟨.cons _ _ _ _ _ _ _ (by simpa using hpl) h1 h3, fun q hq => ?_⟩
      rcases List.mem_cons.1 hq with rfl | hq
      · exact h2
      · exact h4 q hq
    · cases hp

theorem okRows_rep (h : Rel nt base pb G0 σ E G a w) : ∀ {xs : List (Nat × Operand)} {ys : List (Nat × Src)}, okRows xs ys = true →
    RRel E G (xs.map fun p => (p.1, a.eval p.2)) (ys.map fun p => (p.1, val σ.T p.2)) ∧ ∀ q ∈ ys, Cl σ.H (val σ.T q.2)
  | [], [], _ => ⟨.nil, fun q hq => by cases hq⟩
  | [], _ :: _, hs => by simp [okRows] at hs
  | (_, _) :: _, [], hs => by simp [okRows] at hs
  | (i, x) :: xs, (j, y) :: ys, hs => by
    simp only [okRows, Bool.and_eq_true, beq_iff_eq] at hs
    obtain ⟨⟨rfl, hx⟩, hr⟩ := hs
    obtain ⟨h1, h2⟩ := okSrc_rep h hx
    obtain ⟨h3, h4⟩ := okRows_rep h hr
    refine ⟨.cons _ _ _ _ _ h1 h3, fun q hq => ?_⟩
    rcases List.mem_cons.1 hq with rfl | hq
    · exact h2
    · exact h4 q hq

theorem okOpt_rep (h : Rel nt base pb G0 σ E G a w) : ∀ {x : Option Operand} {y : Option Src}, okOpt x y = true → BndR E G (val σ.T) y (x.map a.eval)
  | none, none, _ => .none
  | none, some _, hs => by simp [okOpt] at hs
  | some _, none, hs => by simp [okOpt] at hs
  | some x, some y, hs => .some _ _ (okSrc_rep h hs).1

/-- What an operation leaves behind. -/
def Left (nt : Nat) (base : World) (pb : List (Nat × Nat)) (G0 : Ghost) (σ : St) (a : Act) (d : Option Nat) (v : PV) (us : List (Nat × Blk)) (K : Act → World → Prop) : Prop :=
  ∀ x w' E' G', Rel nt base pb G0 ⟨σ.T, ups σ.H us⟩ E' G' a w' → Rep E' G' v x → Cl (ups σ.H us) v → K (a.put d x) w'

/-- No bounds but the round that it stands in. -/
abbrev FR (r : Option Nat) : Fence := { Fence.wide with round := r }

theorem callsIn_FR {r : Option Nat} {m : Nat} {f : FuncId} {args : Array Value} {R : Ending → World → Prop} : CallsIn (FR r) m P f args w R ↔ Calls P f args w R := callsIn_wide (n := m)

/-- One operation, run. -/
def opRun (r : Option Nat) (m : Nat) (P : Program) (o : Oper) (a : Act) (w : World) (K : Act → World → Prop) (Q : Exit → Act → World → Prop) : Prop := o.uponIn (FR r) m P a K Q ((execOp a.eval o).run P w)

theorem opRun.wpIn {r : Option Nat} {m : Nat} {o : Oper} {K : Act → World → Prop} {Q : Exit → Act → World → Prop} (h : opRun r m P o a w K Q) (hn : ∀ c, o.op ≠ .defer c) : o.wpIn (FR r) m P a w K Q :=
  ⟨fun _ _ => trivial, by rw [Oper.semAt_eq _ _ _ hn]; exact h⟩

theorem okOp_nodefer {np : Nat} {o : Op} {io : IOp} (h : okOp P np o io = true) : ∀ c, o ≠ .defer c := by
  intro c e
  subst e
  cases io <;> simp [okOp] at h

theorem wp_out {r : Option Nat} {m : Nat} {o : Oper} {s : Sem Value} (he : execOp a.eval o = (do let x ← s; pure (.value x))) {v : PV} {us : List (Nat × Blk)} (ho : OpOut nt base pb G0 P σ a s w v us) {K : Act → World → Prop} {Q : Exit → Act → World → Prop}
    (hK : Left nt base pb G0 σ a o.dst v us K) : opRun r m P o a w K Q := by
  obtain ⟨x, w', E', G', hr, hrel, hrep, hcl⟩ := ho
  unfold opRun
  rw [he]
  simp only [Sem.run_bind, hr, Result.andThen_ok, Sem.run_pure]
  exact hK x w' E' G' hrel hrep hcl

theorem OpOut.mov (h : Rel nt base pb G0 σ E G a w) {x : Value} {v : PV} (hr : Rep E G v x) (hc : Cl σ.H v) : OpOut nt base pb G0 P σ a (pure x) w v [] := .same h rfl hr hc

theorem op_sound {r : Option Nat} {m : Nat} (h : Rel nt base pb G0 σ E G a w) {hh : Hp} (hle : ∀ κ B, hh κ = some B → σ.H κ = some B) {ks : List Nat} (hks : ∀ κ ∈ ks, hh κ = σ.H κ) {call : CallF} (hcall : CallOk P call) {np : Nat} (hnp : ∀ κ b, (κ, b) ∈ pb → κ < np) {o : Oper} {io : IOp} (hok : okOp P np o.op io = true)
    {v : PV} {us : List (Nat × Blk)} (hus : ∀ u ∈ us, u.1 ∈ ks) (he : evOp call (val σ.T) hh io = some (v, us)) {K : Act → World → Prop} {Q : Exit → Act → World → Prop} (hK : Left nt base pb G0 σ a o.dst v us K) : opRun r m P o a w K Q := by
  have hfr : ∀ κ, np ≤ κ → ∀ b, (κ, b) ∉ pb := fun κ hκ b hm => by have := hnp κ b hm; omega
  have hfo : ∀ ko, okKey np ko = true → ∀ κ, ko = some κ → ∀ b, (κ, b) ∉ pb := fun ko hk κ e => by subst e; exact hfr κ (by simpa [okKey] using hk)
  cases io with
  | mov y =>
    cases ho : o.op <;> simp only [okOp, ho, Bool.false_eq_true] at hok
    all_goals
      obtain ⟨h1, h2⟩ := okSrc_rep h hok
      simp only [evOp, Option.some.injEq, Prod.mk.injEq] at he
      obtain ⟨rfl, rfl⟩ := he
      exact wp_out (by unfold execOp; rw [ho]; rfl) (OpOut.mov h h1 h2) hK
  | movp y =>
    cases ho : o.op <;> simp only [okOp, ho, Bool.false_eq_true] at hok
    all_goals
      obtain ⟨h1, h2⟩ := okSrc_rep h hok
      simp only [evOp] at he
      split at he
      · rename_i p hp
        simp only [Option.some.injEq, Prod.mk.injEq] at he
        obtain ⟨rfl, rfl⟩ := he
        obtain ⟨G1, hg1, hr1, ho1, hs1, hn1⟩ := Rel.freezes (h := hh) (refs (val σ.T y)) (H := σ.H) h (.of_le hle)
        have hr := pur_rep hp h1 hg1 ho1
        exact wp_out (s := pure _) (by unfold execOp; rw [ho]; rfl) ⟨_, w, E, G1, rfl, hr1, hr.rep, Cl.nil hr.refs⟩ hK
      · cases he
  | pick c y z =>
    cases ho : o.op <;> simp only [okOp, ho, Bool.false_eq_true] at hok
    simp only [Bool.and_eq_true] at hok
    obtain ⟨⟨hc, hy⟩, hz⟩ := hok
    obtain ⟨c1, c2⟩ := okSrc_rep h hc
    obtain ⟨y1, y2⟩ := okSrc_rep h hy
    obtain ⟨z1, z2⟩ := okSrc_rep h hz
    simp only [evOp] at he
    split at he
    · rename_i t ht
      simp only [Option.some.injEq, Prod.mk.injEq] at he
      obtain ⟨rfl, rfl⟩ := he
      rw [ht] at c1
      have e1 := rep_bool c1
      unfold opRun execOp
      rw [ho]
      simp only [Sem.run_bind, e1, asBool, Sem.run_pure, Result.andThen_ok]
      cases t
      · exact hK _ w E G h z1 z2
      · exact hK _ w E G h y1 y2
    · cases he
  | nilarr κ sz =>
    have hκ : hh κ = σ.H κ := by
      have he' := he
      simp only [evOp] at he'
      split at he'
      · simp only [Option.some.injEq, Prod.mk.injEq] at he'; obtain ⟨rfl, rfl⟩ := he'; exact hks κ (hus (κ, _) (List.mem_singleton.2 rfl))
      · cases he'
    have hkp : ∀ b, (κ, b) ∉ pb := hfr κ (by simp only [okOp, Bool.and_eq_true, decide_eq_true_eq] at hok; exact hok.1)
    replace hok := (Bool.and_eq_true _ _ ▸ hok).2
    cases ho : o.op <;> simp only [ho, Bool.false_eq_true] at hok
    all_goals
      obtain ⟨h1, h2⟩ := okSrc_rep h hok
      rename_i x
      have e1 : a.eval x = .slice none 0 0 := by
        generalize a.eval x = z at h1
        simp only [val] at h1
        cases h1 with | one h1 => cases h1 with | pure h1 => cases h1; rfl
      exact wp_out (s := pure (.slice none 0 0)) (by unfold execOp; rw [ho]; simp only [e1]; rfl) (op_nilarr (P := P) h hκ hkp he) hK
  | alloc κ zs =>
    have hκ : hh κ = σ.H κ := by
      have he' := he
      simp only [evOp] at he'
      split at he'
      · simp only [Option.some.injEq, Prod.mk.injEq] at he'; obtain ⟨rfl, rfl⟩ := he'; exact hks κ (hus (κ, _) (List.mem_singleton.2 rfl))
      · cases he'
    have hkp : ∀ b, (κ, b) ∉ pb := hfr κ (by simp only [okOp, Bool.and_eq_true, decide_eq_true_eq] at hok; exact hok.1)
    replace hok := (Bool.and_eq_true _ _ ▸ hok).2
    cases ho : o.op <;> simp only [ho, Bool.false_eq_true] at hok
    exact wp_out (by unfold execOp; rw [ho]) (op_alloc h hok hκ hkp he) hK
  | box κ n y =>
    have hκ : hh κ = σ.H κ := by
      have he' := he
      simp only [evOp] at he'
      split at he'
      · simp only [Option.some.injEq, Prod.mk.injEq] at he'; obtain ⟨rfl, rfl⟩ := he'; exact hks κ (hus (κ, _) (List.mem_singleton.2 rfl))
      · cases he'
    have hkp : ∀ b, (κ, b) ∉ pb := hfr κ (by simp only [okOp, Bool.and_eq_true, decide_eq_true_eq] at hok; exact hok.1)
    replace hok := (Bool.and_eq_true _ _ ▸ hok).2
    cases ho : o.op <;> simp only [ho, Bool.false_eq_true] at hok
    obtain ⟨h1, h2⟩ := okSrc_rep h hok
    exact wp_out (by unfold execOp; rw [ho]) (op_box h h1 h2 hκ hkp he) hK
  | build zs ps =>
    cases ho : o.op <;> simp only [okOp, ho, Bool.false_eq_true] at hok
    rename_i t xs
    simp only [okBuild, Bool.and_eq_true] at hok
    obtain ⟨hz, hp⟩ := hok
    obtain ⟨i, z, hi, hz0, hzs, _⟩ := zerosB_spec hz
    split at hp
    · rename_i fs hu
      split at hp
      · rename_i places hpl
        obtain ⟨h1, h2⟩ := okParts_rep h hp
        exact wp_out (s := Instr.build t (xs.map fun (i, x) => (i, a.eval x))) (by unfold execOp; rw [ho]) (op_build h hi hz0 hzs hu hpl (by simpa using h1) h2 he) hK
      · cases hp
    · cases hp
  | buildSl ko sz zero n ps =>
    have hkp := hfo ko (by simp only [okOp, Bool.and_eq_true] at hok; exact hok.1)
    replace hok := (Bool.and_eq_true _ _ ▸ hok).2
    cases ho : o.op <;> simp only [ho, Bool.false_eq_true] at hok
    rename_i t n' xs
    simp only [Bool.and_eq_true, beq_iff_eq, decide_eq_true_eq] at hok
    obtain ⟨⟨⟨rfl, hz⟩, hsm⟩, hr⟩ := hok
    obtain ⟨h1, h2⟩ := okRows_rep h hr
    have hκ : ∀ κ, ko = some κ → hh κ = σ.H κ := fun κ hk => by
      subst hk
      have he' := he
      simp only [evOp] at he'
      split at he'
      · split at he'
        · simp only [Option.some.injEq, Prod.mk.injEq] at he'; obtain ⟨rfl, rfl⟩ := he'; exact hks κ (hus (κ, _) (List.mem_append_right _ (List.mem_singleton.2 rfl)))
        · cases he'
      · cases he'
    exact wp_out (s := Instr.buildSlice t n (xs.map fun (i, x) => (i, a.eval x))) (by unfold execOp; rw [ho]) (op_buildSl h hle hz hsm (by simpa using h1) h2 hκ hkp he) hK
  | makeSl κ sz by_ zero l c =>
    have hκ : hh κ = σ.H κ := by
      have he' := he
      simp only [evOp] at he'
      split at he'
      · split at he'
        · simp only [Option.some.injEq, Prod.mk.injEq] at he'; obtain ⟨rfl, rfl⟩ := he'; exact hks κ (hus (κ, _) (List.mem_singleton.2 rfl))
        · cases he'
      · cases he'
    have hkp : ∀ b, (κ, b) ∉ pb := hfr κ (by simp only [okOp, Bool.and_eq_true, decide_eq_true_eq] at hok; exact hok.1)
    replace hok := (Bool.and_eq_true _ _ ▸ hok).2
    cases ho : o.op <;> simp only [ho, Bool.false_eq_true] at hok
    simp only [Bool.and_eq_true] at hok
    obtain ⟨⟨hz, hy⟩, hu⟩ := hok
    exact wp_out (by unfold execOp; rw [ho]) (op_makeSl h hz hκ hkp (okSrc_rep h hy).1 (okSrc_rep h hu).1 he) hK
  | load n ag y =>
    cases ho : o.op <;> simp only [okOp, ho, Bool.false_eq_true] at hok
    simp only [Bool.and_eq_true] at hok
    exact wp_out (by unfold execOp; rw [ho]) (op_load h hle hok.1 (okSrc_rep h hok.2).1 he) hK
  | store n y z =>
    cases ho : o.op <;> simp only [okOp, ho, Bool.false_eq_true] at hok
    simp only [Bool.and_eq_true] at hok
    obtain ⟨⟨ht, hy⟩, hz⟩ := hok
    obtain ⟨rfl, w', E', G', hrun, hrel⟩ := op_store h hle ht (okSrc_rep h hy).1 (okSrc_rep h hz).1 (okSrc_rep h hz).2 he
    unfold opRun execOp
    rw [ho]
    simp only [Sem.run_bind, hrun, Result.andThen_ok, Sem.run_pure]
    exact hK _ w' E' G' hrel .never (Cl.nil rfl)
  | nilChk y =>
    cases ho : o.op <;> simp only [okOp, ho, Bool.false_eq_true] at hok
    obtain ⟨h1, h2⟩ := okSrc_rep h hok
    obtain ⟨⟨ad, had⟩, rfl, hr, hc⟩ := op_nilChk h hle h1 h2 he
    unfold opRun execOp
    rw [ho]
    simp only [had]
    rw [had] at hr
    exact hK _ w E G h hr hc
  | bin op y z =>
    cases ho : o.op <;> simp only [okOp, ho, Bool.false_eq_true] at hok
    simp only [Bool.and_eq_true, beq_iff_eq] at hok
    obtain ⟨⟨rfl, hy⟩, hz⟩ := hok
    exact wp_out (by unfold execOp; rw [ho]) (op_bin h (okSrc_rep h hy).1 (okSrc_rep h hz).1 he) hK
  | eqB ne y z =>
    cases ho : o.op <;> simp only [okOp, ho, Bool.false_eq_true] at hok
    simp only [Bool.and_eq_true, beq_iff_eq] at hok
    obtain ⟨⟨⟨rfl, ht⟩, hy⟩, hz⟩ := hok
    split at ht
    · rename_i hu
      exact wp_out (by unfold execOp; rw [ho]) (op_eqB h hu (okSrc_rep h hy).1 (okSrc_rep h hz).1 he) hK
    · cases ht
  | eqAgg ne kk y z =>
    cases ho : o.op <;> simp only [okOp, ho, Bool.false_eq_true] at hok
    simp only [Bool.and_eq_true, beq_iff_eq] at hok
    obtain ⟨⟨⟨rfl, ht⟩, hy⟩, hz⟩ := hok
    exact wp_out (by unfold execOp; rw [ho]) (op_eqAgg h ht (okSrc_rep h hy).1 (okSrc_rep h hz).1 he) hK
  | un op y =>
    cases ho : o.op <;> simp only [okOp, ho, Bool.false_eq_true] at hok
    simp only [Bool.and_eq_true, beq_iff_eq] at hok
    obtain ⟨rfl, hy⟩ := hok
    exact wp_out (by unfold execOp; rw [ho]) (op_un h (okSrc_rep h hy).1 he) hK
  | conv k y =>
    cases ho : o.op <;> simp only [okOp, ho, Bool.false_eq_true] at hok
    simp only [Bool.and_eq_true] at hok
    exact wp_out (by unfold execOp; rw [ho]) (op_conv h hle hok.1 (okSrc_rep h hok.2).1 he) hK
  | faddr off y =>
    cases ho : o.op <;> simp only [okOp, ho, Bool.false_eq_true] at hok
    simp only [Bool.and_eq_true] at hok
    exact wp_out (by unfold execOp; rw [ho]) (op_faddr h hle hok.1 (okSrc_rep h hok.2).1 (okSrc_rep h hok.2).2 he) hK
  | field off n ag y =>
    cases ho : o.op <;> simp only [okOp, ho, Bool.false_eq_true] at hok
    simp only [Bool.and_eq_true] at hok
    exact wp_out (by unfold execOp; rw [ho]) (op_field h hok.1 (okSrc_rep h hok.2).1 (okSrc_rep h hok.2).2 he) hK
  | iaddr sz y z =>
    cases ho : o.op <;> simp only [okOp, ho, Bool.false_eq_true] at hok
    simp only [Bool.and_eq_true] at hok
    obtain ⟨⟨⟨ht, hs⟩, hy⟩, hz⟩ := hok
    exact wp_out (by unfold execOp; rw [ho]) (op_iaddr h hle (isSl_spec ht) hs (okSrc_rep h hy).1 (okSrc_rep h hz).1 (okSrc_rep h hy).2 he) hK
  | index y z =>
    cases ho : o.op <;> simp only [okOp, ho, Bool.false_eq_true] at hok
    simp only [Bool.and_eq_true] at hok
    obtain ⟨⟨ht, hy⟩, hz⟩ := hok
    exact wp_out (by unfold execOp; rw [ho]) (op_index h (isStrT_spec ht) (okSrc_rep h hy).1 (okSrc_rep h hz).1 he) hK
  | slice isStr sz y lo hi =>
    cases ho : o.op <;> simp only [okOp, ho, Bool.false_eq_true] at hok
    rename_i t x l r mx
    cases mx with
    | some m => simp at hok
    | none =>
      simp only [Bool.and_eq_true] at hok
      obtain ⟨⟨⟨ht, hy⟩, hl⟩, hr⟩ := hok
      exact wp_out (s := Instr.sliceAt t (a.eval x) (l.map a.eval) (r.map a.eval) none) (by unfold execOp; rw [ho]; rfl) (op_slice h hle ht (okSrc_rep h hy).1 (okSrc_rep h hy).2 (okOpt_rep h hl) (okOpt_rep h hr) he) hK
  | len isStr y =>
    cases ho : o.op <;> simp only [okOp, ho, Bool.false_eq_true] at hok
    split at hok
    · rename_i as ts hcc
      injection hcc with hcc; subst hcc
      split at hok
      · rename_i x t hx ht
        simp only [Bool.and_eq_true] at hok
        have e1 : as = #[x] := by cases as; simp_all
        have e2 : ts = #[t] := by cases ts; simp_all
        subst e1; subst e2
        refine wp_out (s := Builtin.len_ #[t] o.type #[a.eval x]) ?_ (op_len h hle hok.1 (okSrc_rep h hok.2).1 he) hK
        unfold execOp; rw [ho]; simp [resolve, invoke, builtin]
      · cases hok
    · cases hok
  | app ko sz by_ y z =>
    have hκ : ∀ κ, ko = some κ → val σ.T y = .nil → hh κ = σ.H κ := fun κ hk hn => by
      subst hk
      have he' := he
      simp only [evOp, hn] at he'
      split at he'
      · split at he'
        · split at he'
          · simp only [Option.some.injEq, Prod.mk.injEq] at he'; obtain ⟨rfl, rfl⟩ := he'; exact hks κ (hus (κ, _) (List.mem_singleton.2 rfl))
          · cases he'
        · cases he'
      · cases he'
    have hkp := hfo ko (by simp only [okOp, Bool.and_eq_true] at hok; exact hok.1)
    replace hok := (Bool.and_eq_true _ _ ▸ hok).2
    cases ho : o.op <;> simp only [ho, Bool.false_eq_true] at hok
    split at hok
    · rename_i as ts hcc
      injection hcc with hcc; subst hcc
      split at hok
      · rename_i x u t tx hx ht
        simp only [Bool.and_eq_true, Bool.or_eq_true] at hok
        obtain ⟨⟨⟨hel, htx⟩, hy⟩, hz⟩ := hok
        have e1 : as = #[x, u] := by cases as; simp_all
        have e2 : ts = #[t, tx] := by cases ts; simp_all
        subst e1; subst e2
        refine wp_out (s := Builtin.append_ #[t, tx] o.type #[a.eval x, a.eval u]) ?_ (op_app h hle hel (htx.imp (fun hs => ⟨_, isSl_spec hs⟩) isStrT_spec) hκ hkp (okSrc_rep h hy).1 (okSrc_rep h hz).1 he) hK
        unfold execOp; rw [ho]; simp [resolve, invoke, builtin]
      · cases hok
    · cases hok
  | copy sz y z =>
    cases ho : o.op <;> simp only [okOp, ho, Bool.false_eq_true] at hok
    split at hok
    · rename_i as ts hcc
      injection hcc with hcc; subst hcc
      split at hok
      · rename_i x u t tx hx ht
        simp only [Bool.and_eq_true] at hok
        obtain ⟨⟨⟨hu, hs⟩, hy⟩, hz⟩ := hok
        have e1 : as = #[x, u] := by cases as; simp_all
        have e2 : ts = #[t, tx] := by cases ts; simp_all
        subst e1; subst e2
        refine wp_out (s := Builtin.copy_ #[t, tx] o.type #[a.eval x, a.eval u]) ?_ (op_copy h hle (isSl_spec hu) hs (okSrc_rep h hy).1 (okSrc_rep h hz).1 he) hK
        unfold execOp; rw [ho]; simp [resolve, invoke, builtin]
      · cases hok
    · cases hok
  | mm isMax y z =>
    cases ho : o.op <;> simp only [okOp, ho, Bool.false_eq_true] at hok
    split at hok
    · rename_i b as ts hcc
      injection hcc with hcc; subst hcc
      simp only [Bool.and_eq_true, beq_iff_eq] at hok
      obtain ⟨hb, hok⟩ := hok
      split at hok
      · rename_i x u hx
        simp only [Bool.and_eq_true] at hok
        have e1 : as = #[x, u] := by cases as; simp_all
        subst e1; subst hb
        refine wp_out (s := if isMax then Builtin.max_ ts o.type #[a.eval x, a.eval u] else Builtin.min_ ts o.type #[a.eval x, a.eval u]) ?_ (op_mm h (okSrc_rep h hok.1).1 (okSrc_rep h hok.2).1 he) hK
        unfold execOp; rw [ho]; cases isMax <;> simp [resolve, invoke, builtin]
      · cases hok
    · cases hok
  | extract y i =>
    cases ho : o.op <;> simp only [okOp, ho, Bool.false_eq_true] at hok
    simp only [Bool.and_eq_true, beq_iff_eq] at hok
    obtain ⟨rfl, hy⟩ := hok
    exact wp_out (by unfold execOp; rw [ho]) (op_extract h (okSrc_rep h hy).1 he) hK
  | call ro f ys =>
    have hκ : ∀ κ, ro = some κ → (∃ r, (call f ((lends hh (ys.map (val σ.T))).getD [])) = some r ∧ ∃ cs, r.1 = .boxed cs) → hh κ = σ.H κ := fun κ hk hr => by
      subst hk
      have he' := he
      simp only [evOp, evCall] at he'
      split at he'
      · rename_i as hl
        rw [hl] at hr
        obtain ⟨⟨res, os⟩, hc, cs, hcs⟩ := hr
        simp only [Option.getD_some] at hc hcs
        subst hcs
        rw [hc] at he'
        simp only at he'
        split at he'
        · split at he'
          · split at he'
            · simp only [Option.some.injEq, Prod.mk.injEq] at he'; obtain ⟨rfl, rfl⟩ := he'; exact hks κ (hus (κ, _) (List.mem_append_right _ (List.mem_singleton.2 rfl)))
            · cases he'
          · cases he'
        · cases he'
      · cases he'
    have hkp := hfo ro (by simp only [okOp, Bool.and_eq_true] at hok; exact hok.1)
    replace hok := (Bool.and_eq_true _ _ ▸ hok).2
    cases ho : o.op <;> simp only [ho, Bool.false_eq_true] at hok
    split at hok
    · rename_i g as ts hcc
      injection hcc with hcc; subst hcc
      simp only [Bool.and_eq_true, beq_iff_eq] at hok
      obtain ⟨⟨rfl, hf⟩, has⟩ := hok
      have hv := okArgs_rep h has
      have hrun : (execOp a.eval o).run P w = .ok (.enter f (as.map a.eval)) w := by
        unfold okCallee at hf
        split at hf
        · rename_i fn hfn
          simp only [Bool.and_eq_true, bne_iff_ne] at hf
          unfold execOp; rw [ho]
          have hb : ¬ fn.body = none := by cases hbb : fn.body <;> simp_all
          simp [resolve, Act.eval, Deferred.ofValue, invoke, callFunc, hfn, hf.1, hb]
        · cases hf
      unfold opRun
      rw [hrun, Oper.uponIn_enter]
      have hc := op_call (vals := as.map a.eval) h hle hcall (by simpa using hv) hκ hkp he
      refine ⟨(fun h => nomatch h), callsIn_FR.2 ?_⟩
      exact hc.mono fun e w' ⟨x, E', G', hx, hrel, hrep, hcl⟩ => by subst hx; exact hK x w' E' G' hrel hrep hcl
    · cases hok
  | range κ y =>
    have hκ : hh κ = σ.H κ := by
      have he' := he
      simp only [evOp] at he'
      split at he'
      · split at he'
        · simp only [Option.some.injEq, Prod.mk.injEq] at he'; obtain ⟨rfl, rfl⟩ := he'; exact hks κ (hus (κ, _) (List.mem_singleton.2 rfl))
        · cases he'
      · cases he'
    have hkp : ∀ b, (κ, b) ∉ pb := hfr κ (by simp only [okOp, Bool.and_eq_true, decide_eq_true_eq] at hok; exact hok.1)
    replace hok := (Bool.and_eq_true _ _ ▸ hok).2
    cases ho : o.op <;> simp only [ho, Bool.false_eq_true] at hok
    simp only [Bool.and_eq_true] at hok
    exact wp_out (by unfold execOp; rw [ho]) (op_range h (isStrT_spec hok.1) (okSrc_rep h hok.2).1 hκ hkp he) hK
  | next y =>
    cases ho : o.op <;> simp only [okOp, ho, Bool.false_eq_true] at hok
    rename_i x b
    cases b with
    | false => simp at hok
    | true => exact wp_out (by unfold execOp; rw [ho]) (op_next h hle (okSrc_rep h hok).1 he) hK
  | mkFn f lo ys zs =>
    have hlo : np ≤ lo := by simp only [okOp, Bool.and_eq_true, decide_eq_true_eq] at hok; exact hok.1
    replace hok := (Bool.and_eq_true _ _ ▸ hok).2
    cases ho : o.op <;> simp only [ho, Bool.false_eq_true] at hok
    rename_i fn0 first0 caps0
    cases fn0 <;> simp only [Bool.false_eq_true] at hok
    simp only [Bool.and_eq_true, beq_iff_eq] at hok
    obtain ⟨⟨rfl, hy⟩, hz⟩ := hok
    have r1 := okArgs_rep h hy
    have r2 := okArgs_rep h hz
    exact wp_out (s := Instr.makeFunc (.func f) (first0.map a.eval) (caps0.map a.eval)) (by unfold execOp; rw [ho]) (op_mkFn h hle (fun κ b hκ hm => by have := hnp κ b hm; omega) (xs := first0.map a.eval) (ys := caps0.map a.eval) (by rw [List.map_append]; simpa using r1.append r2) (by have := r1.len; simpa using this.symm) he) hK
  | callv y fs ys =>
    cases ho : o.op <;> simp only [okOp, ho, Bool.false_eq_true] at hok
    split at hok
    · rename_i c as ts hcc
      injection hcc with hcc; subst hcc
      simp only [Bool.and_eq_true] at hok
      obtain ⟨⟨hy, hfs⟩, has⟩ := hok
      have hv := okArgs_rep h has
      obtain ⟨f, us0, vs0, hx, hf, hc⟩ := op_callv (vals := as.map a.eval) h hle hcall (okSrc_rep h hy).1 (by simpa using hv) he
      have hf := List.all_eq_true.1 hfs f (by simpa using hf)
      have hrun : (execOp a.eval o).run P w = .ok (.enter f (us0 ++ as.map a.eval ++ vs0)) w := by
        unfold okCallee at hf
        split at hf
        · rename_i fn hfn
          simp only [Bool.and_eq_true, bne_iff_ne] at hf
          unfold execOp; rw [ho]
          have hb : ¬ fn.body = none := by cases hbb : fn.body <;> simp_all
          simp [resolve, hx, Deferred.ofValue, invoke, callFunc, hfn, hf.1, hb]
        · cases hf
      unfold opRun
      rw [hrun, Oper.uponIn_enter]
      refine ⟨(fun h => nomatch h), callsIn_FR.2 ?_⟩
      exact hc.mono fun e w' ⟨x, E', G', hx, hrel, hrep, hcl⟩ => by subst hx; exact hK x w' E' G' hrel hrep hcl
    · cases hok
  | isNil y =>
    cases ho : o.op <;> simp only [okOp, ho, Bool.false_eq_true] at hok
    rename_i op t x u pos
    simp only [Bool.and_eq_true, beq_iff_eq] at hok
    obtain ⟨⟨⟨rfl, ht⟩, hy⟩, hz⟩ := hok
    have e1 : a.eval u = .slice none 0 0 := by
      have h1 := (okSrc_rep h hz).1
      generalize a.eval u = z at h1
      simp only [val] at h1
      cases h1 with | one h1 => cases h1 with | pure h1 => cases h1; rfl
    exact wp_out (by unfold execOp; rw [ho]; simp only [e1]) (op_isNil (oy := x) (oz := u) h (isSl_spec ht) (okSrc_rep h hy).1 he) hK
  | mkMap κ =>
    have hκ : hh κ = σ.H κ := by
      have he' := he
      simp only [evOp] at he'
      split at he'
      · simp only [Option.some.injEq, Prod.mk.injEq] at he'; obtain ⟨rfl, rfl⟩ := he'; exact hks κ (hus (κ, _) (List.mem_singleton.2 rfl))
      · cases he'
    have hkp : ∀ b, (κ, b) ∉ pb := hfr κ (by simp only [okOp, Bool.and_eq_true, decide_eq_true_eq] at hok; exact hok.1)
    replace hok := (Bool.and_eq_true _ _ ▸ hok).2
    cases ho : o.op <;> simp only [ho, Bool.false_eq_true] at hok
    rename_i t r
    cases r with
    | some r => simp at hok
    | none => exact wp_out (by unfold execOp; rw [ho]; rfl) (op_mkMap (t := t) h hκ hkp he) hK
  | mapSet y z u =>
    cases ho : o.op <;> simp only [okOp, ho, Bool.false_eq_true] at hok
    all_goals
      simp only [Bool.and_eq_true] at hok
      obtain ⟨⟨⟨ht, hy⟩, hz⟩, hu⟩ := hok
      obtain ⟨rfl, w', E', G', hrun, hrel⟩ := op_mapSet h hle ht (okSrc_rep h hy).1 (okSrc_rep h hz).1 (okSrc_rep h hu).1 he
      unfold opRun execOp
      rw [ho]
      simp only [Sem.run_bind, hrun, Result.andThen_ok, Sem.run_pure]
      exact hK _ w' E' G' hrel .never (Cl.nil rfl)
  | mapGet y z =>
    cases ho : o.op <;> simp only [okOp, ho, Bool.false_eq_true] at hok
    rename_i t m k b
    cases b with
    | true => simp at hok
    | false =>
      simp only [Bool.and_eq_true] at hok
      obtain ⟨⟨ht, hy⟩, hz⟩ := hok
      exact wp_out (by unfold execOp; rw [ho]) (op_mapGet h hle ht (okSrc_rep h hy).1 (okSrc_rep h hz).1 he) hK
  | mapLen y =>
    cases ho : o.op <;> simp only [okOp, ho, Bool.false_eq_true] at hok
    split at hok
    · rename_i as ts hcc
      injection hcc with hcc; subst hcc
      split at hok
      · rename_i x t hx ht
        simp only [Bool.and_eq_true] at hok
        have e1 : as = #[x] := by cases as; simp_all
        have e2 : ts = #[t] := by cases ts; simp_all
        subst e1; subst e2
        refine wp_out (s := Builtin.len_ #[t] o.type #[a.eval x]) ?_ (op_mapLen h hle hok.1 (okSrc_rep h hok.2).1 he) hK
        unfold execOp; rw [ho]; simp [resolve, invoke, builtin]
      · cases hok
    · cases hok

end
end Go.Ab

/- Part Code. -/
namespace Go.Ab
open Go
set_option linter.unusedSimpArgs false

/-! ### One operation with its guard -/

def okGuard (ops : Array Oper) : Option (Nat × Bool) → Option (Nat × Bool) → Bool
  | none, none => true
  | some (j, b), some (t, b') => b == b' && ((ops[j]?).bind (·.dst) == some t)
  | _, _ => false

def okOper (P : Program) (np nt : Nat) (ops : Array Oper) (o : Oper) (io : IOper) : Bool :=
  o.dst == io.dst && (match io.dst with | some d => decide (d < nt) | none => true) && okGuard ops o.guard io.guard && okOp P np o.op io.op

section
variable {r : Option Nat} {m : Nat} {np nt : Nat} {base : World} {pb : List (Nat × Nat)} {G0 : Ghost} {P : Program} {σ : St} {E : Env} {G : Ghost} {a : Act} {w : World}

theorem wanted_of (h : Rel nt base pb G0 σ E G a w) {ops : Array Oper} {o : Oper} {g : Option (Nat × Bool)} (hg : okGuard ops o.guard g = true) {b : Bool} (hw : wantd σ.T g = some b) : Region.wanted o (yielded ops a.tmps) = b := by
  unfold okGuard at hg
  split at hg
  · rename_i hn
    simp only [wantd, Option.some.injEq] at hw; subst hw
    simp only [Region.wanted, hn]
  · rename_i j c t c' ho
    simp only [Bool.and_eq_true, beq_iff_eq] at hg
    obtain ⟨rfl, hj⟩ := hg
    simp only [Region.wanted, ho, yielded, hj, Option.bind_some]
    have hr := h.tm t
    simp only [wantd] at hw
    split at hw
    · rename_i d hd
      injection hw with hw; subst hw
      rw [hd] at hr
      have e := rep_bool hr
      have hlt : t < a.tmps.size := by
        rcases Nat.lt_or_ge t a.tmps.size with h1 | h1
        · exact h1
        · simp [Array.getD, Nat.not_lt.2 h1, Go.undef] at e
      have e2 : a.tmps[t]? = some (.bool d) := by
        rw [Array.getElem?_eq_getElem hlt]; simp [Array.getD, hlt] at e; rw [e]
      simp only [e2]
      cases d <;> cases c <;> rfl
    · rename_i hd
      injection hw with hw; subst hw
      rw [hd] at hr
      have e : a.tmps.getD t Go.undef = Go.undef := by
        generalize a.tmps.getD t Go.undef = z at hr
        cases hr with
        | one r => cases r with | pure r => cases r
        | never => rfl
      have e2 : ∀ d, a.tmps[t]? ≠ some (.bool d) := fun d hd' => by
        obtain ⟨hlt, hv⟩ := Array.getElem?_eq_some_iff.1 hd'
        simp [Array.getD, hlt, hv, Go.undef] at e
      split
      · rename_i d hd'; exact absurd hd' (e2 d)
      · cases c <;> rfl
    · cases hw
  · cases hg

theorem restr_le {H : Hp} {ks : List Nat} : ∀ κ B, restr H ks κ = some B → H κ = some B := fun κ B h => by
  simp only [restr] at h
  split at h
  · exact h
  · cases h

theorem put_defers (a : Act) (d : Option Nat) (v : Value) : (a.put d v).defers = a.defers := by cases d <;> rfl

theorem oper_sound (hnp : ∀ κ b, (κ, b) ∈ pb → κ < np) (h : Rel nt base pb G0 σ E G a w) {call : CallF} (hcall : CallOk P call) {ops : Array Oper} {o : Oper} {io : IOper} {i : Nat} (hi : ops[i]? = some o) (hok : okOper P np nt ops o io = true) {σ' : St} (he : evOper call io σ = some σ')
    {K : Act → World → Prop} {Q : Exit → Act → World → Prop} (hK : ∀ E' G' a' w', a'.defers = a.defers → Rel nt base pb G0 σ' E' G' a' w' → K a' w') : wpOpIn (FR r) m P ops Q i K a w := by
  simp only [okOper, Bool.and_eq_true, beq_iff_eq] at hok
  obtain ⟨⟨⟨hd, hdl⟩, hg⟩, hop⟩ := hok
  have hdl' : ∀ k, io.dst = some k → k < nt := fun k hk => by rw [hk] at hdl; simpa using hdl
  unfold wpOpIn
  rw [hi]
  simp only
  unfold evOper at he
  split at he
  · cases he
  · rename_i hw
    injection he with he; subst he
    rw [wanted_of h hg hw]
    simp only [Bool.false_eq_true, if_false]
    rw [hd]
    exact ⟨fun _ _ => trivial, hK E G _ w (put_defers _ _ _) (h.put hdl' .never (Cl.nil rfl))⟩
  · rename_i hw
    rw [wanted_of h hg hw]
    simp only [if_true]
    split at he
    · rename_i v us hv
      split at he
      · rename_i hks
        injection he with he; subst he
        refine (op_sound h restr_le (ks := io.ks) (fun κ hκ => by simp only [restr]; rw [if_pos (by simpa using hκ)]) hcall hnp hop (fun u hu => by have := List.all_eq_true.1 hks u hu; simpa using this) hv (fun x w' E' G' hr hrep hcl => ?_)).wpIn (okOp_nodefer hop)
        rw [hd]
        exact hK E' G' _ w' (put_defers _ _ _) (Rel.put hr hdl' hrep hcl)
      · cases he
    · cases he

/-! ### A region, in the text's order, and in whatever order -/

def okOpers (P : Program) (np nt : Nat) (ops : Array Oper) : List Oper → List IOper → Bool
  | [], [] => true
  | o :: os, io :: ios => okOper P np nt ops o io && okOpers P np nt ops os ios
  | _, _ => false

theorem okOpers_get {ops : Array Oper} : ∀ {os : List Oper} {ios : List IOper}, okOpers P np nt ops os ios = true → os.length = ios.length ∧ ∀ (i : Nat) o io, os[i]? = some o → ios[i]? = some io → okOper P np nt ops o io = true
  | [], [], _ => ⟨rfl, fun i o io h _ => by simp at h⟩
  | [], _ :: _, h => by simp [okOpers] at h
  | _ :: _, [], h => by simp [okOpers] at h
  | o :: os, io :: ios, h => by
    simp only [okOpers, Bool.and_eq_true] at h
    obtain ⟨hl, hr⟩ := okOpers_get h.2
    refine ⟨by simp [hl], fun i x y h1 h2 => ?_⟩
    cases i with
    | zero => simp at h1 h2; subst h1; subst h2; exact h.1
    | succ i => exact hr i x y (by simpa using h1) (by simpa using h2)

/-- What an operation waits for: each number that its copy names is waited for by an edge, or by what an edge leads to. -/
def okPre (ops : List Oper) (ios : List IOper) : Bool :=
  (List.range ops.length).all fun i =>
    match ops[i]?, ios[i]? with
    | some o, some io => o.after.toList.all (fun e => decide (e.on < i) || !Region.binds .any e) &&
        io.pre.all fun p => o.after.toList.any fun e => Region.binds .any e && (e.on == p || (match ios[e.on]? with | some y => y.pre.contains p | none => false))
    | _, _ => false

def okOrder (ios : List IOper) : Bool :=
  (List.range ios.length).all fun i => (List.range i).all fun j =>
    match ios[i]?, ios[j]? with
    | some x, some y => x.pre.contains j || indep y x
    | _, _ => false

/-- All that an operation waits for has come up, if what it names has, and whatever came up had what it waits for. -/
theorem pre_listed {ops : List Oper} {ios : List IOper} (hp : okPre ops ios = true) {S : Nat → Prop} (hS : ∀ k o, S k → ops[k]? = some o → ∀ e ∈ o.after, Region.binds .any e = true → S e.on) :
    ∀ (i : Nat) (o : Oper) (io : IOper), ops[i]? = some o → ios[i]? = some io → (∀ e ∈ o.after, Region.binds .any e = true → S e.on) → ∀ p ∈ io.pre, S p := by
  intro i
  induction i using Nat.strongRecOn with
  | _ i ih =>
    intro o io ho hio he p hpm
    have h1 := List.all_eq_true.1 hp i (List.mem_range.2 (List.getElem?_eq_some_iff.1 ho).1)
    rw [ho, hio] at h1
    simp only [Bool.and_eq_true] at h1
    obtain ⟨e, hem, h2⟩ := List.any_eq_true.1 (List.all_eq_true.1 h1.2 p hpm)
    simp only [Bool.and_eq_true, Bool.or_eq_true, beq_iff_eq] at h2
    have hea : e ∈ o.after := Array.mem_toList_iff.1 hem
    have hSe := he e hea h2.1
    rcases h2.2 with rfl | h3
    · exact hSe
    · split at h3
      · rename_i y hy
        have hlt : e.on < i := by
          have := List.all_eq_true.1 h1.1 e hem
          simp only [Bool.or_eq_true, decide_eq_true_eq, h2.1, Bool.not_true, Bool.false_eq_true, or_false] at this
          exact this
        have hil := (List.getElem?_eq_some_iff.1 ho).1
        have ho' := List.getElem?_eq_getElem (show e.on < ops.length by omega)
        exact ih e.on hlt _ y ho' hy (hS e.on _ hSe ho') p (by simpa using h3)
      · cases h3

theorem ops_seq (hnp : ∀ κ b, (κ, b) ∈ pb → κ < np) {call : CallF} (hcall : CallOk P call) {ops : Array Oper} {Q : Exit → Act → World → Prop} {σ' : St} : ∀ (n k : Nat) (σ : St) (E : Env) (G : Ghost) (a : Act) (w : World) (ios : List IOper), n = ops.size - k → k ≤ ops.size → okOpers P np nt ops (ops.toList.drop k) ios = true →
    Rel nt base pb G0 σ E G a w → evOps call ios σ = some σ' → (∀ E' G' a' w', a'.defers = a.defers → Rel nt base pb G0 σ' E' G' a' w' → Q .normal a' w') → wpOpsIn (FR r) m P ops Q ((List.range n).map (· + k)) a w := by
  intro n
  induction n with
  | zero =>
    intro k σ E G a w ios hn hk hok h he hQ
    have hd : ops.toList.drop k = [] := List.drop_eq_nil_of_le (by simp; omega)
    rw [hd] at hok
    cases ios with
    | cons io ios => simp [okOpers] at hok
    | nil =>
      simp only [evOps, Option.some.injEq] at he; subst he
      exact hQ E G a w rfl h
  | succ n ih =>
    intro k σ E G a w ios hn hk hok h he hQ
    have hkl : k < ops.size := by omega
    have hd : ops.toList.drop k = ops[k] :: ops.toList.drop (k + 1) := by
      rw [List.drop_eq_getElem_cons (by simpa using hkl)]; simp
    rw [hd] at hok
    cases ios with
    | nil => simp [okOpers] at hok
    | cons io ios =>
      simp only [okOpers, Bool.and_eq_true] at hok
      simp only [evOps] at he
      split at he
      · rename_i σ1 h1
        rw [List.range_succ_eq_map, List.map_cons, List.map_map, wpOpsIn_cons, Nat.zero_add]
        refine oper_sound hnp h hcall (Array.getElem?_eq_getElem hkl) hok.1 h1 fun E' G' a' w' hd hr => ?_
        have := ih (k + 1) σ1 E' G' a' w' ios (by omega) (by omega) hok.2 hr he (fun E2 G2 a2 w2 hd2 => hQ E2 G2 a2 w2 (hd2.trans hd))
        have e : (List.range n).map ((· + k) ∘ Nat.succ) = (List.range n).map (· + (k + 1)) := by
          apply List.map_congr_left; intro x _; simp; omega
        rw [e]; exact this
      · cases he

theorem ops_any (hnp : ∀ κ b, (κ, b) ∈ pb → κ < np) {call : CallF} (hcall : CallOk P call) {ops : Array Oper} {ios : List IOper} (hok : okOpers P np nt ops ops.toList ios = true) (hpre : okPre ops.toList ios = true) (hord : okOrder ios = true) {Q : Exit → Act → World → Prop} {σ' : St} {d0 : List Deferred}
    (hQ : ∀ E' G' a' w', a'.defers = d0 → Rel nt base pb G0 σ' E' G' a' w' → Q .normal a' w') :
    ∀ (fuel : Nat) (rem : List Nat) (listed : Array Bool) (σ : St) (E : Env) (G : Ghost) (a : Act) (w : World), rem.length = fuel → rem.Pairwise (· < ·) → (∀ j ∈ rem, j < ops.size) → listed.size = ops.size →
      (∀ j, j < ops.size → (listed.getD j true = false ↔ j ∈ rem)) → (∀ k o, k < ops.size → k ∉ rem → ops[k]? = some o → ∀ e ∈ o.after, Region.binds .any e = true → e.on ∉ rem) →
      a.defers = d0 → Rel nt base pb G0 σ E G a w → evIx call ios rem σ = some σ' → wpAnyIn (FR r) m P .any ops Q fuel listed a w := by
  obtain ⟨hlen, hget⟩ := okOpers_get hok
  have hready : ∀ {listed : Array Bool} {i : Nat}, i ∈ Region.ready .any ops listed ↔ listed.getD i true = false ∧ ∃ o, ops[i]? = some o ∧ ∀ e ∈ o.after, Region.binds .any e = true → listed.getD e.on false = true := fun {listed i} => mem_ready
  intro fuel
  induction fuel with
  | zero =>
    intro rem listed σ E G a w hl hs hlt hsz hrem hdc hd0 h he
    have hnil : rem = [] := List.eq_nil_of_length_eq_zero hl
    subst hnil
    simp only [evIx, Option.some.injEq] at he; subst he
    refine ⟨?_, hQ E G a w hd0 h⟩
    cases hr : Region.ready .any ops listed with
    | nil => rfl
    | cons i rs =>
      have := (hready (listed := listed) (i := i)).1 (by rw [hr]; simp)
      obtain ⟨h1, o, ho, _⟩ := this
      have hil : i < ops.size := (Array.getElem?_eq_some_iff.1 ho).1
      exact absurd ((hrem i hil).1 h1) (by simp)
  | succ fuel ih =>
    intro rem listed σ E G a w hl hs hlt hsz hrem hdc hd0 h he
    -- the first of those that remain is ready
    obtain ⟨j0, rem0, rfl⟩ : ∃ j l, rem = j :: l := by
      cases rem with
      | nil => simp at hl
      | cons j l => exact ⟨j, l, rfl⟩
    have hlisted : ∀ k, k < ops.size → k ∉ j0 :: rem0 → listed.getD k false = true := fun k hk hn => by
      have := mt (hrem k hk).1 hn
      have hks : k < listed.size := by omega
      simp only [Array.getD, hks, dite_true] at this ⊢
      simpa using this
    have hedge : ∀ i o, ops[i]? = some o → ∀ e ∈ o.after, Region.binds .any e = true → e.on < i := fun i o ho e hem hb => by
      have hil : i < ops.toList.length := by have := (Array.getElem?_eq_some_iff.1 ho).1; simpa using this
      have h1 := List.all_eq_true.1 hpre i (List.mem_range.2 hil)
      have hio : ios[i]? = some (ios[i]'(by omega)) := List.getElem?_eq_getElem _
      rw [show ops.toList[i]? = some o by simpa using ho, hio] at h1
      simp only [Bool.and_eq_true] at h1
      have := List.all_eq_true.1 h1.1 e (Array.mem_toList_iff.2 hem)
      simp only [Bool.or_eq_true, decide_eq_true_eq, hb, Bool.not_true, Bool.false_eq_true, or_false] at this
      exact this
    have hj0 : j0 < ops.size := hlt j0 (by simp)
    have hmin : ∀ k ∈ rem0, j0 < k := (List.pairwise_cons.1 hs).1
    have hr0 : j0 ∈ Region.ready .any ops listed := by
      refine hready.2 ⟨(hrem j0 hj0).2 (by simp), _, Array.getElem?_eq_getElem hj0, fun e hem hb => ?_⟩
      have hlt' := hedge j0 _ (Array.getElem?_eq_getElem hj0) e hem hb
      refine hlisted e.on (by omega) (fun hm => ?_)
      rcases List.mem_cons.1 hm with h1 | h1
      · omega
      · have := hmin _ h1; omega
    refine ⟨(fun hn => by rw [hn] at hr0; cases hr0), fun i hi => ?_⟩
    obtain ⟨hun, o, ho, hafter⟩ := hready.1 hi
    have hil : i < ops.size := (Array.getElem?_eq_some_iff.1 ho).1
    have him : i ∈ j0 :: rem0 := (hrem i hil).1 hun
    obtain ⟨l, m, hlm⟩ := List.append_of_mem him
    rw [hlm] at he hs hlt hl
    have hioi : ios[i]? = some (ios[i]'(by simp at hlen; omega)) := List.getElem?_eq_getElem _
    -- all that comes before it is independent of it
    have hfront : evIx call ios (i :: (l ++ m)) σ = some σ' := by
      refine evIx_front (fun j hj x y hx hy => ?_) he
      have hji : j < i := by
        have := (List.pairwise_append.1 hs).2.2 j hj i (by simp)
        exact this
      have hjn : j < ios.length := (List.getElem?_eq_some_iff.1 hx).1
      have hin : i < ios.length := (List.getElem?_eq_some_iff.1 hy).1
      have h1 := List.all_eq_true.1 (List.all_eq_true.1 hord i (List.mem_range.2 hin)) j (List.mem_range.2 hji)
      rw [hy, hx] at h1
      simp only [Bool.or_eq_true] at h1
      rcases h1 with h1 | h1
      · exfalso
        have := pre_listed hpre (S := fun k => k ∉ j0 :: rem0) (fun k o' hk ho' e hem hb => hdc k o' (by have := (List.getElem?_eq_some_iff.1 ho').1; simpa using this) hk (by simpa using ho') e hem hb) i o y (by simpa using ho) hy
          (fun e hem hb hm => by
            have hlt' := hedge i o ho e hem hb
            have h3 := (hrem e.on (by omega)).2 hm
            have h4 := hafter e hem hb
            have hks : e.on < listed.size := by omega
            simp [Array.getD, hks] at h3 h4
            rw [h3] at h4; cases h4) j (by simpa using h1)
        exact this (by rw [hlm]; simp [hj])
      · exact indep_spec h1
    simp only [evIx, hioi] at hfront
    split at hfront
    · rename_i σ1 h1
      refine oper_sound hnp h hcall ho (hget i o _ (by simpa using ho) hioi) h1 fun E' G' a' w' hd' hr => ?_
      have hnd : i ∉ l ++ m := by
        have hpw := List.pairwise_append.1 hs
        intro hm
        rcases List.mem_append.1 hm with hm | hm
        · have := hpw.2.2 i hm i (by simp); omega
        · have := (List.pairwise_cons.1 hpw.2.1).1 i hm; omega
      refine ih (l ++ m) (listed.setIfInBounds i true) σ1 E' G' a' w' (by simp at hl ⊢; omega) ?_ (fun j hj => hlt j (by
        rcases List.mem_append.1 hj with hj | hj
        · exact List.mem_append_left _ hj
        · exact List.mem_append_right _ (List.mem_cons_of_mem _ hj))) (by simpa using hsz) (fun j hj => ?_) (fun k o' hk hkn ho' e hem hb => ?_) (hd'.trans hd0) hr hfront
      · have hpw := List.pairwise_append.1 hs
        refine List.pairwise_append.2 ⟨hpw.1, (List.pairwise_cons.1 hpw.2.1).2, fun x hx y hy => hpw.2.2 x hx y (List.mem_cons_of_mem _ hy)⟩
      · by_cases e : i = j
        · subst e
          have : (listed.setIfInBounds i true).getD i true = true := by simp [Array.getD]
          rw [this]
          exact ⟨(fun h => nomatch h), fun h => absurd h hnd⟩
        · rw [getD_set_ne true e, hrem j hj, hlm]
          simp only [List.mem_append, List.mem_cons]
          constructor
          · rintro (h | h | h)
            · exact .inl h
            · exact absurd h.symm e
            · exact .inr h
          · rintro (h | h)
            · exact .inl h
            · exact .inr (.inr h)
      · intro hm
        by_cases e1 : k = i
        · subst e1
          rw [ho] at ho'; injection ho' with ho'; subst ho'
          have hlt' := hedge k o ho e hem hb
          have hin : e.on ∈ j0 :: rem0 := by
            rw [hlm]
            rcases List.mem_append.1 hm with hm | hm
            · exact List.mem_append_left _ hm
            · exact List.mem_append_right _ (List.mem_cons_of_mem _ hm)
          have h3 := (hrem e.on (by omega)).2 hin
          have h4 := hafter e hem hb
          have hks : e.on < listed.size := by omega
          simp [Array.getD, hks] at h3 h4
          rw [h3] at h4; cases h4
        · have hkn' : k ∉ j0 :: rem0 := by
            rw [hlm]
            simp only [List.mem_append, List.mem_cons, not_or] at hkn ⊢
            exact ⟨hkn.1, e1, hkn.2⟩
          refine hdc k o' hk hkn' ho' e hem hb ?_
          rw [hlm]
          rcases List.mem_append.1 hm with hm | hm
          · exact List.mem_append_left _ hm
          · exact List.mem_append_right _ (List.mem_cons_of_mem _ hm)
    · cases hfront

end
end Go.Ab

/- Part Units. -/
namespace Go.Ab
open Go
set_option linter.unusedSimpArgs false
set_option linter.unusedVariables false

def unitV (u : U) : Value := .agg #[.int .i32 u.1, .int .i64 u.2.1, .int .i64 u.2.2]

theorem unit_rep {E : Env} {G : Ghost} (u : U) : Rep E G (unitPV u) (unitV u) := by
  refine .agg _ _ rfl (fun i c v h1 h2 => ?_)
  match i with
  | 0 => simp at h1 h2; subst h1; subst h2; exact .pure (.int _ _)
  | 1 => simp at h1 h2; subst h1; subst h2; exact .pure (.int _ _)
  | 2 => simp at h1 h2; subst h1; subst h2; exact .pure (.int _ _)
  | i + 3 => simp at h1

section
variable {nt : Nat} {base : World} {pb : List (Nat × Nat)} {G0 : Ghost} {P : Program} {σ : St} {E : Env} {G : Ghost} {a : Act} {w : World}

theorem maskT_get {T : Tm} : ∀ {l : List Nat} {t : Nat}, maskT T l t = if t ∈ l then T t else .undef
  | [], t => by simp [maskT]
  | k :: l, t => by
    simp only [maskT]
    by_cases e : t = k
    · subst e; simp [upd_same]
    · rw [upd_ne _ _ e, maskT_get]; simp [e]

theorem maskH_get {H : Hp} : ∀ {l : List Nat} {κ : Nat}, maskH H l κ = if κ ∈ l then H κ else none
  | [], κ => by simp [maskH]
  | k :: l, κ => by
    simp only [maskH]
    by_cases e : κ = k
    · subst e; simp [upd_same]
    · rw [upd_ne _ _ e, maskH_get]; simp [e]

theorem Rel.mask {lt lk : List Nat} {σ' : St} (h : Rel nt base pb G0 σ E G a w) (hm : Ab.mask lt lk σ = some σ') : Rel nt base pb G0 σ' E G a w := by
  unfold Ab.mask at hm
  split at hm
  · rename_i hc
    injection hm with hm; subst hm
    simp only [closedB, Bool.and_eq_true] at hc
    have hsome : ∀ κ, κ ∈ lk → (σ.H κ).isSome = true → (maskH σ.H lk κ).isSome = true := fun κ hκ hs => by rw [maskH_get, if_pos hκ]; exact hs
    have hB : ∀ κ B, maskH σ.H lk κ = some B → κ ∈ lk ∧ σ.H κ = some B := fun κ B hh => by
      rw [maskH_get] at hh
      split at hh
      · rename_i hκ; exact ⟨hκ, hh⟩
      · cases hh
    exact
    { tm := fun t => by
        show Rep E G (maskT σ.T lt t) _
        rw [maskT_get]
        split
        · exact h.tm t
        · exact .undef _
      ts := h.ts, df := h.df, lai := h.lai, hp := fun κ B hh => h.hp κ B (hB κ B hh).2,
      inj := fun κ κ' B B' b h1 h2 hn hb => h.inj κ κ' B B' b (hB _ _ h1).2 (hB _ _ h2).2 hn hb,
      cT := fun t κ hκ => by
        replace hκ : κ ∈ refs (maskT σ.T lt t) := hκ
        rw [maskT_get] at hκ
        split at hκ
        · rename_i ht
          have h1 := List.all_eq_true.1 (List.all_eq_true.1 hc.1 t ht) κ hκ
          exact hsome κ (by simpa using h1) (h.cT t κ hκ)
        · simp [refs, refC] at hκ
      cH := fun κ cs hh c hcm κ' hκ' => by
        obtain ⟨hκ, hH⟩ := hB _ _ hh
        have h1 := List.all_eq_true.1 hc.2 κ hκ
        rw [hH] at h1
        have h2 := List.all_eq_true.1 (List.all_eq_true.1 h1 c hcm) κ' hκ'
        exact hsome κ' (by simpa using h2) (h.cH κ cs hH c hcm κ' hκ')
      hold := h.hold, gle := h.gle, gnew := h.gnew, fr := h.fr, sz := h.sz, own := fun κ B b hh hb => h.own κ B b (hB _ _ hh).2 hb, par := fun κ b B hm hh => h.par κ b B hm (hB _ _ hh).2, os := h.os, tape := h.tape, output := h.output }
  · cases hm

theorem Holds.turn {w' : World} (h : Holds G w) (hs : ∀ x : Addr, G x ≠ none → w'.heap[x.block]? = w.heap[x.block]?) : Holds G w' := fun x v hx => by
  rw [cell_of_heap (hs x (by simp [hx]))]; exact h x v hx

/-- A block that is no business of the relation's. -/
structure Frn (base : World) (H : Hp) (E : Env) (G : Ghost) (w : World) (r : Nat) : Prop where
  lo : base.heap.size ≤ r
  hi : r < w.heap.size
  own : ∀ κ B, H κ = some B → blkOf E κ B ≠ some r
  gf : GFree G r

/-- Blocks turn that are no business of the relation's. -/
theorem Rel.turn (h : Rel nt base pb G0 σ E G a w) {w' : World} {X : Nat → Prop} (hX : ∀ r, X r → Frn base σ.H E G w r)
    (hb : ∀ b, b < w.heap.size → ¬ X b → w'.heap[b]? = w.heap[b]?) (hsz : w.heap.size ≤ w'.heap.size) (hos : w'.os = w.os) (htp : w'.tape = w.tape) (hou : w'.output = w.output)
    {a' : Act} (ht : a'.tmps = a.tmps) (hdf : MarksOk base w' a'.defers) : Rel nt base pb G0 σ E G a' w' :=
  { tm := fun t => by rw [ht]; exact h.tm t, ts := by rw [ht]; exact h.ts, df := hdf,
    hp := fun κ B hH => (h.hp κ B hH).keep (.refl G) (fun b hbk => hb b (h.lt hH hbk) (fun hx => (hX b hx).own κ B hH hbk)) (fun _ _ _ _ k => k),
    inj := h.inj, cT := h.cT, cH := h.cH,
    hold := h.hold.turn fun x hne => by
      cases hv : G x with
      | none => exact absurd hv hne
      | some v => exact hb x.block (cell_lt (h.hold x v hv)) (fun hxb => hne ((hX _ hxb).gf x rfl)),
    lai := h.lai, gle := h.gle, gnew := h.gnew,
    fr := fun b hlt hp => (hb b (Nat.lt_of_lt_of_le hlt h.sz) (fun hx => by have := (hX b hx).lo; omega)).trans (h.fr b hlt hp), sz := Nat.le_trans h.sz hsz, own := h.own, par := h.par,
    os := hos.trans h.os, tape := htp.trans h.tape, output := hou.trans h.output }

theorem putObj_other {r b : Nat} {o : Obj} (h : b ≠ r) : (w.putObj r o).heap[b]? = w.heap[b]? := World.putObj_heap_other h

theorem Rel.put1 (h : Rel nt base pb G0 σ E G a w) {r : Nat} (o : Obj) (hr : Frn base σ.H E G w r) {a' : Act} (ht : a'.tmps = a.tmps) (hdf : MarksOk base (w.putObj r o) a'.defers) : Rel nt base pb G0 σ E G a' (w.putObj r o) :=
  h.turn (X := fun b => b = r) (fun b e => e ▸ hr) (fun b _ hn => putObj_other hn) (by simp) rfl rfl rfl ht hdf

theorem Frn.turn {H : Hp} {r : Nat} (h : Frn base H E G w r) {w' : World} (hsz : w.heap.size ≤ w'.heap.size) : Frn base H E G w' r := ⟨h.lo, Nat.lt_of_lt_of_le h.hi hsz, h.own, h.gf⟩

/-- A block just laid. -/
theorem Rel.frn (h : Rel nt base pb G0 σ E G a w) {w' : World} {r : Nat} (h1 : w.heap.size ≤ r) (h2 : r < w'.heap.size) : Frn base σ.H E G w' r :=
  ⟨Nat.le_trans h.sz h1, h2, fun κ B hH hb => by have := h.lt hH hb; omega, fun x hx => by
    cases hv : G x with
    | none => rfl
    | some v => have := cell_lt (h.hold x v hv); omega⟩

def pbOf (E : Env) (H : Hp) (lk : List Nat) : List (Nat × Nat) := lk.filterMap fun κ => (H κ).bind fun B => (blkOf E κ B).map fun b => (κ, b)

theorem pbOf_mem {H : Hp} {lk : List Nat} {κ b : Nat} : (κ, b) ∈ pbOf E H lk ↔ κ ∈ lk ∧ ∃ B, H κ = some B ∧ blkOf E κ B = some b := by
  simp only [pbOf, List.mem_filterMap, Option.bind_eq_some_iff, Option.map_eq_some_iff, Prod.mk.injEq]
  constructor
  · rintro ⟨k, hk, B, hB, b', hb', rfl, rfl⟩; exact ⟨hk, B, hB, hb'⟩
  · rintro ⟨hk, B, hB, hb⟩; exact ⟨κ, hk, B, hB, b, hb, rfl, rfl⟩

theorem pbOf_snd {H : Hp} {lk : List Nat} {b : Nat} (h : b ∈ (pbOf E H lk).map (·.2)) : ∃ κ B, κ ∈ lk ∧ H κ = some B ∧ blkOf E κ B = some b := by
  obtain ⟨⟨κ, b'⟩, hm, rfl⟩ := List.mem_map.1 h
  obtain ⟨hk, B, hB, hb⟩ := pbOf_mem.1 hm
  exact ⟨κ, B, hk, hB, hb⟩

/-- A round begins: what the frame has is lent. -/
theorem Rel.rebase (h : Rel nt base pb G0 σ E G a w) {lk : List Nat} (hlk : ∀ κ, (σ.H κ).isSome = true → κ ∈ lk) {a' : Act} (ht : a'.tmps = a.tmps) (hd : a'.defers = []) : Rel nt w (pbOf E σ.H lk) G σ E G a' w :=
  { tm := fun t => by rw [ht]; exact h.tm t, ts := by rw [ht]; exact h.ts, df := by rw [hd]; trivial, hp := h.hp, inj := h.inj, cT := h.cT, cH := h.cH, hold := h.hold, lai := h.lai.trans h.gle,
    gle := .refl G, gnew := fun x hx => .inl hx, fr := fun _ _ _ => rfl, sz := Nat.le_refl _,
    own := fun κ B b hH hb => .inr (pbOf_mem.2 ⟨hlk κ (by rw [hH]; rfl), B, hH, hb⟩),
    par := fun κ b cs hm hH => by
      obtain ⟨_, B, hB, hb⟩ := pbOf_mem.1 hm
      rw [hB] at hH; injection hH with hH; subst hH
      simpa [blkOf] using hb
    os := rfl, tape := rfl, output := rfl }

/-- A block that is no business of the relation's turns, now and in the world at the begin. -/
theorem Rel.bothPut (h : Rel nt base pb G0 σ E G a w) {r : Nat} (o : Obj) (hr : r < base.heap.size) (hown : ∀ κ B, σ.H κ = some B → blkOf E κ B ≠ some r) (hg : GFree G r) :
    Rel nt (base.putObj r o) pb G0 σ E G a (w.putObj r o) :=
  { tm := h.tm, ts := h.ts,
    df := by
      have key : ∀ ds : List Deferred, MarksOk base w ds → MarksOk (base.putObj r o) (w.putObj r o) ds := fun ds => by
        induction ds with
        | nil => intro _; trivial
        | cons d ds ih =>
          rintro ⟨⟨D, e, hb, hD⟩, hn, hr'⟩
          exact ⟨⟨D, e, by simpa using hb, by rw [putObj_other (by omega)]; exact hD⟩, hn, ih hr'⟩
      exact key _ h.df
    hp := fun κ B hH => (h.hp κ B hH).keep (.refl G) (fun b hbk => putObj_other (fun e => hown κ B hH (e ▸ hbk))) (fun _ _ _ _ k => k),
    inj := h.inj, cT := h.cT, cH := h.cH, hold := h.hold.turn fun x hne => putObj_other (fun e => hne (hg x e)), lai := h.lai, gle := h.gle,
    gnew := fun x hx => by simpa using h.gnew x hx,
    fr := fun b hb hp => by
      have hb' : b < base.heap.size := by simpa using hb
      by_cases e : b = r
      · subst e
        rw [World.putObj_heap_same (Nat.lt_of_lt_of_le hr h.sz), World.putObj_heap_same hr]
      · rw [putObj_other e, putObj_other e]; exact h.fr b hb' hp
    sz := by simpa using h.sz, own := fun κ B b hH hb => by simpa using h.own κ B b hH hb, par := h.par, os := h.os, tape := h.tape, output := h.output }

theorem Rep.keepTemp {E2 : Env} {G2 : Ghost} {H : Hp} {v : PV} {x : Value} (h : Rep E G v x) (ht : tempOk H v = true) (hg : G.le G2) (hb : ∀ κ, isBox (H κ) = true → E2.bx κ = E.bx κ) : Rep E2 G2 v x := by
  cases hv : v with
  | ptr κ off =>
    subst hv
    simp only [tempOk] at ht
    cases h with | one h => cases h with
      | pure r => cases r
      | ptr κ off => rw [← hb κ ht]; exact .one (.ptr κ off)
  | _ =>
    rw [hv] at h
    have hr : refs v = [] := by rw [hv] at ht ⊢; simpa [tempOk] using ht
    rw [hv] at hr
    exact (h.env (E' := E2) (fun κ hk => by rw [hr] at hk; cases hk)).mono hg

/-- A round is over. -/
theorem Rel.unbase {T : Tm} {H : Hp} (h0 : Rel nt base pb G0 ⟨T, H⟩ E G a w) {lt lk : List Nat} {σ2 σ3 : St} {E2 : Env} {G2 : Ghost} {a2 : Act} {w2 : World} (h2 : Rel nt w (pbOf E H lk) G σ2 E2 G2 a2 w2)
    (hk : kindsOk lk H σ2.H = true) (ht : ∀ t, tempOk H (T t) = true) (hlk : ∀ κ, (H κ).isSome = true → κ ∈ lk) (hm : Ab.mask lt lk ⟨T, σ2.H⟩ = some σ3) (hmk : MarksOk base w2 a.defers) : Rel nt base pb G0 σ3 E2 G2 a w2 := by
  unfold Ab.mask at hm
  split at hm
  · rename_i hc
    injection hm with hm; subst hm
    have hc' : closedB [] lk σ2 = true := by
      simp only [closedB, Bool.and_eq_true] at hc ⊢
      exact ⟨by simp, hc.2⟩
    have hmm : Ab.mask [] lk σ2 = some ⟨maskT σ2.T [], maskH σ2.H lk⟩ := by unfold Ab.mask; rw [if_pos hc']
    have hr := h2.mask hmm
    have hkd : ∀ κ, κ ∈ lk → sameKind (H κ) (σ2.H κ) = true := fun κ hκ => List.all_eq_true.1 hk κ hκ
    have hgetH : ∀ κ, maskH σ2.H lk κ = if κ ∈ lk then σ2.H κ else none := fun κ => maskH_get
    have hgetT : ∀ t, maskT T lt t = if t ∈ lt then T t else .undef := fun t => maskT_get
    have hbox : ∀ κ, isBox (H κ) = true → E2.bx κ = E.bx κ ∧ κ ∈ lk ∧ ∃ cs, σ2.H κ = some (.box cs) := fun κ hb => by
      cases hH : H κ with
      | none => rw [hH] at hb; cases hb
      | some B =>
        rw [hH] at hb
        cases B with
        | box cs =>
          have hκ := hlk κ (by rw [hH]; rfl)
          have hs := hkd κ hκ
          rw [hH] at hs
          cases h2H : σ2.H κ with
          | none => rw [h2H] at hs; simp [sameKind] at hs
          | some B2 =>
            rw [h2H] at hs
            cases B2 with
            | box cs2 => exact ⟨h2.par κ (E.bx κ) cs2 (pbOf_mem.2 ⟨hκ, _, hH, rfl⟩) h2H, hκ, cs2, rfl⟩
            | _ => simp [sameKind] at hs
        | _ => cases hb
    have hbase : ∀ b, b ∈ (pbOf E H lk).map (·.2) → base.heap.size ≤ b ∨ b ∈ pb.map (·.2) := fun b hb => by
      obtain ⟨κ, B, _, hB, hbk⟩ := pbOf_snd hb
      rcases h0.own κ B b hB hbk with h | h
      · exact .inl h
      · exact .inr (List.mem_map.2 ⟨_, h, rfl⟩)
    exact
    { tm := fun t => by
        show Rep E2 G2 (maskT T lt t) _
        rw [hgetT]
        split
        · exact (h0.tm t).keepTemp (ht t) h2.gle (fun κ hb => (hbox κ hb).1)
        · exact .undef _
      ts := h0.ts, df := hmk, hp := hr.hp, inj := hr.inj,
      cT := fun t κ hκ => by
        replace hκ : κ ∈ refs (maskT T lt t) := hκ
        rw [hgetT] at hκ
        split at hκ
        · have h1 := ht t
          cases hv : T t with
          | ptr κ' off =>
            rw [hv] at hκ h1
            simp [refs, refC] at hκ
            subst hκ
            simp only [tempOk] at h1
            obtain ⟨_, hκl, cs, hcs⟩ := hbox _ h1
            show (maskH σ2.H lk _).isSome = true
            rw [hgetH, if_pos hκl, hcs]; rfl
          | _ =>
            have hr0 : refs (T t) = [] := by rw [hv] at h1 ⊢; simpa [tempOk] using h1
            rw [hr0] at hκ; cases hκ
        · simp [refs, refC] at hκ
      cH := hr.cH, hold := hr.hold, lai := h0.lai, gle := h0.gle.trans h2.gle,
      gnew := fun x hx => by
        rcases h2.gnew x hx with h | h | h
        · exact h0.gnew x h
        · exact .inr (.inl (Nat.le_trans h0.sz h))
        · exact .inr (hbase _ h)
      fr := fun b hb hp => by
        refine (h2.fr b (Nat.lt_of_lt_of_le hb h0.sz) (fun hm => ?_)).trans (h0.fr b hb hp)
        rcases hbase b hm with h | h
        · omega
        · exact hp h
      sz := Nat.le_trans h0.sz h2.sz,
      own := fun κ B b hH hb => by
        rcases hr.own κ B b hH hb with h | h
        · exact .inl (Nat.le_trans h0.sz h)
        · obtain ⟨_, B0, hB0, hb0⟩ := pbOf_mem.1 h
          exact h0.own κ B0 b hB0 hb0
      par := fun κ b cs hm hH => by
        have hH' : maskH σ2.H lk κ = some (.box cs) := hH
        rw [hgetH] at hH'
        split at hH'
        · rename_i hκ
          have hs := hkd κ hκ
          rw [hH'] at hs
          cases hH0 : H κ with
          | none => rw [hH0] at hs; simp [sameKind] at hs
          | some B0 =>
            rw [hH0] at hs
            cases B0 with
            | box cs0 =>
              rw [(hbox κ (by rw [hH0]; rfl)).1]
              exact h0.par κ b cs0 hm hH0
            | _ => simp [sameKind] at hs
        · cases hH'
      os := h2.os.trans h0.os, tape := h2.tape.trans h0.tape, output := h2.output.trans h0.output }
  · cases hm

end
end Go.Ab

/- Part Rounds. -/
namespace Go.Ab
open Go
set_option linter.unusedSimpArgs false
set_option linter.unusedVariables false

/-- What is asked of the iterator: for whatever J (said of what has come, of the blocks that are the iterator's own, and of the world) that lets those blocks turn and others be laid, and that a round keeps. -/
def UnitsOk (P : Program) (g : Nat) : Prop :=
  ∀ (s : ByteArray) (x : Addr) (l : Nat) (J : List U → (Nat → Prop) → World → Prop) (Jx : World → Prop) (W : World), x.spot = none → s.size ≤ room →
    (∀ pre X W, J pre X W → W.cell? x = some (.string s) ∧ Holds laidG W) →
    (∀ pre X W W', J pre X W → (∀ b, b < W.heap.size → ¬ X b → W'.heap[b]? = W.heap[b]?) → W.heap.size ≤ W'.heap.size → W'.os = W.os → W'.tape = W.tape → W'.output = W.output → J pre (fun r => X r ∨ (W.heap.size ≤ r ∧ r < W'.heap.size)) W') →
    (∀ pre u rest X W, J pre X W → unitsOf s = pre ++ u :: rest → ∃ fn tmps assign body, (Instr.yield l #[unitV u]).run P W = .ok (.round l fn tmps assign body) W ∧ RoundIn Fence.wide 0 P l fn tmps assign body W fun e W' =>
      (e = .returned (.bool true) ∧ J (pre ++ [u]) X W' ∧ W.heap.size ≤ W'.heap.size ∧ ∀ r, X r → W'.heap[r]? = W.heap[r]?) ∨ (e = .returned (.bool false) ∧ Jx W')) →
    J [] (fun _ => False) W →
    CallsIn Fence.wide 0 P g #[.func (.yield l) #[] #[], .pointer (some x)] W fun e W' => (∃ v, e = .returned v) ∧ ((∃ X, J (unitsOf s) X W') ∨ Jx W')

section
variable {nt : Nat} {base : World} {pb : List (Nat × Nat)} {G0 : Ghost} {P : Program} {σ : St} {E : Env} {G : Ghost} {a : Act} {w : World}

def Fits : IX → Exit → Prop
  | .normal, .normal => True
  | .exit i, .exit j => i = j
  | .ret, .ret => True
  | _, _ => False

/-- What a piece of code leaves. -/
def Leaves (dd : Option (List Deferred)) (nt : Nat) (base : World) (pb : List (Nat × Nat)) (G0 : Ghost) (x : IX) (σ' : St) : Exit → Act → World → Prop :=
  fun e a' w' => Fits x e ∧ (∀ d, dd = some d → a'.defers = d) ∧ ∃ E' G', Rel nt base pb G0 σ' E' G' a' w'

/-- What the copies of a round's code promise. -/
def RoundOk (nt npb m : Nat) (P : Program) (l : Nat) (f : St → Option (IX × St)) (c : Code) : Prop :=
  ∀ {base : World} {pb : List (Nat × Nat)} {G0 : Ghost}, (∀ κ b, (κ, b) ∈ pb → κ < npb) → ∀ {σ : St} {E : Env} {G : Ghost} {a : Act} {w : World} {y : IX} {σ' : St},
    Rel nt base pb G0 σ E G a w → f σ = some (y, σ') → c.wpIn (FR (some l)) m P (Leaves none nt base pb G0 y σ') a w

theorem wpIn_FR_any {r : Option Nat} {m m' : Nat} {c : Code} {Q : Exit → Act → World → Prop} (h : c.wpIn (FR r) m P Q a w) : c.wpIn (FR r) m' P Q a w :=
  fun b k cs hro hb _ => h b k cs hro hb (fun d hd => nomatch hd)

def jumpOf : IX → Option Code
  | .normal => none
  | .ret => some .ret
  | .exit i => some (.exit i)

theorem startOk_T {lt lk : List Nat} {T : Tm} {H : Hp} (hs : startOk lt lk ⟨T, H⟩ = true) (hT : ∀ t, t ∉ lt → T t = .undef) : ∀ t, tempOk H (T t) = true := fun t => by
  simp only [startOk, Bool.and_eq_true] at hs
  by_cases h : t ∈ lt
  · exact List.all_eq_true.1 hs.2 t h
  · rw [hT t h]; rfl

theorem sameKind_box {A B : Option Blk} (h : sameKind A B = true) : isBox A = isBox B := by
  cases A with
  | none => cases B with
    | none => rfl
    | some B => cases B <;> simp [sameKind] at h
  | some A =>
    cases B with
    | none => cases A <;> simp [sameKind] at h
    | some B => cases A <;> cases B <;> simp_all [sameKind, isBox]

theorem sameKind_self {A B : Option Blk} (h : sameKind A B = true) : sameKind B B = true := by
  cases A with
  | none => cases B with
    | none => rfl
    | some B => cases B <;> simp [sameKind] at h
  | some A =>
    cases B with
    | none => rfl
    | some B => cases A <;> cases B <;> simp_all [sameKind]

/-- How a round's state begins and ends. -/
structure Head (lt lk : List Nat) (T : Tm) (H : Hp) : Prop where
  st : startOk lt lk ⟨T, H⟩ = true
  T0 : ∀ t, t ∉ lt → T t = .undef
  H0 : ∀ κ, (H κ).isSome = true → κ ∈ lk

theorem mask_head {lt lk : List Nat} {σ σ0 : St} (h : mask lt lk σ = some σ0) (hs : startOk lt lk σ0 = true) : Head lt lk σ0.T σ0.H := by
  unfold mask at h
  split at h
  · injection h with h; subst h
    exact ⟨hs, fun t ht => by show maskT σ.T lt t = _; rw [maskT_get, if_neg ht], fun κ hκ => by
      have hκ' : (maskH σ.H lk κ).isSome = true := hκ
      rw [maskH_get] at hκ'; split at hκ'
      · assumption
      · cases hκ'⟩
  · cases h

theorem Head.next {lt lk : List Nat} {T : Tm} {H : Hp} (h : Head lt lk T H) {H2 : Hp} (hk : kindsOk lk H H2 = true) {σ3 : St} (hm : mask lt lk ⟨T, H2⟩ = some σ3) : Head lt lk σ3.T σ3.H ∧ σ3.T = T := by
  unfold mask at hm
  split at hm
  · injection hm with hm; subst hm
    have hT : maskT T lt = T := by
      funext t
      rw [maskT_get]
      split
      · rfl
      · rename_i ht; exact (h.T0 t ht).symm
    refine ⟨⟨?_, fun t ht => by show maskT T lt t = _; rw [maskT_get, if_neg ht], fun κ hκ => by
      have hκ' : (maskH H2 lk κ).isSome = true := hκ
      rw [maskH_get] at hκ'; split at hκ'
      · assumption
      · cases hκ'⟩, hT⟩
    have hst := h.st
    simp only [startOk, Bool.and_eq_true] at hst ⊢
    refine ⟨List.all_eq_true.2 fun κ hκ => ?_, List.all_eq_true.2 fun t ht => ?_⟩
    · simp only [maskH_get, if_pos hκ]
      exact sameKind_self (List.all_eq_true.1 hk κ hκ)
    · have h1 := List.all_eq_true.1 hst.2 t ht
      rw [hT]
      show tempOk (maskH H2 lk) (T t) = true
      cases hv : T t with
      | ptr κ off =>
        rw [hv] at h1
        simp only [tempOk] at h1 ⊢
        have hκ : κ ∈ lk := h.H0 κ (by cases hH : H κ with
          | none => rw [hH] at h1; cases h1
          | some B => rfl)
        rw [maskH_get, if_pos hκ, ← sameKind_box (List.all_eq_true.1 hk κ hκ)]
        exact h1
      | _ => rw [hv] at h1; exact h1
  · cases hm

theorem runU_sound {g : Nat} (hU : UnitsOk P g) {gx : Operand} {p npb m : Nat} {assign body : Code} {x : Src} {lt lk : List Nat} {ea eb : St → Option (IX × St)} (hp : p < nt) (hnpb : ∀ κ ∈ lk, κ < npb)
    (hfn : ∀ args w, (callFunc g args).run P w = .ok (.enter g args) w)
    (hea : ∀ l, RoundOk nt npb m P l ea assign) (heb : ∀ l, RoundOk nt npb m P l eb body)
    (h : Rel nt base pb G0 σ E G a w) (hs : okSrc gx x = true) {y : IX} {σ' : St} (he : runU g x lt lk p ea eb σ = some (y, σ')) :
    (Code.rangeFunc gx #[p] assign body).wpIn (FR none) m P (Leaves none nt base pb G0 y σ') a w := by
  have hx := (okSrc_rep h hs).1
  unfold runU at he
  split at he
  · rename_i f s hv
    split at he
    · rename_i hf
      obtain ⟨hf, hsr⟩ := hf
      subst hf
      split at he
      · rename_i σ0 hm0
        split at he
        · rename_i hst
          have hr0 := h.mask hm0
          have hhead := mask_head hm0 hst
          -- the iterator's value
          rw [hv] at hx
          obtain ⟨xa, hxe, hxg, hxs⟩ : ∃ xa : Addr, a.eval gx = .func (.func f) #[] #[.pointer (some xa)] ∧ G xa = some (.string s) ∧ xa.spot = none := by
            generalize a.eval gx = z at hx
            cases hx with | one hx => cases hx with | pure hx => cases hx with
              | clo _ _ _ us vs val wal hu hvs hus hvs' hr hr' =>
                have hv1 : vs.size = 1 := by simpa using hvs
                have hu0 : us = #[] := Array.eq_empty_of_size_eq_zero (by simpa using hu)
                have e0 : vs[0]? = some (vs[0]'(by omega)) := Array.getElem?_eq_getElem (by omega)
                have hw := hvs' 0 _ e0
                have hrp := hr' 0 _ rfl
                rw [← hw] at hrp
                have hve : vs = #[vs[0]'(by omega)] := by
                  apply Array.ext
                  · simp [hv1]
                  · intro i h1 h2
                    have : i = 0 := by simp at h2; omega
                    subst this; simp
                generalize vs[0]'(by omega) = z0 at hrp hve
                cases hrp with
                | rptr cs b o val2 hg hr2 =>
                  refine ⟨⟨b, o, none⟩, by rw [hve, hu0], ?_, rfl⟩
                  have h1 := hg 0 (.str s) rfl
                  have h2 := hr2 0 (.str s) rfl
                  generalize val2 0 = q at h1 h2
                  cases h2
                  simpa using h1
          -- what the law's own book-keeping lays
          obtain ⟨rec, hrec⟩ : ∃ rec : FuncId → LoopState → Option Code → Loop, rec = fun fn st pe => { state := st, pending := pe, fn, tmps := a.tmps, params := #[p], assign, body, defers := w.heap.size } := ⟨_, rfl⟩
          refine wpIn_rangeFunc fun fn hfnF => ?_
          obtain ⟨W1, hW1⟩ : ∃ W1, (w.alloc (.deferred (some []))).alloc (.loop (rec fn .ready none)) = W1 := ⟨_, rfl⟩
          have hsz1 : W1.heap.size = w.heap.size + 2 := by rw [← hW1]; simp
          have hL1 : W1.heap[w.heap.size + 1]? = some (.loop (rec fn .ready none)) := by
            rw [← hW1]; have := World.alloc_heap_new (w.alloc (.deferred (some []))) (.loop (rec fn .ready none)); rwa [World.size_alloc] at this
          have hK1 : W1.heap[w.heap.size]? = some (.deferred (some [])) := by
            rw [← hW1, heap_alloc_old _ _ _ (by simp)]; exact World.alloc_heap_new w _
          have hold1 : ∀ b, b < w.heap.size → W1.heap[b]? = w.heap[b]? := fun b hb => by
            rw [← hW1, heap_alloc_old _ _ _ (by simp; omega), heap_alloc_old _ _ _ hb]
          refine ⟨w.heap.size + 1, [{ target := .collected w.heap.size, args := #[] }], W1, { target := .fn (.func f) #[.pointer (some xa)], args := #[.func (.yield (w.heap.size + 1)) #[] #[]] }, W1, f,
            #[.func (.yield (w.heap.size + 1)) #[] #[]] ++ #[.pointer (some xa)], W1, ?_, ?_, fun _ _ => trivial, ?_, (fun e => nomatch e), ?_⟩
          · rw [← hW1, hrec]; exact run_enterLoop_outer _ _ _ _ _
          · simp only [resolve, hxe]
            simp [go_sem]
          · simp [invoke, go_sem, hfn]
          · -- the caller's word, round by round
            have hmk0 : ∀ (D : Nat) (o : Option (List Deferred)), w.heap[D]? = some (.deferred o) → W1.heap[D]? = some (.deferred o) := fun D o hD => (hold1 D (heap_lt hD)).trans hD
            obtain ⟨mk', hmk'⟩ : ∃ mk' : List Deferred, mk' = { target := .collected w.heap.size, args := #[] } :: a.defers := ⟨_, rfl⟩
            have marks : ∀ W' : World, (∀ (D : Nat) (o : Option (List Deferred)), w.heap[D]? = some (.deferred o) → W'.heap[D]? = some (.deferred o)) → W'.heap[w.heap.size]? = some (.deferred (some [])) → MarksOk base W' mk' := fun W' hk hD => by
              rw [hmk']
              refine ⟨⟨w.heap.size, rfl, h.sz, hD⟩, fun hmem => ?_, h.df.keep hk⟩
              have : ∀ (ds : List Deferred), MarksOk base w ds → ({ target := .collected w.heap.size, args := #[] } : Deferred) ∉ ds := fun ds => by
                induction ds with
                | nil => intro _ hm; cases hm
                | cons d ds ih =>
                  rintro ⟨⟨D, e, _, hD'⟩, _, hr⟩ hm
                  rcases List.mem_cons.1 hm with hm | hm
                  · rw [← hm] at e
                    have : w.heap.size = D := by injection e with e _; injection e
                    have := heap_lt hD'; omega
                  · exact ih hr hm
              exact this _ h.df hmem
            let J : List U → (Nat → Prop) → World → Prop := fun pre X W => ∃ (rest : List U) (σk : St) (E' : Env) (G' : Ghost), unitsOf s = pre ++ rest ∧ roundsN lt lk p ea eb rest σk = some (y, σ') ∧ Head lt lk σk.T σk.H ∧
              Rel nt base pb G0 σk E' G' a W ∧ G.le G' ∧ (∀ r, X r → Frn base σk.H E' G' W r ∧ w.heap.size + 1 < r) ∧ Frn base σk.H E' G' W w.heap.size ∧ Frn base σk.H E' G' W (w.heap.size + 1) ∧
              W.heap[w.heap.size + 1]? = some (.loop (rec fn .ready none)) ∧ W.heap[w.heap.size]? = some (.deferred (some [])) ∧ (∀ (D : Nat) (o : Option (List Deferred)), w.heap[D]? = some (.deferred o) → W.heap[D]? = some (.deferred o))
            let Jx : World → Prop := fun W => ∃ (E' : Env) (G' : Ghost) (c : Code), jumpOf y = some c ∧ Rel nt base pb G0 σ' E' G' a W ∧ Frn base σ'.H E' G' W (w.heap.size + 1) ∧
              W.heap[w.heap.size + 1]? = some (.loop (rec fn .done (some c))) ∧ W.heap[w.heap.size]? = some (.deferred (some [])) ∧ (∀ (D : Nat) (o : Option (List Deferred)), w.heap[D]? = some (.deferred o) → W.heap[D]? = some (.deferred o))
            refine callsIn_FR.2 (Calls.mono (callsIn_wide.1 (hU s xa (w.heap.size + 1) J Jx W1 hxs hsr ?_ ?_ ?_ ?_)) ?_)
            · rintro pre X W ⟨rest, σk, E', G', _, _, _, hR, hGG, _⟩
              exact ⟨hR.hold xa _ (hGG _ _ hxg), fun x v hx => hR.hold x v (hR.gle x v (hR.lai x v hx))⟩
            · rintro pre X W W' ⟨rest, σk, E', G', e1, e2, hh, hR, hGG, hX, hD, hL, hl, hd, hmk⟩ hb hsz hos htp hou
              have hmkW : ∀ (D : Nat) (o : Option (List Deferred)), w.heap[D]? = some (.deferred o) → W'.heap[D]? = some (.deferred o) := fun D o hDD => by
                have h1 := hmk D o hDD
                rw [hb D (heap_lt h1) (fun hx => by have := (hX D hx).2; have := heap_lt hDD; omega)]; exact h1
              refine ⟨rest, σk, E', G', e1, e2, hh, hR.turn (X := X) (fun r hr => (hX r hr).1) hb hsz hos htp hou rfl (h.df.keep hmkW), hGG, fun r hr => ?_, hD.turn hsz, hL.turn hsz, ?_, ?_, hmkW⟩
              · rcases hr with hr | ⟨h1, h2⟩
                · exact ⟨(hX r hr).1.turn hsz, (hX r hr).2⟩
                · exact ⟨hR.frn h1 h2, by have := hL.hi; omega⟩
              · rw [hb _ hL.hi (fun hx => by have := (hX _ hx).2; omega)]; exact hl
              · rw [hb _ hD.hi (fun hx => by have := (hX _ hx).2; omega)]; exact hd
            · -- one round
              rintro pre u rest' X W ⟨rest, σk, E', G', e1, e2, hh, hR, hGG, hX, hD, hL, hl, hd, hmk⟩ hun
              obtain rfl : rest = u :: rest' := by
                rw [e1] at hun; exact List.append_cancel_left hun
              have hy := run_yield (P := P) (args := #[unitV u]) hl (by rw [hrec]; rfl)
              rw [hrec] at hy
              refine ⟨fn, _, assign, body, hy, ?_⟩
              have hy0 := hy
              simp only [roundsN] at e2
              split at e2
              · rename_i σ1 ha1
                split at e2
                · rename_i z σ2 hb2
                  split at e2
                  · rename_i hkk
                    split at e2
                    · rename_i σ3 hm3
                      -- the round's frame
                      have hlk : ∀ κ, (σk.H κ).isSome = true → κ ∈ lk := hh.H0
                      have hnp' : ∀ κ b, (κ, b) ∈ pbOf E' σk.H lk → κ < npb := fun κ b hm => hnpb κ (pbOf_mem.1 hm).1
                      have hr1 : Rel nt W (pbOf E' σk.H lk) G' σk E' G' { a with defers := [] } W := hR.rebase hlk rfl rfl
                      have hr2 := Rel.put (d := some p) (v := unitPV u) (x := unitV u) (T := σk.T) (H := σk.H) hr1 (fun k hk => by injection hk with hk; omega) (unit_rep u) (Cl.nil rfl)
                      have hasg := hea (w.heap.size + 1) hnp' hr2 ha1
                      have hact : ({ a with defers := [] } : Act).put (some p) (unitV u) = { tmps := ((#[p].zip #[unitV u]).foldl (fun t (q : Nat × Value) => t.setIfInBounds q.1 q.2) a.tmps), defers := [] } := by
                        simp [Act.put]
                      have hnol : ∀ κ b, (κ, b) ∈ pbOf E' σk.H lk → b ≠ w.heap.size + 1 := fun κ b hm e => by
                        obtain ⟨_, B, hB, hbk⟩ := pbOf_mem.1 hm
                        exact hL.own κ B hB (e ▸ hbk)
                      have hnot : w.heap.size + 1 ∉ (pbOf E' σk.H lk).map (·.2) := fun hm => by
                        obtain ⟨κ, B, _, hB, hbk⟩ := pbOf_snd hm
                        exact hL.own κ B hB hbk
                      have hnotD : w.heap.size ∉ (pbOf E' σk.H lk).map (·.2) := fun hm => by
                        obtain ⟨κ, B, _, hB, hbk⟩ := pbOf_snd hm
                        exact hD.own κ B hB hbk
                      have hnotX : ∀ r, X r → r ∉ (pbOf E' σk.H lk).map (·.2) := fun r hr hm => by
                        obtain ⟨κ, B, _, hB, hbk⟩ := pbOf_snd hm
                        exact (hX r hr).1.own κ B hB hbk
                      refine roundIn_of_wpIn (F := Fence.wide) trivial ?_
                      have hasg' : assign.wpIn (FR (some (w.heap.size + 1))) m P (Leaves none nt W (pbOf E' σk.H lk) G' .normal σ1) { tmps := ((#[p].zip #[unitV u]).foldl (fun t (q : Nat × Value) => t.setIfInBounds q.1 q.2) a.tmps), defers := [] } W := by
                        rw [← hact]; exact hasg
                      refine wpIn_mono (F := Fence.wide.inRound (w.heap.size + 1)) (n := 0) (Q := Leaves none nt W (pbOf E' σk.H lk) G' .normal σ1) (wpIn_FR_any hasg') ?_
                      rintro ex a1 w1 ⟨hf1, _, E1, G1, hR1⟩
                      cases ex <;> simp only [Fits] at hf1
                      -- the record is busy
                      have hl1 : w1.heap[w.heap.size + 1]? = some (.loop (rec fn .ready none)) := (hR1.fr _ hL.hi hnot).trans hl
                      have hG1 : ∀ r, r < W.heap.size → r ∉ (pbOf E' σk.H lk).map (·.2) → GFree G' r → GFree G1 r := fun r hr1 hr2 hg x hx => by
                        cases hv : G1 x with
                        | none => rfl
                        | some v =>
                          rcases hR1.gnew x (by simp [hv]) with h1 | h1 | h1
                          · exact absurd (hg x hx) h1
                          · omega
                          · exact absurd (hx ▸ h1) hr2
                      have hown1 : ∀ r, r < W.heap.size → r ∉ (pbOf E' σk.H lk).map (·.2) → ∀ κ B, σ1.H κ = some B → blkOf E1 κ B ≠ some r := fun r hr1 hr2 κ B hB hbk => by
                        rcases hR1.own κ B r hB hbk with h1 | h1
                        · omega
                        · exact hr2 (List.mem_map.2 ⟨_, h1, rfl⟩)
                      have hbegin := run_beginRound (P := P) hl1 (by rw [hrec])
                      refine ⟨_, hbegin, ?_⟩
                      obtain ⟨busy, hbusy⟩ : ∃ busy : Obj, Obj.loop { rec fn .ready none with state := .busy } = busy := ⟨_, rfl⟩
                      rw [hbusy]
                      have hR1b := hR1.bothPut (r := w.heap.size + 1) busy hL.hi (hown1 _ hL.hi hnot) (hG1 _ hL.hi hnot hL.gf)
                      have hbod := heb (w.heap.size + 1) hnp' hR1b hb2
                      refine wpIn_mono (F := Fence.wide.inRound (w.heap.size + 1)) (n := 0) (Q := Leaves none nt (W.putObj (w.heap.size + 1) busy) (pbOf E' σk.H lk) G' z σ2) (wpIn_FR_any hbod) ?_
                      rintro ex a2 w2 ⟨hf2, _, E2, G2, hR2⟩
                      have hWb : ∀ b, b ≠ w.heap.size + 1 → (W.putObj (w.heap.size + 1) busy).heap[b]? = W.heap[b]? := fun b hb => putObj_other hb
                      have hl2 : w2.heap[w.heap.size + 1]? = some busy := (hR2.fr _ (by simpa using hL.hi) hnot).trans (World.putObj_heap_same hL.hi)
                      have hsame : ∀ b, b < W.heap.size → b ≠ w.heap.size + 1 → b ∉ (pbOf E' σk.H lk).map (·.2) → w2.heap[b]? = W.heap[b]? := fun b hb hne hn => (hR2.fr _ (by simpa using hb) hn).trans (hWb b hne)
                      have hmkl : ∀ (D : Nat) (o : Option (List Deferred)), W.heap[D]? = some (.deferred o) → D ≠ w.heap.size + 1 ∧ D ∉ (pbOf E' σk.H lk).map (·.2) := fun D o hDD => by
                        refine ⟨(fun e => by rw [e, hl] at hDD; cases hDD), fun hm => ?_⟩
                        obtain ⟨κ, B, _, hB, hbk⟩ := pbOf_snd hm
                        exact (hR.hp κ B hB).noMark hbk hDD
                      have hmk2 : ∀ (D : Nat) (o : Option (List Deferred)), w.heap[D]? = some (.deferred o) → w2.heap[D]? = some (.deferred o) := fun D o hDD => by
                        have h1 := hmk D o hDD
                        obtain ⟨h2, h3⟩ := hmkl D o h1
                        exact (hsame D (heap_lt h1) h2 h3).trans h1
                      have hmkb : ∀ (D : Nat) (o : Option (List Deferred)), w.heap[D]? = some (.deferred o) → (W.putObj (w.heap.size + 1) busy).heap[D]? = some (.deferred o) := fun D o hDD => by
                        have h1 := hmk D o hDD
                        exact (hWb D (hmkl D o h1).1).trans h1
                      have hRb := hR.put1 busy hL (a' := a) rfl (h.df.keep hmkb)
                      have hRn := Rel.unbase (T := σk.T) (H := σk.H) hRb hR2 hkk (startOk_T hh.st hh.T0) hh.H0 hm3 (h.df.keep hmk2)
                      have hszW : W.heap.size ≤ w2.heap.size := by have := hR2.sz; simpa using this
                      have hσ3 : ∀ κ B, σ3.H κ = some B → σ2.H κ = some B := fun κ B hB => by
                        have hm3' := hm3
                        unfold mask at hm3'
                        split at hm3'
                        · injection hm3' with hm3'; subst hm3'
                          have hB' : maskH σ2.H lk κ = some B := hB
                          rw [maskH_get] at hB'
                          split at hB'
                          · exact hB'
                          · cases hB'
                        · cases hm3'
                      have frn2 : ∀ r, Frn base σk.H E' G' W r → r ∉ (pbOf E' σk.H lk).map (·.2) → Frn base σ3.H E2 G2 w2 r := fun r hr hn => by
                        refine ⟨hr.lo, Nat.lt_of_lt_of_le hr.hi hszW, fun κ B hB hbk => ?_, fun x hx => ?_⟩
                        · rcases hR2.own κ B r (hσ3 κ B hB) hbk with h1 | h1
                          · have := hr.hi; simp at h1; omega
                          · exact hn (List.mem_map.2 ⟨_, h1, rfl⟩)
                        · cases hv : G2 x with
                          | none => rfl
                          | some v =>
                            rcases hR2.gnew x (by simp [hv]) with h1 | h1 | h1
                            · exact absurd (hr.gf x hx) h1
                            · have := hr.hi; simp at h1; omega
                            · exact absurd (hx ▸ h1) hn
                      have hDn : w.heap.size ≠ w.heap.size + 1 := by omega
                      have hd2 : w2.heap[w.heap.size]? = some (.deferred (some [])) := (hsame _ hD.hi hDn hnotD).trans hd
                      have hGG2 : G.le G2 := hGG.trans hR2.gle
                      -- the record behind the round
                      have after : ∀ (o : Obj), (∀ oo, o ≠ .deferred oo) → Rel nt base pb G0 σ3 E2 G2 a (w2.putObj (w.heap.size + 1) o) ∧ (w2.putObj (w.heap.size + 1) o).heap[w.heap.size + 1]? = some o ∧ (w2.putObj (w.heap.size + 1) o).heap[w.heap.size]? = some (.deferred (some [])) ∧
                          (∀ (D : Nat) (oo : Option (List Deferred)), w.heap[D]? = some (.deferred oo) → (w2.putObj (w.heap.size + 1) o).heap[D]? = some (.deferred oo)) := fun o ho => by
                        have hmk3 : ∀ (D : Nat) (oo : Option (List Deferred)), w.heap[D]? = some (.deferred oo) → (w2.putObj (w.heap.size + 1) o).heap[D]? = some (.deferred oo) := fun D oo hDD => by
                          rw [putObj_other (hmkl D oo (hmk D oo hDD)).1]; exact hmk2 D oo hDD
                        exact ⟨hRn.put1 o (frn2 _ hL hnot) rfl (h.df.keep hmk3), World.putObj_heap_same (Nat.lt_of_lt_of_le hL.hi hszW), (putObj_other hDn).trans hd2, hmk3⟩
                      have hendr := fun jump : Option Code => run_endRound (P := P) jump (hl2.trans (by rw [hbusy]))
                      cases z with
                      | normal =>
                        cases ex <;> simp only [Fits] at hf2
                        obtain ⟨a1', a2', a3', a4'⟩ := after (.loop { { rec fn .ready none with state := .busy } with state := if (none : Option Code).isNone then .ready else .done, pending := none }) (fun _ e => by cases e)
                        refine ⟨_, _, hendr none, .inl ⟨rfl, ⟨rest', σ3, E2, G2, by rw [hun]; simp, e2, ?_, a1', hGG2, fun r hr => ⟨(frn2 r (hX r hr).1 (hnotX r hr)).turn (by simp), (hX r hr).2⟩, (frn2 _ hD hnotD).turn (by simp), (frn2 _ hL hnot).turn (by simp), ?_, a3', a4'⟩, by simpa using hszW, fun r hr => ?_⟩⟩
                        · exact (hh.next hkk hm3).1
                        · rw [a2', hrec]; rfl
                        · have hrl : r ≠ w.heap.size + 1 := by have := (hX r hr).2; omega
                          rw [putObj_other hrl]
                          exact hsame r (hX r hr).1.hi hrl (hnotX r hr)
                      | ret =>
                        simp only [Option.some.injEq, Prod.mk.injEq] at e2
                        obtain ⟨rfl, rfl⟩ := e2
                        cases ex <;> simp only [Fits] at hf2
                        obtain ⟨a1', a2', a3', a4'⟩ := after (.loop { { rec fn .ready none with state := .busy } with state := if (some Code.ret).isNone then .ready else .done, pending := some .ret }) (fun _ e => by cases e)
                        exact ⟨_, _, hendr (some .ret), .inr ⟨rfl, E2, G2, .ret, rfl, a1', (frn2 _ hL hnot).turn (by simp), by rw [a2', hrec]; rfl, a3', a4'⟩⟩
                      | exit id =>
                        simp only [Option.some.injEq, Prod.mk.injEq] at e2
                        obtain ⟨rfl, rfl⟩ := e2
                        cases ex <;> simp only [Fits] at hf2
                        subst hf2
                        obtain ⟨a1', a2', a3', a4'⟩ := after (.loop { { rec fn .ready none with state := .busy } with state := if (some (Code.exit id)).isNone then .ready else .done, pending := some (.exit id) }) (fun _ e => by cases e)
                        exact ⟨_, _, hendr (some (.exit id)), .inr ⟨rfl, E2, G2, .exit id, rfl, a1', (frn2 _ hL hnot).turn (by simp), by rw [a2', hrec]; rfl, a3', a4'⟩⟩
                    · cases e2
                  · cases e2
                · cases e2
              · cases e2
            · exact ⟨unitsOf s, σ0, E, G, by simp, he, hhead, hr0.turn (X := fun _ => False) (fun _ h => h.elim) (fun b hb _ => hold1 b hb) (by omega) (by rw [← hW1]; rfl) (by rw [← hW1]; rfl) (by rw [← hW1]; rfl) rfl (h.df.keep hmk0), .refl G,
                fun _ h => h.elim, hr0.frn (Nat.le_refl _) (by omega), hr0.frn (by omega) (by omega), hL1, hK1, hmk0⟩
            · -- behind the iterator
              rintro e W' ⟨⟨v, rfl⟩, (⟨X, rest, σk, E', G', e1, e2, hh, hR, hGG, hX, hD, hL, hl, hd, hmk⟩ | ⟨E', G', c, hj, hR, hL, hl, hd, hmk⟩)⟩
              · obtain rfl : rest = [] := by simpa using e1
                simp only [roundsN, Option.some.injEq, Prod.mk.injEq] at e2
                obtain ⟨rfl, rfl⟩ := e2
                have hend := run_endLoop (P := P) hl (by rw [hrec]; simp)
                rw [hrec] at hend
                refine ⟨none, _, hend, trivial, (fun _ h => nomatch h), E', G', hR.put1 _ hL rfl ?_⟩
                have := marks (W'.putObj (w.heap.size + 1) (.loop { (rec fn .ready none) with state := .exhausted })) (fun D o hDD => by
                  rw [putObj_other (fun e => by have := hmk D o hDD; rw [e, hl] at this; cases this)]; exact hmk D o hDD) ((putObj_other (by omega)).trans hd)
                rw [hmk', hrec] at this
                exact this
              · have hend := run_endLoop (P := P) hl (by rw [hrec]; simp)
                rw [hrec] at hend
                refine ⟨some c, _, hend, ?_⟩
                have hfin : Rel nt base pb G0 σ' E' G' { a with defers := [{ target := .collected w.heap.size, args := #[] }] ++ a.defers } (W'.putObj (w.heap.size + 1) (.loop { (rec fn .done (some c)) with state := .exhausted })) := by
                  refine hR.put1 _ hL rfl ?_
                  have := marks (W'.putObj (w.heap.size + 1) (.loop { (rec fn .done (some c)) with state := .exhausted })) (fun D o hDD => by
                    rw [putObj_other (fun e => by have := hmk D o hDD; rw [e, hl] at this; cases this)]; exact hmk D o hDD) ((putObj_other (by omega)).trans hd)
                  rw [hmk'] at this
                  exact this
                rw [hrec] at hfin
                cases y with
                | normal => cases hj
                | ret =>
                  injection hj with hj; subst hj
                  exact wpIn_ret ⟨trivial, (fun _ h => nomatch h), E', G', hfin⟩
                | exit id =>
                  injection hj with hj; subst hj
                  exact wpIn_exit ⟨rfl, (fun _ h => nomatch h), E', G', hfin⟩
        · cases he
      · cases he
    · cases he
  · cases he

end
end Go.Ab

/- Part Sound. -/
namespace Go.Ab
open Go
set_option linter.unusedSimpArgs false

def okCode (P : Program) (u np nt : Nat) : IC → Code → Bool
  | .skip, .skip | .skip, .label _ => true
  | .region ios d, .region _ ops d' => d == d' && okOpers P np nt ops ops.toList ios && (!d || (P.follows .mixedOrders && okPre ops.toList ios && okOrder ios))
  | .seq x y, .seq a b => okCode P u np nt x a && okCode P u np nt y b
  | .cond y x z, .cond c a b => okSrc c y && okCode P u np nt x a && okCode P u np nt z b
  | .block i x, .block j a => i == j && okCode P u np nt x a
  | .loop _ _ x, .loop a => okCode P u np nt x a
  | .exit i, .exit j => i == j
  | .ret, .ret => true
  | .scope x, .scope a => okCode P u np nt x a
  | .gmask _ _ x, a => okCode P u np nt x a
  | .gpost _ _ x, a => okCode P u np nt x a
  | .gadopt _ _ κ _ x, a => decide (np ≤ κ) && okCode P u np nt x a
  | .runits g x _ lk p npb ia ib, .rangeFunc y ps assign body => u != 0 && g == u && okCallee P g && okSrc y x && ps.toList == [p] && decide (p < nt) && decide (np ≤ npb) && lk.all (fun κ => decide (κ < npb)) && okCode P 0 npb nt ia assign && okCode P 0 npb nt ib body
  | _, _ => false

section
variable {r : Option Nat} {m : Nat} {np nt : Nat} {base : World} {pb : List (Nat × Nat)} {G0 : Ghost} {P : Program} {σ : St} {E : Env} {G : Ghost} {a : Act} {w : World}

theorem Rel.adopt {kb off κ sz : Nat} {σ' : St} (hpb : ∀ b, (κ, b) ∉ pb) (h : Rel nt base pb G0 σ E G a w) (ha : Ab.adopt kb off κ sz σ = some σ') : ∃ E', Rel nt base pb G0 σ' E' G a w := by
  unfold Ab.adopt at ha
  split at ha
  · rename_i cs hb hn
    split at ha
    · rename_i hc
      injection ha with ha; subst ha
      -- the array first, then the box that names it
      obtain ⟨E', hr, hE⟩ := h.newArrNil (sz := sz) hn hpb
      refine ⟨E', ?_⟩
      have hne : kb ≠ κ := fun e => by subst e; rw [hb] at hn; cases hn
      have hbk : upd σ.H κ (some (.arr sz [] false)) kb = some (.box cs) := by rw [upd_ne _ _ hne]; exact hb
      obtain ⟨vals, elem, hw, hl, hrr, hf⟩ := hr.hp kb _ hbk
      have hoff := (List.getElem?_eq_some_iff.1 hc).1
      have := hr.setKey hbk (E' := E') (w' := w) (B' := .box (cs.set off (.arr κ 0 0 0))) rfl (fun _ _ => rfl) (.inl rfl) (fun _ _ _ => rfl) (Nat.le_refl _) rfl rfl rfl hr.hold
        ⟨vals, elem, hw, by simpa using hl, fun i c v h1 h2 => by
          by_cases e : off = i
          · subst e
            rw [List.getElem?_set_self hoff] at h1; injection h1 with h1; subst h1
            have := hrr off .nil v hc h2
            cases this with
            | pure r => cases r; exact .arrNil κ 0 (by rw [hE]) (by rw [hE])
          · rw [List.getElem?_set_ne e] at h1; exact hrr i c v h1 h2, hf⟩ (fun b hb => .inl hb) (fun _ _ => ⟨_, rfl⟩) (fun cs' e c hcm => by
          injection e with e; subst e
          rcases List.mem_or_eq_of_mem_set hcm with h1 | h1
          · exact hr.cH kb cs hbk c h1
          · subst h1; intro κ' hκ'; simp [refC] at hκ'; subst hκ'; simp [upd_same])
      have hcomm : upd (upd σ.H κ (some (.arr sz [] false))) kb (some (.box (cs.set off (.arr κ 0 0 0)))) = upd (upd σ.H kb (some (.box (cs.set off (.arr κ 0 0 0))))) κ (some (.arr sz [] false)) := by
        funext i
        simp only [upd]
        by_cases h1 : i = kb
        · subst h1; simp [hne]
        · simp [h1]
      rw [hcomm] at this
      exact this
    · cases ha
  · cases ha

/-- A loop whose measure stands in no slot. -/
theorem wp_loop_by {F : Fence} {m : Nat} {c : Code} {Q : Exit → Act → World → Prop} (I : Nat → Act → World → Prop) (round : ∀ k a w, I k a w → c.wpIn F m P (Exit.then (fun a' w' => ∃ k', k' < k ∧ I k' a' w') Q) a w) (n : Nat) {a : Act} {w : World} (h₀ : I n a w) :
    (Code.loop c).wpIn F m P Q a w := by
  intro b k cs hro hb hr
  have key : ∀ n a w, I n a w → ∃ e a' w', Q e a' w' ∧ ArrivesIn (Machine.fenced P F) P (lone (b.atR a (.code c :: .inLoop c :: k)) cs w) b k cs e a' w' := by
    intro n
    induction n using Nat.strongRecOn with
    | _ n ih =>
      intro a w hI
      obtain ⟨e, a₁, w₁, hq, harr⟩ := round n a w hI b (.inLoop c :: k) cs hro hb hr
      cases e with
      | normal =>
        obtain ⟨k', hlt, hI₁⟩ := hq
        obtain ⟨e₂, a₂, w₂, hq₂, harr₂⟩ := ih k' hlt a₁ w₁ hI₁
        exact ⟨e₂, a₂, w₂, hq₂, .of_steps (StepsIn.trans harr (.one (fenced_calm (fr := b.atR a₁ (.inLoop c :: k)) hb hr rfl) stepR_inLoop)) harr₂⟩
      | exit id => exact ⟨_, a₁, w₁, hq, .pass (x := .inLoop c) rfl (fun _ _ => .inl (by simp)) harr⟩
      | goto l => exact ⟨_, a₁, w₁, hq, .pass (x := .inLoop c) rfl (fun _ _ => .inl (by simp)) harr⟩
      | ret => exact ⟨_, a₁, w₁, hq, .pass (x := .inLoop c) rfl (fun _ _ => .inl (by simp)) harr⟩
      | panic ch => exact ⟨_, a₁, w₁, hq, .pass (x := .inLoop c) rfl (fun _ _ => .inl (by simp)) harr⟩
      | outgrown => exact ⟨_, a₁, w₁, hq, .pass (x := .inLoop c) rfl (fun _ _ => .inl (by simp)) harr⟩
  obtain ⟨e, a', w', hq, harr⟩ := key n a w h₀
  exact ⟨e, a', w', hq, .of_steps (.one (fenced_calm (fr := b.atR a (.code (.loop c) :: k)) hb hr rfl) stepR_loop) harr⟩

theorem stepR_scope' {b : Frame} {a : Act} {c : Code} {k : List Item} {cs : List Frame} : step P (lone (b.atR a (.code (.scope c) :: k)) cs w) = .next (lone (b.atR a (.code c :: .inScope c :: k)) cs w) :=
  step_lone_go (by simp [stepG, stepG.exec, Frame.atR])
theorem stepR_inScope' {b : Frame} {a : Act} {c : Code} {k : List Item} {cs : List Frame} : step P (lone (b.atR a (.inScope c :: k)) cs w) = .next (lone (b.atR a k) cs w) :=
  step_lone_go (by simp [stepG, stepG.exec, Frame.atR])

theorem wpIn_scope_straight' {F : Fence} {m : Nat} {c : Code} {Q : Exit → Act → World → Prop} {a : Act} (h : c.wpIn F m P (Exit.noGoto Q) a w) : (Code.scope c).wpIn F m P Q a w := by
  intro b k cs hro hb hr
  have h0 : (lone (b.atR a (.code (.scope c) :: k)) cs w).fenced P F := fenced_calm hb hr rfl
  obtain ⟨e, a₁, w₁, hq, harr⟩ := h b (.inScope c :: k) cs hro hb hr
  cases e with
  | normal => exact ⟨.normal, a₁, w₁, hq, .head h0 stepR_scope' (StepsIn.trans harr (.one (fenced_calm (fr := b.atR a₁ (.inScope c :: k)) hb hr rfl) stepR_inScope'))⟩
  | exit id => exact ⟨.exit id, a₁, w₁, hq, fun k' hk => .head h0 stepR_scope' (harr.1 k' (by simp [exitTo, hk])), fun hr' hk => let ⟨k₁, h1, h2⟩ := harr.2 hr' (by simp [exitTo, hk]); ⟨k₁, h1, .head h0 stepR_scope' h2⟩⟩
  | goto l => exact hq.elim
  | ret => exact ⟨_, a₁, w₁, hq, .of_steps (.one h0 stepR_scope') harr⟩
  | panic ch => exact ⟨_, a₁, w₁, hq, .of_steps (.one h0 stepR_scope') harr⟩
  | outgrown => exact ⟨_, a₁, w₁, hq, .of_steps (.one h0 stepR_scope') harr⟩

theorem ev_sound {nt : Nat} {P : Program} {call : CallF} (hcall : CallOk P call) {n : Nat} : ∀ (ic : IC) {r : Option Nat} {m u np : Nat} {base : World} {pb : List (Nat × Nat)} {G0 : Ghost} {dd : Option (List Deferred)}, (u ≠ 0 → r = none ∧ UnitsOk P u ∧ dd = none) → (∀ κ b, (κ, b) ∈ pb → κ < np) → ∀ (c : Code), okCode P u np nt ic c = true → ∀ {σ : St} {E : Env} {G : Ghost} {a : Act} {w : World} {x : IX} {σ' : St},
    (∀ d, dd = some d → a.defers = d) → Rel nt base pb G0 σ E G a w → ev call n ic σ = some (x, σ') → c.wpIn (FR r) m P (Leaves dd nt base pb G0 x σ') a w := by
  intro ic
  induction ic with
  | skip =>
    intro r m u np base pb G0 dd hu hnp c hok σ E G a w x σ' hdd h he
    simp only [ev, Option.some.injEq, Prod.mk.injEq] at he
    obtain ⟨rfl, rfl⟩ := he
    cases c <;> simp only [okCode, Bool.false_eq_true] at hok
    · exact wpIn_skip ⟨trivial, hdd, E, G, h⟩
    · exact wpIn_label ⟨trivial, hdd, E, G, h⟩
  | region ios d =>
    intro r m u np base pb G0 dd hu hnp c hok σ E G a w x σ' hdd h he
    simp only [ev] at he
    split at he
    · rename_i σ1 h1
      simp only [Option.some.injEq, Prod.mk.injEq] at he
      obtain ⟨rfl, rfl⟩ := he
      cases c <;> simp only [okCode, Bool.false_eq_true] at hok
      rename_i id ops d'
      simp only [Bool.and_eq_true, beq_iff_eq, Bool.or_eq_true, Bool.not_eq_true'] at hok
      obtain ⟨⟨rfl, hops⟩, hd⟩ := hok
      cases d with
      | false =>
        refine wpIn_region ?_
        have := ops_seq (r := r) (m := m) (nt := nt) (base := base) (pb := pb) (G0 := G0) hnp hcall (ops := ops) (Q := Leaves dd nt base pb G0 .normal σ1) (σ' := σ1) ops.size 0 σ E G a w ios (by omega) (by omega) (by simpa using hops) h h1 (fun E' G' a' w' hd' hr => ⟨trivial, fun d hd0 => hd'.trans (hdd d hd0), E', G', hr⟩)
        simpa using this
      | true =>
        obtain ⟨⟨hm, hpre⟩, hord⟩ := hd.resolve_left (by simp)
        refine wpIn_region_any hm ?_
        obtain ⟨hlen, _⟩ := okOpers_get hops
        have hix := evIx_range (call := call) [] ios σ
        simp only [List.nil_append, List.length_nil, Nat.add_zero, List.map_id'] at hix
        have hsz : ios.length = ops.size := by rw [← hlen]; simp
        rw [hsz] at hix
        refine ops_any (d0 := a.defers) hnp hcall hops hpre hord (fun E' G' a' w' hd' hr => ⟨trivial, fun d hd0 => hd'.trans (hdd d hd0), E', G', hr⟩) ops.size (List.range ops.size) _ σ E G a _ (by simp) List.pairwise_lt_range (fun j hj => List.mem_range.1 hj) (by simp) (fun j hj => ?_) (fun k o hk hn ho e hem hb hm' => ?_) rfl (h.ext (Ext.drawn w _)) (by rw [hix]; exact h1)
        · simp [Array.getD, hj]
        · exact absurd (List.mem_range.2 hk) hn
    · cases he
  | seq i1 i2 ih1 ih2 =>
    intro r m u np base pb G0 dd hu hnp c hok σ E G a w x σ' hdd h he
    cases c <;> simp only [okCode, Bool.false_eq_true] at hok
    simp only [Bool.and_eq_true] at hok
    refine wpIn_seq ?_
    simp only [ev] at he
    split at he
    · rename_i σ1 h1
      refine wpIn_mono (ih1 hu hnp _ hok.1 hdd h h1) (fun e a' w' ⟨hf, hdd', E', G', hr⟩ => ?_)
      cases e <;> simp only [Fits] at hf
      exact ih2 hu hnp _ hok.2 hdd' hr he
    · rename_i hne
      refine wpIn_mono (ih1 hu hnp _ hok.1 hdd h he) (fun e a' w' hl => ?_)
      cases e with
      | normal =>
        cases x <;> simp only [Leaves, Fits, false_and] at hl
        exact absurd he (hne σ')
      | _ => exact hl
  | cond y i1 i2 ih1 ih2 =>
    intro r m u np base pb G0 dd hu hnp c hok σ E G a w x σ' hdd h he
    cases c <;> simp only [okCode, Bool.false_eq_true] at hok
    simp only [Bool.and_eq_true] at hok
    obtain ⟨⟨hs, hk1⟩, hk2⟩ := hok
    simp only [ev] at he
    split at he
    · rename_i t ht
      have hr := (okSrc_rep h hs).1
      rw [ht] at hr
      refine wpIn_cond (rep_bool hr) ?_
      cases t
      · simp only [Bool.false_eq_true, if_false] at he ⊢; exact ih2 hu hnp _ hk2 hdd h he
      · simp only [if_true] at he ⊢; exact ih1 hu hnp _ hk1 hdd h he
    · cases he
  | block id i ih =>
    intro r m u np base pb G0 dd hu hnp c hok σ E G a w x σ' hdd h he
    cases c <;> simp only [okCode, Bool.false_eq_true] at hok
    simp only [Bool.and_eq_true, beq_iff_eq] at hok
    obtain ⟨rfl, hk⟩ := hok
    refine wpIn_block ?_
    simp only [ev] at he
    split at he
    · rename_i j σ1 h1
      refine wpIn_mono (ih hu hnp _ hk hdd h h1) (fun e a' w' ⟨hf, hdd', E', G', hr⟩ => ?_)
      cases e <;> simp only [Fits] at hf
      subst hf
      simp only [Exit.inBlock]
      split at he
      · rename_i hj; subst hj
        simp only [Option.some.injEq, Prod.mk.injEq] at he
        obtain ⟨rfl, rfl⟩ := he
        rw [if_pos rfl]; exact ⟨trivial, hdd', E', G', hr⟩
      · rename_i hj
        simp only [Option.some.injEq, Prod.mk.injEq] at he
        obtain ⟨rfl, rfl⟩ := he
        rw [if_neg hj]; exact ⟨rfl, hdd', E', G', hr⟩
    · rename_i hne
      refine wpIn_mono (ih hu hnp _ hk hdd h he) (fun e a' w' hl => ?_)
      cases e with
      | exit j =>
        cases x <;> simp only [Leaves, Fits, false_and] at hl
        exact absurd he (hne _ σ')
      | _ => exact hl
  | loop lt lk i ih =>
    intro r m u np base pb G0 dd hu hnp c hok σ E G a w x σ' hdd h he
    cases c <;> simp only [okCode, Bool.false_eq_true] at hok
    rename_i b
    simp only [ev] at he
    refine wp_loop_by (fun k a' w' => ∃ σ₀ E' G', (∀ d, dd = some d → a'.defers = d) ∧ Rel nt base pb G0 σ₀ E' G' a' w' ∧ loopN lt lk (ev call n i) k σ₀ = some (x, σ')) ?_ n ⟨σ, E, G, hdd, h, he⟩
    rintro k a' w' ⟨σ₀, E', G', hdk, hr, hl⟩
    cases k with
    | zero => simp [loopN] at hl
    | succ k =>
      simp only [loopN] at hl
      split at hl
      · rename_i σ1 hm
        split at hl
        · rename_i σ2 h2
          refine wpIn_mono (ih hu hnp _ hok hdk (hr.mask hm) h2) (fun e a2 w2 ⟨hf, hdd', E2, G2, hr2⟩ => ?_)
          cases e <;> simp only [Fits] at hf
          exact ⟨k, by omega, σ2, E2, G2, hdd', hr2, hl⟩
        · rename_i hne
          refine wpIn_mono (ih hu hnp _ hok hdk (hr.mask hm) hl) (fun e a2 w2 hle => ?_)
          cases e with
          | normal =>
            cases x <;> simp only [Leaves, Fits, false_and] at hle
            exact absurd hl (hne σ')
          | _ => exact hle
      · cases hl
  | exit id =>
    intro r m u np base pb G0 dd hu hnp c hok σ E G a w x σ' hdd h he
    cases c <;> simp only [okCode, Bool.false_eq_true] at hok
    simp only [beq_iff_eq] at hok; subst hok
    simp only [ev, Option.some.injEq, Prod.mk.injEq] at he
    obtain ⟨rfl, rfl⟩ := he
    exact wpIn_exit ⟨rfl, hdd, E, G, h⟩
  | ret =>
    intro r m u np base pb G0 dd hu hnp c hok σ E G a w x σ' hdd h he
    cases c <;> simp only [okCode, Bool.false_eq_true] at hok
    simp only [ev, Option.some.injEq, Prod.mk.injEq] at he
    obtain ⟨rfl, rfl⟩ := he
    exact wpIn_ret ⟨trivial, hdd, E, G, h⟩
  | scope i ih =>
    intro r m u np base pb G0 dd hu hnp c hok σ E G a w x σ' hdd h he
    cases c <;> simp only [okCode, Bool.false_eq_true] at hok
    refine wpIn_scope_straight' (wpIn_mono (ih hu hnp _ hok hdd h he) (fun e a' w' hl => ?_))
    cases e with
    | goto l => cases x <;> simp only [Leaves, Fits, false_and] at hl
    | _ => exact hl
  | gmask lt lk i ih =>
    intro r m u np base pb G0 dd hu hnp c hok σ E G a w x σ' hdd h he
    have hok' : okCode P u np nt i c = true := by cases c <;> exact hok
    simp only [ev] at he
    split at he
    · rename_i σ1 hm; exact ih hu hnp _ hok' hdd (h.mask hm) he
    · cases he
  | gpost lt lk i ih =>
    intro r m u np base pb G0 dd hu hnp c hok σ E G a w x σ' hdd h he
    have hok' : okCode P u np nt i c = true := by cases c <;> exact hok
    simp only [ev] at he
    split at he
    · rename_i σ1 h1
      split at he
      · rename_i σ2 hm
        simp only [Option.some.injEq, Prod.mk.injEq] at he
        obtain ⟨rfl, rfl⟩ := he
        refine wpIn_mono (ih hu hnp _ hok' hdd h h1) (fun e a' w' ⟨hf, hdd', E', G', hr⟩ => ?_)
        exact ⟨hf, hdd', E', G', hr.mask hm⟩
      · cases he
    · exact ih hu hnp _ hok' hdd h he
  | gadopt kb off κ sz i ih =>
    intro r m u np base pb G0 dd hu hnp c hok σ E G a w x σ' hdd h he
    have hok2 : decide (np ≤ κ) = true ∧ okCode P u np nt i c = true := by
      have : (decide (np ≤ κ) && okCode P u np nt i c) = true := by cases c <;> exact hok
      simpa using this
    have hok' := hok2.2
    simp only [ev] at he
    split at he
    · rename_i σ1 hm
      obtain ⟨E', hr⟩ := h.adopt (fun b hb => by have := hnp κ b hb; have := hok2.1; simp at this; omega) hm
      exact ih hu hnp _ hok' hdd hr he
    · cases he
  | runits g y lt lk p npb i1 i2 ih1 ih2 =>
    intro r m u np base pb G0 dd hu hnp c hok σ E G a w x σ' hdd h he
    cases c <;> simp only [okCode, Bool.false_eq_true] at hok
    rename_i gx ps assign body
    simp only [Bool.and_eq_true, bne_iff_ne, beq_iff_eq, decide_eq_true_eq] at hok
    obtain ⟨⟨⟨⟨⟨⟨⟨⟨⟨hu0, hg⟩, hcal⟩, hs⟩, hps⟩, hp⟩, hnn⟩, hlk⟩, hk1⟩, hk2⟩ := hok
    subst hg
    obtain ⟨hr0, hU, hd0⟩ := hu hu0
    subst hr0; subst hd0
    have hpe : ps = #[p] := by cases ps; simp_all
    subst hpe
    simp only [ev] at he
    have hfn : ∀ args w, (callFunc g args).run P w = .ok (.enter g args) w := fun args w => by
      unfold okCallee at hcal
      split at hcal
      · rename_i fn hfn
        simp only [Bool.and_eq_true, bne_iff_ne] at hcal
        have hb : ¬ fn.body = none := by cases hbb : fn.body <;> simp_all
        simp [callFunc, hfn, hcal.1, hb]
      · cases hcal
    refine runU_sound (m := m) (npb := npb) hU hp (fun κ hκ => by have := List.all_eq_true.1 hlk κ hκ; simpa using this) hfn (fun l => ?_) (fun l => ?_) h hs he
    · intro base pb G0 hnp' σ E G a w y σ' h he
      exact ih1 (u := 0) (dd := none) (fun e => absurd rfl e) hnp' _ hk1 (fun _ h => nomatch h) h he
    · intro base pb G0 hnp' σ E G a w y σ' h he
      exact ih2 (u := 0) (dd := none) (fun e => absurd rfl e) hnp' _ hk2 (fun _ h => nomatch h) h he

end
end Go.Ab

/- Part Func. -/
namespace Go.Ab
open Go
set_option linter.unusedSimpArgs false

def okRes (P : Program) : List ResultVar → List IRes → Bool
  | [], [] => true
  | .tmp t :: l, .tmp t' :: m => t == t' && okRes P l m
  | .cell x t :: l, .cell x' n ag :: m => x == x' && tyB P t n ag && okRes P l m
  | _, _ => false

def okFunc (P : Program) (u f : Nat) (F : IFunc) : Bool :=
  match P.funcs[f]? with
  | some fn => decide (F.np ≤ F.nt) && fn.ntmps == F.nt && okRes P fn.results.toList F.res && (match fn.body with | some c => okCode P u F.np F.nt F.body c | none => false)
  | none => false

theorem enterT_get : ∀ {l : List PV} {i t : Nat}, enterT i l t = if i ≤ t then (match l[t - i]? with | some (.boxed _) => .ptr t 0 | some v => v | none => .never) else .never
  | [], i, t => by simp [enterT]
  | p :: l, i, t => by
    have key : ∀ v, upd (enterT (i + 1) l) i v t = if i ≤ t then (if t = i then v else match l[t - (i + 1)]? with | some (.boxed _) => .ptr t 0 | some v => v | none => .never) else .never := fun v => by
      by_cases e : t = i
      · subst e; simp [upd_same]
      · rw [upd_ne _ _ e, enterT_get]
        by_cases h : i ≤ t
        · rw [if_pos h, if_neg e, if_pos (by omega)]
        · rw [if_neg h, if_neg (by omega)]
    have hget : ∀ t, i ≤ t → t ≠ i → (p :: l)[t - i]? = l[t - (i + 1)]? := fun t h e => by
      rw [show t - i = (t - (i + 1)) + 1 by omega]; simp
    cases p <;> simp only [enterT, key] <;> by_cases h : i ≤ t <;> simp only [h, if_true, if_false] <;> by_cases e : t = i <;> first
      | (subst e; simp; done)
      | (simp only [e, if_false]; rw [hget t h e])

theorem enterH_get : ∀ {l : List PV} {i κ : Nat}, enterH i l κ = if i ≤ κ then (match l[κ - i]? with | some (.boxed cs) => some (.box cs) | _ => none) else none
  | [], i, κ => by simp [enterH]
  | p :: l, i, κ => by
    have hget : ∀ t, i ≤ t → t ≠ i → (p :: l)[t - i]? = l[t - (i + 1)]? := fun t h e => by
      rw [show t - i = (t - (i + 1)) + 1 by omega]; simp
    have rest : enterH (i + 1) l κ = if i ≤ κ then (if κ = i then none else match l[κ - (i + 1)]? with | some (.boxed cs) => some (.box cs) | _ => none) else none := by
      rw [enterH_get]
      by_cases e : κ = i
      · subst e; rw [if_neg (by omega), if_pos (Nat.le_refl _), if_pos rfl]
      · by_cases h : i ≤ κ
        · rw [if_pos h, if_neg e, if_pos (by omega)]
        · rw [if_neg h, if_neg (by omega)]
    cases p with
    | boxed cs =>
      simp only [enterH]
      by_cases e : κ = i
      · subst e; simp [upd_same]
      · rw [upd_ne _ _ e, rest]
        by_cases h : i ≤ κ
        · rw [if_pos h, if_pos h, if_neg e, hget κ h e]
        · rw [if_neg h, if_neg h]
    | _ =>
      simp only [enterH, rest]
      by_cases h : i ≤ κ
      · simp only [h, if_true]
        by_cases e : κ = i
        · subst e; simp
        · rw [if_neg e, hget κ h e]
      · simp only [h, if_false]

/-- The block that an argument hands over. -/
def blkArg (vs : List Value) (i : Nat) : Nat :=
  match vs[i]? with
  | some (.pointer (some x)) => x.block
  | _ => 0

/-- Parameters and the blocks that come with them. -/
def parOf (vs : List Value) : Nat → List PV → List (Nat × Nat)
  | _, [] => []
  | i, .boxed _ :: l => (i, blkArg vs i) :: parOf vs (i + 1) l
  | i, _ :: l => parOf vs (i + 1) l

theorem parOf_mem {vs : List Value} : ∀ {l : List PV} {i κ b : Nat}, (κ, b) ∈ parOf vs i l ↔ i ≤ κ ∧ (∃ cs, l[κ - i]? = some (.boxed cs)) ∧ b = blkArg vs κ
  | [], i, κ, b => by simp [parOf]
  | p :: l, i, κ, b => by
    have hget : ∀ t, i ≤ t → t ≠ i → (p :: l)[t - i]? = l[t - (i + 1)]? := fun t h e => by
      rw [show t - i = (t - (i + 1)) + 1 by omega]; simp
    have rest : (κ, b) ∈ parOf vs (i + 1) l ↔ κ ≠ i ∧ i ≤ κ ∧ (∃ cs, (p :: l)[κ - i]? = some (.boxed cs)) ∧ b = blkArg vs κ := by
      rw [parOf_mem]
      constructor
      · rintro ⟨h1, h2, h3⟩
        exact ⟨by omega, by omega, by rw [hget κ (by omega) (by omega)]; exact h2, h3⟩
      · rintro ⟨h0, h1, h2, h3⟩
        exact ⟨by omega, by rw [hget κ h1 h0] at h2; exact h2, h3⟩
    have nb : (∀ cs, p ≠ .boxed cs) → (κ, b) ∈ parOf vs (i + 1) l → i ≤ κ ∧ (∃ cs, (p :: l)[κ - i]? = some (.boxed cs)) ∧ b = blkArg vs κ := fun _ h => (rest.1 h).2
    have nb' : (∀ cs, p ≠ .boxed cs) → (i ≤ κ ∧ (∃ cs, (p :: l)[κ - i]? = some (.boxed cs)) ∧ b = blkArg vs κ) → (κ, b) ∈ parOf vs (i + 1) l := fun hp h => rest.2 ⟨fun e => by
      subst e
      obtain ⟨cs, hcs⟩ := h.2.1
      simp at hcs
      exact hp cs hcs, h⟩
    cases p with
    | boxed cs =>
      simp only [parOf, List.mem_cons, Prod.mk.injEq]
      constructor
      · rintro (⟨rfl, rfl⟩ | h)
        · exact ⟨Nat.le_refl _, ⟨cs, by simp⟩, rfl⟩
        · exact (rest.1 h).2
      · intro h
        by_cases e : κ = i
        · subst e; exact .inl ⟨rfl, h.2.2⟩
        · exact .inr (rest.2 ⟨e, h⟩)
    | _ => exact ⟨nb (fun cs e => by cases e), nb' (fun cs e => by cases e)⟩

theorem argsRep_get {G : Ghost} {w : World} : ∀ {ps : List PV} {vs : List Value} {bs : List Nat}, ArgsRep G w ps vs bs → ps.length = vs.length ∧
    (∀ (i : Nat) p, ps[i]? = some p → (∀ cs, p ≠ .boxed cs) → ∃ v, vs[i]? = some v ∧ RepP G p v) ∧
    (∀ (i : Nat) cs, ps[i]? = some (.boxed cs) → ∃ b, vs[i]? = some (.pointer (some ⟨b, 0, none⟩)) ∧ b ∈ bs ∧ CellsAt G w b cs)
  | _, _, _, .nil => ⟨rfl, fun i p h _ => by simp at h, fun i cs h => by simp at h⟩
  | _, _, _, .plain p v ps vs bs h hr => by
    obtain ⟨h1, h2, h3⟩ := argsRep_get hr
    refine ⟨by simp [h1], fun i q hq hn => ?_, fun i cs hq => ?_⟩
    · cases i with
      | zero => simp at hq; subst hq; exact ⟨v, rfl, h⟩
      | succ i => exact h2 i q (by simpa using hq) hn
    · cases i with
      | zero => simp at hq; subst hq; cases h with | one h => cases h
      | succ i => exact h3 i cs (by simpa using hq)
  | _, _, _, .boxed cs b ps vs bs h hr => by
    obtain ⟨h1, h2, h3⟩ := argsRep_get hr
    refine ⟨by simp [h1], fun i q hq hn => ?_, fun i cs' hq => ?_⟩
    · cases i with
      | zero => simp at hq; subst hq; exact absurd rfl (hn cs)
      | succ i => exact h2 i q (by simpa using hq) hn
    · cases i with
      | zero => simp at hq; subst hq; exact ⟨b, rfl, by simp, h⟩
      | succ i => obtain ⟨b', h4, h5, h6⟩ := h3 i cs' (by simpa using hq); exact ⟨b', by simpa using h4, List.mem_cons_of_mem _ h5, h6⟩

theorem argsRep_inj {G : Ghost} {w : World} : ∀ {ps : List PV} {vs : List Value} {bs : List Nat}, ArgsRep G w ps vs bs → bs.Nodup → ∀ (i j : Nat) cs cs', i ≠ j → ps[i]? = some (.boxed cs) → ps[j]? = some (.boxed cs') → blkArg vs i ≠ blkArg vs j
  | _, _, _, .nil, _, i, j, cs, cs', _, h, _ => by simp at h
  | _, _, _, .plain p v ps vs bs h hr, hn, i, j, cs, cs', hij, hi, hj => by
    have nb : ∀ cs, p ≠ .boxed cs := fun cs e => by subst e; cases h with | one h => cases h
    cases i with
    | zero => simp at hi; exact absurd hi (nb cs)
    | succ i =>
      cases j with
      | zero => simp at hj; exact absurd hj (nb cs')
      | succ j => exact argsRep_inj hr hn i j cs cs' (by omega) (by simpa using hi) (by simpa using hj)
  | _, _, _, .boxed cs0 b ps vs bs h hr, hn, i, j, cs, cs', hij, hi, hj => by
    rw [List.nodup_cons] at hn
    have far : ∀ k cs, ps[k]? = some (.boxed cs) → b ≠ blkArg vs k := fun k cs hk e => by
      obtain ⟨b', h1, h2, _⟩ := (argsRep_get hr).2.2 k cs hk
      have : blkArg vs k = b' := by simp [blkArg, h1]
      exact hn.1 (by rw [e, this]; exact h2)
    cases i with
    | zero =>
      cases j with
      | zero => omega
      | succ j => exact far j cs' (by simpa using hj)
    | succ i =>
      cases j with
      | zero => exact (far i cs (by simpa using hi)).symm
      | succ j => exact argsRep_inj hr hn.2 i j cs cs' (by omega) (by simpa using hi) (by simpa using hj)

/-- At the call's begin. -/
theorem rel_enter {G : Ghost} {w : World} {args : List PV} {vals : Array Value} {bs : List Nat} {nt : Nat} (hL : laidG.le G) (hG : Holds G w) (ha : ArgsRep G w args vals.toList bs) (hn : bs.Nodup) (hnt : args.length ≤ nt) :
    Rel nt w (parOf vals.toList 0 args) G ⟨enterT 0 args, enterH 0 args⟩ ⟨blkArg vals.toList, fun _ => ⟨none, 0, 0, 0⟩⟩ G ⟨vals ++ Array.replicate (nt - vals.size) Go.undef, []⟩ w := by
  obtain ⟨hl, hp, hb⟩ := argsRep_get ha
  have hsz : vals.size = args.length := by rw [hl]; simp
  have hH : ∀ κ B, enterH 0 args κ = some B → ∃ cs, args[κ]? = some (.boxed cs) ∧ B = .box cs := fun κ B h => by
    rw [enterH_get] at h
    simp only [Nat.zero_le, if_true, Nat.sub_zero] at h
    split at h
    · rename_i cs hcs; injection h with h; exact ⟨cs, hcs, h.symm⟩
    · cases h
  have hbl : ∀ κ cs, args[κ]? = some (.boxed cs) → ∃ b, vals[κ]? = some (.pointer (some ⟨b, 0, none⟩)) ∧ blkArg vals.toList κ = b ∧ CellsAt G w b cs := fun κ cs h => by
    obtain ⟨b, h1, _, h3⟩ := hb κ cs h
    exact ⟨b, by simpa using h1, by simp only [blkArg, h1], h3⟩
  have hcl : ∀ p v, RepP G p v → Cl (enterH 0 args) p := fun p v h => Cl.nil h.refs
  have hcells : ∀ {b cs}, CellsAt G w b cs → ∀ c ∈ cs, refC c = [] := fun {b cs} ⟨vs', elem, _, hl', hr, _⟩ c hc => by
    obtain ⟨i, hi⟩ := List.mem_iff_getElem?.1 hc
    have hlt : i < vs'.size := by rw [← hl']; exact (List.getElem?_eq_some_iff.1 hi).1
    exact (hr i c _ hi (Array.getElem?_eq_getElem hlt)).refC
  exact
  { tm := fun t => by
      show Rep _ G (enterT 0 args t) ((vals ++ Array.replicate (nt - vals.size) Go.undef).getD t Go.undef)
      rw [enterT_get]
      simp only [Nat.zero_le, if_true, Nat.sub_zero]
      have hgd : ∀ v, vals[t]? = some v → (vals ++ Array.replicate (nt - vals.size) Go.undef).getD t Go.undef = v := fun v hv => by
        rw [Array.getD_eq_getD_getElem?, Array.getElem?_append_left (Array.getElem?_eq_some_iff.1 hv).1, hv]; rfl
      cases hargs : args[t]? with
      | none =>
        have hge : args.length ≤ t := by
          rcases Nat.lt_or_ge t args.length with h | h
          · rw [List.getElem?_eq_getElem h] at hargs; cases hargs
          · exact h
        have : (vals ++ Array.replicate (nt - vals.size) Go.undef).getD t Go.undef = Go.undef := by
          rw [Array.getD_eq_getD_getElem?, Array.getElem?_append_right (by omega), Array.getElem?_replicate]
          split <;> rfl
        rw [this]; exact .never
      | some p =>
        by_cases hbx : ∃ cs, p = .boxed cs
        · obtain ⟨cs, rfl⟩ := hbx
          obtain ⟨b, h1, h2, _⟩ := hbl t cs hargs
          rw [hgd _ h1]
          simp only
          rw [← h2]
          exact .one (.ptr t 0)
        · obtain ⟨v, hv, hr⟩ := hp t p hargs (fun cs e => hbx ⟨cs, e⟩)
          rw [hgd v (by simpa using hv)]
          cases p <;> first | exact hr.rep | exact absurd ⟨_, rfl⟩ hbx
    ts := by simp; omega
    df := trivial
    hp := fun κ B h => by
      obtain ⟨cs, hcs, rfl⟩ := hH κ B h
      obtain ⟨b, h1, h2, vs', elem, hw, hl', hr, hf⟩ := hbl κ cs hcs
      exact ⟨vs', elem, by show w.heap[blkArg vals.toList κ]? = _; rw [h2]; exact hw, hl', fun i c v a b => .pure (hr i c v a b), by show GFree G (blkArg vals.toList κ); rw [h2]; exact hf⟩
    inj := fun κ κ' B B' b h1 h2 hne hb1 hb2 => by
      obtain ⟨cs, hcs, rfl⟩ := hH κ B h1
      obtain ⟨cs', hcs', rfl⟩ := hH κ' B' h2
      simp only [blkOf, Option.some.injEq] at hb1 hb2
      exact argsRep_inj ha hn κ κ' cs cs' hne hcs hcs' (by rw [hb1, hb2])
    cT := fun t => by
      show Cl (enterH 0 args) (enterT 0 args t)
      rw [enterT_get]
      simp only [Nat.zero_le, if_true, Nat.sub_zero]
      cases hargs : args[t]? with
      | none => exact Cl.nil rfl
      | some p =>
        by_cases hbx : ∃ cs, p = .boxed cs
        · obtain ⟨cs, rfl⟩ := hbx
          intro κ hκ
          simp [refs, refC] at hκ; subst hκ
          rw [enterH_get]; simp [hargs]
        · obtain ⟨v, _, hr⟩ := hp t p hargs (fun cs e => hbx ⟨cs, e⟩)
          cases p <;> first | exact hcl _ _ hr | exact absurd ⟨_, rfl⟩ hbx
    cH := fun κ cs h => by
      obtain ⟨cs', hcs, e⟩ := hH κ _ h
      injection e with e; subst e
      obtain ⟨b, _, _, h3⟩ := hbl κ cs hcs
      intro c hc κ' hκ'
      rw [hcells h3 c hc] at hκ'; cases hκ'
    hold := hG, lai := hL, gle := .refl G, gnew := fun x hx => .inl hx, fr := fun _ _ _ => rfl, sz := Nat.le_refl _,
    own := fun κ B b h hb => by
      obtain ⟨cs, hcs, rfl⟩ := hH κ B h
      simp only [blkOf, Option.some.injEq] at hb
      exact .inr (parOf_mem.2 ⟨Nat.zero_le _, ⟨cs, by simpa using hcs⟩, hb.symm⟩)
    par := fun κ b B hm h => (parOf_mem.1 hm).2.2.symm
    os := rfl, tape := rfl, output := rfl }

section
variable {nt : Nat} {base : World} {pb : List (Nat × Nat)} {G0 : Ghost} {P : Program} {σ : St} {E : Env} {G : Ghost} {a : Act} {w : World}

def resOne (tmps : Array Value) : ResultVar → Sem Value
  | .tmp t => pure (tmps.getD t Go.undef)
  | .cell x t => do loadVar t (← asAddr (tmps.getD x Go.undef))

theorem results_eq (fn : Func) (tmps : Array Value) : results fn tmps = (do let vs ← fn.results.mapM (resOne tmps); pure (if h : vs.size = 1 then vs[0] else .tuple vs)) := by
  unfold results
  refine congrArg (fun m : Sem (Array Value) => m >>= fun vs => pure (if h : vs.size = 1 then vs[0] else .tuple vs)) (congrArg (fun f : ResultVar → Sem Value => fn.results.mapM f) ?_)
  funext r
  cases r <;> rfl

/-- The results' values, read. -/
theorem run_resVals (h : Rel nt base pb G0 σ E G a w) : ∀ {rs : List ResultVar} {is : List IRes} {vs : List PV}, okRes P rs is = true → resVals σ is = some vs →
    ∃ xs : List Value, (rs.mapM (resOne a.tmps)).run P w = .ok xs w ∧ ValsRep E G σ.H vs xs
  | [], [], vs, _, hv => by
    simp only [resVals, Option.some.injEq] at hv; subst hv
    exact ⟨[], rfl, .nil⟩
  | [], _ :: _, vs, hok, _ => by simp [okRes] at hok
  | r :: rs, [], vs, hok, _ => by cases r <;> simp [okRes] at hok
  | r :: rs, i :: is, vs, hok, hv => by
    simp only [resVals] at hv
    split at hv
    · rename_i v hv1
      split at hv
      · rename_i vs' hvs
        injection hv with hv; subst hv
        have one : ∃ x, (resOne a.tmps r).run P w = .ok x w ∧ Rep E G v x ∧ Cl σ.H v ∧ okRes P rs is = true := by
          cases r with
          | tmp t =>
            cases i <;> simp only [okRes, Bool.and_eq_true, beq_iff_eq, Bool.false_eq_true] at hok
            obtain ⟨rfl, hr⟩ := hok
            simp only [resVal, Option.some.injEq] at hv1; subst hv1
            exact ⟨_, rfl, h.tm t, h.cT t, hr⟩
          | cell x t =>
            cases i <;> simp only [okRes, Bool.and_eq_true, beq_iff_eq, Bool.false_eq_true] at hok
            rename_i x' n ag
            obtain ⟨⟨rfl, hty⟩, hr⟩ := hok
            simp only [resVal] at hv1
            split at hv1
            · rename_i κ off hx
              split at hv1
              · rename_i cs hk
                have hrep := h.tm x
                rw [hx] at hrep
                obtain ⟨b, o, he, hc, hcl⟩ := addr_cells h (hh := σ.H) (fun _ _ h => h) hrep (.inl ⟨κ, off, cs, rfl, hk, rfl⟩)
                obtain ⟨y, hy, hry, hcy⟩ := run_ld (P := P) hty hc hcl hv1
                exact ⟨y, by simp only [resOne, he, asAddr, Sem.run_bind, Sem.run_pure, Result.andThen_ok]; exact hy, hry, hcy, hr⟩
              · cases hv1
            · cases hv1
        obtain ⟨x, hx, hr, hc, hok'⟩ := one
        obtain ⟨xs, hxs, hrs⟩ := run_resVals h hok' hvs
        refine ⟨x :: xs, ?_, .cons _ _ _ _ hr hc hrs⟩
        rw [List.mapM_cons]
        simp only [Sem.run_bind, hx, Result.andThen_ok, hxs, Sem.run_pure]
      · cases hv
    · cases hv

theorem purs_rep {E : Env} {G0 G : Ghost} {H h : Hp} : ∀ {vs ps : List PV} {xs : List Value}, ValsRep E G0 H vs xs → purs h vs = some ps → G0.le G → OpenAll E G h (vs.flatMap refs) →
    ps.length = xs.length ∧ ∀ (i : Nat) p x, ps[i]? = some p → xs[i]? = some x → RepP G p x
  | _, ps, _, .nil, hp, _, _ => by simp only [purs, Option.some.injEq] at hp; subst hp; exact ⟨rfl, fun i p x h => by simp at h⟩
  | _, ps, _, .cons p v qs vs hr hc hrs, hp, hg, ho => by
    simp only [purs] at hp
    split at hp
    · rename_i q hq
      split at hp
      · rename_i qs' hqs
        injection hp with hp; subst hp
        obtain ⟨h1, h2⟩ := purs_rep hrs hqs hg (fun κ hk => ho κ (by rw [List.flatMap_cons]; exact List.mem_append_right _ hk))
        refine ⟨by simp [h1], fun i p' x hi hx => ?_⟩
        cases i with
        | zero => simp at hi hx; subst hi; subst hx; exact pur_rep hq hr hg (fun κ hk => ho κ (by rw [List.flatMap_cons]; exact List.mem_append_left _ hk))
        | succ i => exact h2 i p' x (by simpa using hi) (by simpa using hx)
      · cases hp
    · cases hp

/-- A box's cells made plain. -/
theorem box_plain (h : Rel nt base pb G0 σ E G a w) {hh : Hp} {κ : Nat} {cs ps : List PV} (hk : σ.H κ = some (.box cs)) (hp : purCs hh false cs = some ps) (ho : OpenAll E G hh (cs.flatMap refC)) : CellsAt G w (E.bx κ) ps := by
  obtain ⟨vals, elem, hw, hl, hrr, hf⟩ := h.hp κ _ hk
  obtain ⟨hl', hr'⟩ := purCs_get hp
  refine ⟨vals, elem, hw, by omega, fun i c u hi hu => ?_, hf⟩
  obtain ⟨d, hd, hpd⟩ := hr' i c hi
  exact purC_rep hpd (hrr i d u hd hu) (.refl G) fun κ' hκ' => ho κ' (List.mem_flatMap.2 ⟨d, List.mem_of_getElem? hd, hκ'⟩)

def outKeys (H : Hp) : Nat → List PV → List Nat
  | _, [] => []
  | i, .boxed _ :: l => (match H i with | some (.box cs) => cs.flatMap refC | _ => []) ++ outKeys H (i + 1) l
  | i, _ :: l => outKeys H (i + 1) l

theorem outs_rep (h : Rel nt base pb G0 σ E G a w) {hh : Hp} (hs : Sees hh σ.H) {vs0 : List Value} : ∀ {args : List PV} {vs : List Value} {bs : List Nat} {i : Nat} {os : List (List PV)} {Ga : Ghost} {wa : World}, ArgsRep Ga wa args vs bs → (∀ k, vs[k]? = vs0[i + k]?) →
    (∀ κ b, i ≤ κ → (∃ cs, args[κ - i]? = some (.boxed cs)) → b = blkArg vs0 κ → (κ, b) ∈ pb) → outs hh i args = some os → OpenAll E G hh (outKeys hh i args) → OutsRep G w os bs
  | _, _, _, i, os, _, _, .nil, _, _, ho, _ => by
    simp only [outs, Option.some.injEq] at ho; subst ho; exact .nil
  | _, _, _, i, os, _, _, .plain p v ps vs bs hp hr, hv, hpb, ho, hop => by
    have nb : ∀ cs, p ≠ .boxed cs := fun cs e => by subst e; cases hp with | one h => cases h
    have e1 : outs hh i (p :: ps) = outs hh (i + 1) ps := by cases p <;> first | rfl | exact absurd rfl (nb _)
    have e2 : outKeys hh i (p :: ps) = outKeys hh (i + 1) ps := by cases p <;> first | rfl | exact absurd rfl (nb _)
    rw [e1] at ho; rw [e2] at hop
    refine outs_rep h hs hr (fun k => by have := hv (k + 1); simp only [List.getElem?_cons_succ] at this; rw [this]; congr 1; omega) (fun κ b hi hc hb => hpb κ b (by omega) ?_ hb) ho hop
    rw [show κ - i = (κ - (i + 1)) + 1 by omega]; simpa using hc
  | _, _, _, i, os, _, _, .boxed cs b ps vs bs hcell hr, hv, hpb, ho, hop => by
    simp only [outs] at ho
    split at ho
    · rename_i cs' hk
      split at ho
      · rename_i qs hq
        split at ho
        · rename_i os' hos
          injection ho with ho; subst ho
          have hk' := frz_box hs hk
          have hb0 : blkArg vs0 i = b := by have := hv 0; simp at this; simp [blkArg, ← this]
          have hm := hpb i b (Nat.le_refl _) ⟨cs, by simp⟩ hb0.symm
          have hbx := h.par i b _ hm hk'
          simp only [outKeys, hk] at hop
          have := box_plain h hk' hq (fun κ hκ => hop κ (List.mem_append_left _ hκ))
          rw [hbx] at this
          refine .cons _ _ _ _ this (outs_rep h hs hr (fun k => by have := hv (k + 1); simp only [List.getElem?_cons_succ] at this; rw [this]; congr 1; omega) (fun κ b hi hc hb => hpb κ b (by omega) ?_ hb) hos (fun κ hκ => hop κ (List.mem_append_right _ hκ)))
          rw [show κ - i = (κ - (i + 1)) + 1 by omega]; simpa using hc
        · cases ho
      · cases ho
    · cases ho

end

/-- What the keys of a result's value are that must lie open. -/
def giveKeys (H : Hp) : List PV → List Nat
  | [.ptr κ _] => (match H κ with | some (.box cs) => cs.flatMap refC | _ => [])
  | vs => vs.flatMap refs

theorem outs_alive {h : Hp} : ∀ {args : List PV} {i : Nat} {os : List (List PV)}, outs h i args = some os → ∀ κ, i ≤ κ → (∃ cs, args[κ - i]? = some (.boxed cs)) → ∃ cs, h κ = some (.box cs)
  | [], i, os, _, κ, _, ⟨cs, hc⟩ => by simp at hc
  | p :: l, i, os, ho, κ, hi, ⟨cs, hc⟩ => by
    have step : κ ≠ i → (p :: l)[κ - i]? = l[κ - (i + 1)]? := fun e => by
      rw [show κ - i = (κ - (i + 1)) + 1 by omega]; simp
    have other : (∀ cs, p ≠ .boxed cs) → outs h (i + 1) l = some os → ∃ cs, h κ = some (.box cs) := fun hp ho' => by
      have e : κ ≠ i := fun e => by subst e; simp at hc; exact hp cs hc
      rw [step e] at hc
      exact outs_alive ho' κ (by omega) ⟨cs, hc⟩
    cases p with
    | boxed cs0 =>
      simp only [outs] at ho
      split at ho
      · rename_i cs1 hk
        split at ho
        · split at ho
          · rename_i os' hos
            by_cases e : κ = i
            · subst e; exact ⟨cs1, hk⟩
            · rw [step e] at hc
              exact outs_alive hos κ (by omega) ⟨cs, hc⟩
          · cases ho
        · cases ho
      · cases ho
    | _ => exact other (fun _ e => nomatch e) ho

theorem leaves_marks {nt : Nat} {base : World} {pb : List (Nat × Nat)} {G0 : Ghost} {P : Program} {σ : St} {E : Env} {G : Ghost} {fn : Func} {R : Ending → World → Prop} :
    ∀ {ds : List Deferred} {a : Act} {w : World}, a.defers = ds → Rel nt base pb G0 σ E G a w → (∀ w', Rel nt base pb G0 σ E G { a with defers := [] } w' → ∃ v, (results fn a.tmps).run P w' = .ok v w' ∧ R (.returned v) w') →
    LeavesInM Fence.wide 0 P fn a.tmps R ds .returning w
  | [], a, w, hd, h, k => by
    refine k w ?_
    have : ({ a with defers := [] } : Act) = a := by cases a; simp_all
    rw [this]; exact h
  | d :: ds, a, w, hd, h, k => by
    have hdf := h.df
    rw [hd] at hdf
    obtain ⟨⟨D, rfl, hb, hD⟩, hn, hr⟩ := hdf
    have hmk : MarksOk base (w.putObj D (.deferred none)) ds := by
      have key : ∀ l : List Deferred, ({ target := .collected D, args := #[] } : Deferred) ∉ l → MarksOk base w l → MarksOk base (w.putObj D (.deferred none)) l := fun l => by
        induction l with
        | nil => intro _ _; trivial
        | cons d l ih =>
          rintro hnl ⟨⟨D', e, hb', hD'⟩, hn', hr'⟩
          refine ⟨⟨D', e, hb', ?_⟩, hn', ih (fun hm => hnl (List.mem_cons_of_mem _ hm)) hr'⟩
          rw [putObj_other (fun e' => hnl (by rw [e, e']; exact List.mem_cons_self))]; exact hD'
      exact key ds hn hr
    have hfrn : ∀ κ B, σ.H κ = some B → blkOf E κ B ≠ some D := fun κ B hB hbk => (h.hp κ B hB).noMark hbk hD
    have hgf : GFree G D := fun x hx => by
      cases hv : G x with
      | none => rfl
      | some v =>
        have := h.hold x v hv
        unfold World.cell? at this
        rw [hx, hD] at this
        cases this
    have h2 : Rel nt base pb G0 σ E G { a with defers := ds } (w.putObj D (.deferred none)) := h.put1 _ ⟨hb, heap_lt hD, hfrn, hgf⟩ rfl hmk
    exact ⟨by simp, .inl ⟨D, _, rfl, run_takeDeferred hD, leaves_marks (a := { a with defers := ds }) rfl h2 k⟩⟩

theorem func_sound {P : Program} {call : CallF} {u : Nat} (hu : u ≠ 0 → UnitsOk P u) (hcall : CallOk P call) {n f : Nat} {F : IFunc} (hok : okFunc P u f F = true) {args : List PV} (hargs : args.length = F.np) {res : PV} {os : List (List PV)}
    (he : finish F args (ev call n F.body ⟨enterT 0 args, enterH 0 args⟩) = some (res, os)) {w : World} {G : Ghost} {vals : Array Value} {bs : List Nat} (hL : laidG.le G) (hG : Holds G w) (ha : ArgsRep G w args vals.toList bs) (hn : bs.Nodup) :
    CallsPost P f vals G w bs res os := by
  unfold okFunc at hok
  split at hok
  · rename_i fn hfn
    simp only [Bool.and_eq_true, decide_eq_true_eq, beq_iff_eq] at hok
    obtain ⟨⟨⟨hnt, hnt2⟩, hres⟩, hbody⟩ := hok
    split at hbody
    · rename_i c hc
      have hrel := rel_enter (nt := F.nt) hL hG ha hn (by omega)
      have hnp : ∀ κ b, (κ, b) ∈ parOf vals.toList 0 args → κ < F.np := fun κ b hm => by
        obtain ⟨_, ⟨cs, hcs⟩, _⟩ := parOf_mem.1 hm
        have := (List.getElem?_eq_some_iff.1 hcs).1
        omega
      cases hev : ev call n F.body ⟨enterT 0 args, enterH 0 args⟩ with
      | none => rw [hev] at he; simp [finish] at he
      | some r =>
        obtain ⟨x, σ⟩ := r
        rw [hev] at he
        have hx : x = .normal ∨ x = .ret := by cases x <;> simp [finish] at he ⊢
        have he' : (match resVals σ F.res with
            | some vs => match give F.np σ.H vs with
              | some r => match outs σ.H 0 args with
                | some os => some (r, os)
                | none => none
              | none => none
            | none => none) = some (res, os) := by rcases hx with rfl | rfl <;> exact he
        have hwp := ev_sound (r := none) (m := 0) (u := u) (nt := F.nt) hcall F.body (dd := none) (fun h => ⟨rfl, hu h, rfl⟩) hnp c hbody (fun _ h => nomatch h) hrel hev
        refine (callsIn_wide (n := 0)).1 (callsIn_of_wp_marks (F := Fence.wide) (n := 0) hfn hc trivial ?_)
        rw [hnt2]
        refine wpIn_mono (F := Fence.wide) hwp (fun e a0 w0 ⟨hfit, _, E', G', hr0⟩ => ?_)
        suffices key : ∀ w', Rel F.nt w (parOf vals.toList 0 args) G σ E' G' { a0 with defers := [] } w' → ∃ v, (results fn a0.tmps).run P w' = .ok v w' ∧ ∃ v' G', Ending.returned v = .returned v' ∧ Post G w bs res os v' G' w' by
          have hgoal := leaves_marks (P := P) (fn := fn) (R := fun e w' => ∃ v G', e = .returned v ∧ Post G w bs res os v G' w') rfl hr0 key
          rcases hx with rfl | rfl <;> cases e <;> simp only [Fits] at hfit <;> exact hgoal
        intro w' hr
        obtain ⟨a', ha'⟩ : ∃ a' : Act, a' = { a0 with defers := [] } := ⟨_, rfl⟩
        rw [← ha'] at hr
        rw [show a0.tmps = a'.tmps by rw [ha']]
        -- the results, the boxes: all that must lie open
        split at he'
        · rename_i vs hvs
          split at he'
          · rename_i r hg
            split at he'
            · rename_i os' hos
              simp only [Option.some.injEq, Prod.mk.injEq] at he'
              obtain ⟨rfl, rfl⟩ := he'
              obtain ⟨xs, hxs, hvr⟩ := run_resVals (P := P) hr hres hvs
              obtain ⟨G1, hg1, hr1, ho1, hs1, hn1⟩ := Rel.freezes (h := σ.H) (giveKeys σ.H vs ++ outKeys σ.H 0 args) (T := σ.T) (H := σ.H) hr (.of_le fun _ _ h => h)
              have hog : OpenAll E' G1 σ.H (giveKeys σ.H vs) := fun κ hκ => ho1 κ (List.mem_append_left _ hκ)
              have hoo : OpenAll E' G1 σ.H (outKeys σ.H 0 args) := fun κ hκ => ho1 κ (List.mem_append_right _ hκ)
              have houts : OutsRep G1 w' os' bs := outs_rep hr1 hs1 (vs0 := vals.toList) ha (fun k => by simp) (fun κ b _ hcs hb => parOf_mem.2 ⟨Nat.zero_le _, by simpa using hcs, hb⟩) hos hoo
              have hsize : fn.results.size = xs.length := by
                have h1 : ∀ {rs : List ResultVar} {is : List IRes}, okRes P rs is = true → rs.length = is.length := fun {rs} => by
                  induction rs with
                  | nil => intro is h; cases is <;> simp [okRes] at h ⊢
                  | cons r rs ih =>
                    intro is h
                    cases is with
                    | nil => cases r <;> simp [okRes] at h
                    | cons i is => cases r <;> cases i <;> simp only [okRes, Bool.and_eq_true, Bool.false_eq_true] at h <;> simp [ih h.2]
                have h2 : ∀ {is : List IRes} {vs : List PV}, resVals σ is = some vs → is.length = vs.length := fun {is} => by
                  induction is with
                  | nil => intro vs h; simp [resVals] at h; subst h; rfl
                  | cons i is ih =>
                    intro vs h
                    simp only [resVals] at h
                    split at h
                    · split at h
                      · rename_i vs' hvs'; injection h with h; subst h; simp [ih hvs']
                      · cases h
                    · cases h
                have h3 : ∀ {E : Env} {G : Ghost} {H : Hp} {ps : List PV} {ys : List Value}, ValsRep E G H ps ys → ps.length = ys.length := fun {E G H ps ys} h => by
                  induction h with
                  | nil => rfl
                  | cons p v ps vs h hc hr ih => simp [ih]
                have := h1 hres
                simp at this
                rw [this, h2 hvs, h3 hvr]
              have hx2 : (fn.results.mapM (resOne a'.tmps)).run P w' = .ok xs.toArray w' := by
                rw [Array.mapM_eq_mapM_toList, Sem.run_map, hxs]; rfl
              have hrun : (results fn a'.tmps).run P w' = .ok (if h : xs.length = 1 then xs[0] else .tuple xs.toArray) w' := by
                rw [results_eq, Sem.run_bind, hx2]
                simp only [Result.andThen_ok, Sem.run_pure, List.size_toArray]
                split <;> simp
              have hpost : ∀ v, ResRep G1 w w' r v → (if h : xs.length = 1 then xs[0] else .tuple xs.toArray) = v → ∃ v, (results fn a'.tmps).run P w' = .ok v w' ∧ ∃ v' G', Ending.returned v = .returned v' ∧ Post G w bs r os' v' G' w' := fun v hv hve => by
                have hbs : ∀ b, b ∈ (parOf vals.toList 0 args).map (·.2) → b ∈ bs := fun b hb => by
                  obtain ⟨⟨κ, b'⟩, hm, rfl⟩ := List.mem_map.1 hb
                  obtain ⟨_, ⟨cs, hcs⟩, hbb⟩ := parOf_mem.1 hm
                  obtain ⟨b2, h1, h2, _⟩ := (argsRep_get ha).2.2 κ cs (by simpa using hcs)
                  have : b' = b2 := by rw [hbb]; simp only [blkArg, h1]
                  simp only; rw [this]; exact h2
                have hgn : ∀ x, G1 x ≠ none → G x ≠ none ∨ w.heap.size ≤ x.block := fun x hx => by
                  rcases hr1.gnew x hx with h1 | h1 | h1
                  · exact .inl h1
                  · exact .inr h1
                  · exfalso
                    obtain ⟨⟨κ, b'⟩, hm, hb'⟩ := List.mem_map.1 h1
                    obtain ⟨_, hcs, _⟩ := parOf_mem.1 hm
                    obtain ⟨cs1, hcs1⟩ := outs_alive hos κ (Nat.zero_le _) hcs
                    have hk1 := frz_box hs1 hcs1
                    have hbx := hr1.par κ b' cs1 hm hk1
                    obtain ⟨_, _, _, _, _, hfree⟩ := hr1.hp κ _ hk1
                    exact hx (hfree x (by rw [hbx]; exact hb'.symm))
                have hp : Post G w bs r os' v G1 w' :=
                  { gle := hr1.gle, hold := hr1.hold, gnew := hgn, res := hv, outs := houts, fr := fun b hb hnb => hr1.fr b hb (fun hm => hnb (hbs b hm)), size := hr1.sz, os := hr1.os, tape := hr1.tape, output := hr1.output }
                rw [← hve] at hp
                exact ⟨_, hrun, _, G1, rfl, hp⟩
              have hvr1 := hvr.mono (H' := ups σ.H (frz σ.H (giveKeys σ.H vs ++ outKeys σ.H 0 args))) hg1 (fun p hp => hp.ups)
              have plain : ∀ v q x, vs = [v] → pur σ.H true v = some q → refs v = giveKeys σ.H vs → xs = [x] → ResRep G1 w w' q x := fun v q x e1 hq hrf e2 => by
                subst e1; subst e2
                cases hvr with
                | cons _ _ _ _ h hc hrs =>
                  exact .plain _ _ (pur_rep hq h hg1 (by rw [hrf]; exact hog))
              unfold give at hg
              split at hg
              · rename_i κ off
                split at hg
                · rename_i hκ
                  obtain ⟨hκ, rfl⟩ := hκ
                  split at hg
                  · rename_i cs hk
                    split at hg
                    · rename_i ps hps
                      injection hg with hg; subst hg
                      cases hvr1 with
                      | cons _ x _ ys h hc hrs =>
                        cases hrs
                        have hk1 := frz_box hs1 hk
                        have hcell := box_plain hr1 hk1 hps (by simp only [giveKeys, hk] at hog; exact hog)
                        have hxe : x = .pointer (some ⟨E'.bx κ, 0, none⟩) := by cases h with | one h => cases h with | pure h => cases h | ptr κ off => rfl
                        refine hpost _ (.boxed ps (E'.bx κ) ?_ hcell) (by simpa using hxe)
                        rcases hr1.own κ _ _ hk1 rfl with h1 | h1
                        · exact h1
                        · have := hnp κ _ h1; omega
                    · cases hg
                  · cases hg
                · cases hg
              · rename_i v hnp'
                cases hvr1 with
                | cons _ x _ ys h hc hrs =>
                  cases hrs
                  refine hpost x (plain v r x rfl hg ?_ rfl) (by simp)
                  cases v <;> first | (simp [giveKeys]; done) | exact absurd rfl (hnp' _ _)
              · rename_i hn1' hn2'
                split at hg
                · rename_i ps hps
                  injection hg with hg; subst hg
                  have hgk : giveKeys σ.H vs = vs.flatMap refs := by
                    unfold giveKeys
                    split
                    · exact absurd rfl (hn1' _ _)
                    · rfl
                  obtain ⟨hl, hpr⟩ := purs_rep hvr hps hg1 (by rw [← hgk]; exact hog)
                  have hne : xs.length ≠ 1 := fun e => by
                    have hvl : vs.length = xs.length := by
                      clear hpr hl hps hn1' hn2' hgk hpost hrun hx2 hsize hvr1 plain hxs hog ho1 houts
                      induction hvr with
                      | nil => rfl
                      | cons p v ps vs h hc hr ih => simp at e ⊢; cases hr <;> simp_all
                    rw [e] at hvl
                    obtain ⟨v, hv⟩ := List.length_eq_one_iff.1 hvl
                    exact hn2' v hv
                  refine hpost (.tuple xs.toArray) (.tuple ps xs.toArray (by simpa using hl) (fun i p x hp hx => hpr i p x hp (by simpa using hx))) (by rw [dif_neg hne])
                · cases hg
            · cases he'
          · cases he'
        · cases he'
    · cases hbody
  · cases hok

end Go.Ab

namespace Go.Ab
open Go
/-- A function that is given whole answers so. -/
def PrimOk (P : Program) (f : Nat) (g : List PV → Option PV) : Prop :=
  ∀ args r, g args = some r → ∀ (w : World) (G : Ghost) (vals : Array Value) (bs : List Nat), laidG.le G → Holds G w → ArgsRep G w args vals.toList bs → bs.Nodup → CallsPost P f vals G w bs r []

def FunOk (P : Program) (u f : Nat) (F : IFunc) : Prop :=
  match F.prim with
  | none => okFunc P u f F = true
  | some g => PrimOk P f g

theorem callN_sound {P : Program} {u : Nat} (hu : u ≠ 0 → UnitsOk P u) {prog : Nat → Option IFunc} (hprog : ∀ f F, prog f = some F → FunOk P u f F) : ∀ n, CallOk P (callN prog n)
  | 0 => fun f args res os h => by simp [callN] at h
  | n + 1 => fun f args res os h w G vals bs hL hG ha hn => by
    simp only [callN] at h
    split at h
    · rename_i F hF
      have hk := hprog f F hF
      unfold FunOk at hk
      split at h
      · rename_i g hg
        rw [hg] at hk
        split at h
        · rename_i r hr
          simp only [Option.some.injEq, Prod.mk.injEq] at h
          obtain ⟨rfl, rfl⟩ := h
          exact hk args r hr w G vals bs hL hG ha hn
        · cases h
      · rename_i hg
        rw [hg] at hk
        split at h
        · rename_i hl
          exact func_sound hu (callN_sound hu hprog n) hk hl h hL hG ha hn
        · cases h
    · cases h
end Go.Ab
