/- A document: what comes out. -/
import Derived.Test.YtgiemhcpilkfaaaGreatDoorKDocD

namespace Go.Ab.Prog
open Go Go.Ab
set_option linter.unusedSimpArgs false
set_option maxHeartbeats 8000000

structure Tx where
  name : ByteArray
  b : Int
  e : Int
  info : List Pr
def Tx.enc (x : Tx) : PV := .agg [.str x.name, I x.b, I x.e, .list (x.info.map prEnc)]

structure Corp where
  toks : List (List ByteArray)
  texts : List Tx
  regs : List Rg
  nodes : List Nd
  heads : List Int
  rels : List ByteArray
def Corp.cells (c : Corp) : List PV := [.list attrs, .list (c.toks.map tokEnc), .list (c.texts.map Tx.enc), .list (c.regs.map Rg.enc), .list (c.nodes.map Nd.enc), .list (c.heads.map I), .list (c.rels.map .str)]

def InfoOk (p : Pr) : Prop := p.1 = ⟨#[121, 101, 97, 114]⟩ ∧ (p.2 = ⟨#[49]⟩ ∨ p.2 = ⟨#[50]⟩ ∨ p.2 = ⟨#[]⟩)

structure DocOk (name : ByteArray) (c : Corp) : Prop where
  n1 : 1 ≤ c.toks.length
  n7 : c.toks.length ≤ 7
  toks : ∀ t ∈ c.toks, TokOk t
  texts : ∃ info, c.texts = [⟨name, 0, c.toks.length, info⟩] ∧ (info = [] ∨ ∃ p, InfoOk p ∧ info = [p])
  regs : c.regs.length ≤ 4 ∧ ∀ r ∈ c.regs, r = zeroRg ∨ RgOk r
  nodes : c.nodes.length ≤ 6 ∧ (∀ x ∈ c.nodes, x.label ∈ labels) ∧ ∃ z, z ≤ (c.toks.length : Int) ∧ Tops 0 0 c.nodes z
  heads : (c.heads = [] ∧ c.rels = []) ∨ (c.heads.length = c.toks.length ∧ c.rels.length = c.toks.length ∧ (∀ r ∈ c.rels, r ∈ relNames) ∧ ∃ ord : List Nat, ord.Perm (List.range c.toks.length) ∧ Forest ord c.heads c.toks.length)

theorem rgok_keys {ms : List Rg} (h : ∀ r ∈ ms, RgOk r) : ∀ y ∈ ms, KeysOk y := fun y hy => by
  rcases (h y hy).2 with h | ⟨p, _, h⟩ <;> simp [KeysOk, h]

@[simp] theorem flat_tok {ts : List (List ByteArray)} : (ts.map tokEnc).flatMap refC = [] := by
  induction ts with
  | nil => rfl
  | cons t ts ih => simp [tokEnc] at ih ⊢

theorem doc_spec {l : List Int} (hl : small l) (a : Nat) (name : ByteArray) {most : Int} (hm : 1 ≤ most ∧ most ≤ 7) :
    ∃ (a' : Nat) (c : Corp), DocOk name c ∧ callV prog 25 [.boxed (tape l a), .str name, I most] = some (.agg c.cells, [tape l a']) := by
  have n0 := next_nonneg l a most
  have n1 := next_lt l a (n := most) hm.1
  have hmr : most < 9223372036854775808 := by omega
  have hw : IntKind.i64.wrap (1 + next l a most) = 1 + next l a most := wrap64 (by omega) (by omega)
  generalize hn : 1 + next l a most = n at *
  have hn1 : 1 ≤ n := by omega
  have hn7 : n ≤ 7 := by omega
  have hnn : ((n.toNat : Nat) : Int) = n := by omega
  by_cases hq : next l (adv l a) 3 = 2
  · obtain ⟨a3, ts, t1, t2, t3⟩ := tok_loop hl (n := n.toNat) (by omega) (tx := Tx.enc ⟨name, 0, n, [(⟨#[121, 101, 97, 114]⟩, pick3 (next l (adv l (adv l a)) 3) ⟨#[49]⟩ ⟨#[50]⟩ ⟨#[]⟩)]⟩) n.toNat 0 (adv l (adv l (adv l a))) [] (by omega) rfl (by simp)
    have k0 := next_nonneg l a3 5
    have k1 := next_lt l a3 (n := 5) (by omega)
    obtain ⟨a4, ms, r1, r2, r3⟩ := reg_loop hl ⟨hn1, hn7⟩ (nt := n.toNat) (tr := ts.map tokEnc) (tx := [Tx.enc ⟨name, 0, n, [(⟨#[121, 101, 97, 114]⟩, pick3 (next l (adv l (adv l a)) 3) ⟨#[49]⟩ ⟨#[50]⟩ ⟨#[]⟩)]⟩]) (next l a3 5).toNat (adv l a3) [] (by omega) (by simp) (by simp)
    have hk : (((next l a3 5).toNat : Nat) : Int) = next l a3 5 := by omega
    obtain ⟨ss, s1, s2, s3⟩ := sort_spec (rgok_keys r2) (by omega)
    have tn : 1 ≤ (ts.map tokEnc).length ∧ (ts.map tokEnc).length ≤ 7 := by simp; omega
    obtain ⟨a5, z, ns, d1, d2, d3, d4, d5⟩ := nodes_spec hl a4 (attrs := attrs) (texts := [Tx.enc ⟨name, 0, n, [(⟨#[121, 101, 97, 114]⟩, pick3 (next l (adv l (adv l a)) 3) ⟨#[49]⟩ ⟨#[50]⟩ ⟨#[]⟩)]⟩]) (regs := ss.map Rg.enc) tn
    have hz : z ≤ (ts.length : Int) := by simpa using d1
    have htl : ((ts.length : Nat) : Int) = n := by omega
    simp [hnn, docBox, t1] at t3
    simp [hk, docBox] at r3
    have hss : ss.length ≤ 4 ∧ ∀ r ∈ ss, r = zeroRg ∨ RgOk r := ⟨by omega, fun r hr => (s2 r hr).imp id (fun h => r2 r h)⟩
    by_cases hh : next l a5 2 = 1
    · obtain ⟨a6, hs, rs, ord, h1, h2, h3, h4, h5, h6⟩ := heads_spec hl (adv l a5) (attrs := attrs) (texts := [Tx.enc ⟨name, 0, n, [(⟨#[121, 101, 97, 114]⟩, pick3 (next l (adv l (adv l a)) 3) ⟨#[49]⟩ ⟨#[50]⟩ ⟨#[]⟩)]⟩]) (regs := ss.map Rg.enc) (nds := ns.map Nd.enc) tn
      simp only [List.length_map] at h1 h2 h4 h5
      rcases h6 with h6 | h6
      · refine ⟨a6, ⟨ts, [⟨name, 0, n, [(⟨#[121, 101, 97, 114]⟩, pick3 (next l (adv l (adv l a)) 3) ⟨#[49]⟩ ⟨#[50]⟩ ⟨#[]⟩)]⟩], ss, ns, [], []⟩, ⟨by show 1 ≤ ts.length; omega, by show ts.length ≤ 7; omega, t2, ⟨[(⟨#[121, 101, 97, 114]⟩, pick3 (next l (adv l (adv l a)) 3) ⟨#[49]⟩ ⟨#[50]⟩ ⟨#[]⟩)], by show [_] = [_]; rw [htl], .inr ⟨_, ⟨rfl, by rcases next3 l (adv l (adv l a)) with h | h | h <;> simp [h, pick3]⟩, rfl⟩⟩, hss, ⟨d2, d4, z, hz, d3⟩, .inl ⟨rfl, rfl⟩⟩, ?_⟩
        refine callV_fn (body := ic25) rfl rfl ?_
        simp [Tx.enc, prEnc] at t3 r3 d5 h6
        simp [ic25, hl, hmr, hw, hn, hq, prEnc, t3, r3, s3, d5, hh, t1, Corp.cells, Tx.enc, h6]
      · refine ⟨a6, ⟨ts, [⟨name, 0, n, [(⟨#[121, 101, 97, 114]⟩, pick3 (next l (adv l (adv l a)) 3) ⟨#[49]⟩ ⟨#[50]⟩ ⟨#[]⟩)]⟩], ss, ns, hs, rs⟩, ⟨by show 1 ≤ ts.length; omega, by show ts.length ≤ 7; omega, t2, ⟨[(⟨#[121, 101, 97, 114]⟩, pick3 (next l (adv l (adv l a)) 3) ⟨#[49]⟩ ⟨#[50]⟩ ⟨#[]⟩)], by show [_] = [_]; rw [htl], .inr ⟨_, ⟨rfl, by rcases next3 l (adv l (adv l a)) with h | h | h <;> simp [h, pick3]⟩, rfl⟩⟩, hss, ⟨d2, d4, z, hz, d3⟩, .inr ⟨h1, h2, h3, ord, h4, h5⟩⟩, ?_⟩
        refine callV_fn (body := ic25) rfl rfl ?_
        simp [Tx.enc, prEnc] at t3 r3 d5 h6
        simp [ic25, hl, hmr, hw, hn, hq, prEnc, t3, r3, s3, d5, hh, t1, Corp.cells, Tx.enc, h6]
    · refine ⟨adv l a5, ⟨ts, [⟨name, 0, n, [(⟨#[121, 101, 97, 114]⟩, pick3 (next l (adv l (adv l a)) 3) ⟨#[49]⟩ ⟨#[50]⟩ ⟨#[]⟩)]⟩], ss, ns, [], []⟩, ⟨by show 1 ≤ ts.length; omega, by show ts.length ≤ 7; omega, t2, ⟨[(⟨#[121, 101, 97, 114]⟩, pick3 (next l (adv l (adv l a)) 3) ⟨#[49]⟩ ⟨#[50]⟩ ⟨#[]⟩)], by show [_] = [_]; rw [htl], .inr ⟨_, ⟨rfl, by rcases next3 l (adv l (adv l a)) with h | h | h <;> simp [h, pick3]⟩, rfl⟩⟩, hss, ⟨d2, d4, z, hz, d3⟩, .inl ⟨rfl, rfl⟩⟩, ?_⟩
      refine callV_fn (body := ic25) rfl rfl ?_
      simp [Tx.enc, prEnc] at t3 r3 d5
      simp [ic25, hl, hmr, hw, hn, hq, prEnc, t3, r3, s3, d5, hh, t1, Corp.cells, Tx.enc]
  · obtain ⟨a3, ts, t1, t2, t3⟩ := tok_loop hl (n := n.toNat) (by omega) (tx := Tx.enc ⟨name, 0, n, []⟩) n.toNat 0 (adv l (adv l a)) [] (by omega) rfl (by simp)
    have k0 := next_nonneg l a3 5
    have k1 := next_lt l a3 (n := 5) (by omega)
    obtain ⟨a4, ms, r1, r2, r3⟩ := reg_loop hl ⟨hn1, hn7⟩ (nt := n.toNat) (tr := ts.map tokEnc) (tx := [Tx.enc ⟨name, 0, n, []⟩]) (next l a3 5).toNat (adv l a3) [] (by omega) (by simp) (by simp)
    have hk : (((next l a3 5).toNat : Nat) : Int) = next l a3 5 := by omega
    obtain ⟨ss, s1, s2, s3⟩ := sort_spec (rgok_keys r2) (by omega)
    have tn : 1 ≤ (ts.map tokEnc).length ∧ (ts.map tokEnc).length ≤ 7 := by simp; omega
    obtain ⟨a5, z, ns, d1, d2, d3, d4, d5⟩ := nodes_spec hl a4 (attrs := attrs) (texts := [Tx.enc ⟨name, 0, n, []⟩]) (regs := ss.map Rg.enc) tn
    have hz : z ≤ (ts.length : Int) := by simpa using d1
    have htl : ((ts.length : Nat) : Int) = n := by omega
    simp [hnn, docBox, t1] at t3
    simp [hk, docBox] at r3
    have hss : ss.length ≤ 4 ∧ ∀ r ∈ ss, r = zeroRg ∨ RgOk r := ⟨by omega, fun r hr => (s2 r hr).imp id (fun h => r2 r h)⟩
    by_cases hh : next l a5 2 = 1
    · obtain ⟨a6, hs, rs, ord, h1, h2, h3, h4, h5, h6⟩ := heads_spec hl (adv l a5) (attrs := attrs) (texts := [Tx.enc ⟨name, 0, n, []⟩]) (regs := ss.map Rg.enc) (nds := ns.map Nd.enc) tn
      simp only [List.length_map] at h1 h2 h4 h5
      rcases h6 with h6 | h6
      · refine ⟨a6, ⟨ts, [⟨name, 0, n, []⟩], ss, ns, [], []⟩, ⟨by show 1 ≤ ts.length; omega, by show ts.length ≤ 7; omega, t2, ⟨[], by show [_] = [_]; rw [htl], .inl rfl⟩, hss, ⟨d2, d4, z, hz, d3⟩, .inl ⟨rfl, rfl⟩⟩, ?_⟩
        refine callV_fn (body := ic25) rfl rfl ?_
        simp [Tx.enc, prEnc] at t3 r3 d5 h6
        simp [ic25, hl, hmr, hw, hn, hq, t3, r3, s3, d5, hh, t1, Corp.cells, Tx.enc, h6]
      · refine ⟨a6, ⟨ts, [⟨name, 0, n, []⟩], ss, ns, hs, rs⟩, ⟨by show 1 ≤ ts.length; omega, by show ts.length ≤ 7; omega, t2, ⟨[], by show [_] = [_]; rw [htl], .inl rfl⟩, hss, ⟨d2, d4, z, hz, d3⟩, .inr ⟨h1, h2, h3, ord, h4, h5⟩⟩, ?_⟩
        refine callV_fn (body := ic25) rfl rfl ?_
        simp [Tx.enc, prEnc] at t3 r3 d5 h6
        simp [ic25, hl, hmr, hw, hn, hq, t3, r3, s3, d5, hh, t1, Corp.cells, Tx.enc, h6]
    · refine ⟨adv l a5, ⟨ts, [⟨name, 0, n, []⟩], ss, ns, [], []⟩, ⟨by show 1 ≤ ts.length; omega, by show ts.length ≤ 7; omega, t2, ⟨[], by show [_] = [_]; rw [htl], .inl rfl⟩, hss, ⟨d2, d4, z, hz, d3⟩, .inl ⟨rfl, rfl⟩⟩, ?_⟩
      refine callV_fn (body := ic25) rfl rfl ?_
      simp [Tx.enc, prEnc] at t3 r3 d5
      simp [ic25, hl, hmr, hw, hn, hq, t3, r3, s3, d5, hh, t1, Corp.cells, Tx.enc]

end Go.Ab.Prog
