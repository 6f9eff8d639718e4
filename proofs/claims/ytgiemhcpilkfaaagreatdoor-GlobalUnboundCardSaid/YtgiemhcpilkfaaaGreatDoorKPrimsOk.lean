/- The functions that are given whole answer so: by the contracts of the library. And what follows from it, part by part. -/
import Derived.Test.YtgiemhcpilkfaaaGreatDoorK2
import Derived.Test.YtgiemhcpilkfaaaGreatDoorKPrims
import Derived.Test.YtgiemhcpilkfaaaGreatDoorKProg
import Derived.Test.YtgiemhcpilkfaaaGreatDoorKIterW
import Derived.Test.YtgiemhcpilkfaaaGreatDoorKLim
import Derived.Test.YtgiemhcpilkfaaaGreatDoorChecked
import Derived.Shelf.Strings.Runes
import Derived.KernelRfl
import Derived.Below
import Derived.WalkKit
import Derived.ProofKit

/- Part PrimsOk. -/
namespace Go.Proofs
open Go.Shelf

def Tryz.lays151_ren : Go.Shelf.Ren := ⟨fun | 151 => 197 | 152 => 208 | 137 => 214 | 119 => 215 | 224 => 216 | 225 => 217 | 217 => 221 | 266 => 232 | n => n, fun | 9 => 9 | 21 => 21 | 4 => 4 | 3 => 3 | 5 => 5 | 0 => 0 | 46 => 217 | n => n, fun | n => n⟩
theorem Tryz.lays151 : Go.Proofs.Lays.n151 Tryz.prog Tryz.lays151_ren :=
  { mixed := by kernel_rfl
    f119 := Tryz.func215.trans (congrArg some (by kernel_rfl))
    f137 := Tryz.func214.trans (congrArg some (by kernel_rfl))
    f151 := Tryz.func197.trans (congrArg some (by kernel_rfl))
    f152 := Tryz.func208.trans (congrArg some (by kernel_rfl))
    f217 := Tryz.func221.trans (congrArg some (by kernel_rfl))
    f224 := Tryz.func216.trans (congrArg some (by kernel_rfl))
    f225 := Tryz.func217.trans (congrArg some (by kernel_rfl))
    f266 := Tryz.func232.trans (congrArg some (by kernel_rfl))
    t0 := Tryz.underlying0
    a0 := Tryz.isAgg0
    z0 := Tryz.sizeOf0
    v0 := Tryz.zeroValue0
    t3 := Tryz.underlying3
    a3 := Tryz.isAgg3
    z3 := Tryz.sizeOf3
    v3 := Tryz.zeroValue3
    t4 := Tryz.underlying4
    a4 := Tryz.isAgg4
    z4 := Tryz.sizeOf4
    v4 := Tryz.zeroValue4
    t5 := Tryz.underlying5
    a5 := Tryz.isAgg5
    z5 := Tryz.sizeOf5
    v5 := Tryz.zeroValue5
    t9 := Tryz.underlying9
    a9 := Tryz.isAgg9
    z9 := Tryz.sizeOf9
    v9 := Tryz.zeroValue9
    t21 := Tryz.underlying21
    a21 := Tryz.isAgg21
    z21 := Tryz.sizeOf21
    v21 := Tryz.zeroValue21
    t46 := Tryz.underlying217
    a46 := Tryz.isAgg217
    z46 := Tryz.sizeOf217
    v46 := Tryz.zeroValue217 }
end Go.Proofs

namespace Go.Ab
open Go Go.Proofs Go.RowKit

theorem indexByte_any' (l : List UInt8) (c : UInt8) : (-1 ≤ Lib.indexByte l c) ∧ (0 ≤ Lib.indexByte l c ↔ l.any (· == c) = true) := by
  induction l with
  | nil => simp [Lib.indexByte]
  | cons b l ih =>
    obtain ⟨h1, h2⟩ := ih
    have e : Lib.indexByte (b :: l) c = if b == c then 0 else if Lib.indexByte l c == -1 then -1 else Lib.indexByte l c + 1 := rfl
    generalize Lib.indexByte (b :: l) c = x at e
    rw [List.any_cons]
    subst e
    by_cases hb : (b == c) = true
    · rw [if_pos hb, hb]; simp
    · rw [if_neg hb]
      have hb' : (b == c) = false := by simpa using hb
      rw [hb', Bool.false_or, ← h2]
      by_cases hi : (Lib.indexByte l c == -1) = true
      · rw [if_pos hi]
        have : Lib.indexByte l c = -1 := by simpa using hi
        rw [this]; omega
      · rw [if_neg hi]
        have : ¬ Lib.indexByte l c = -1 := by simpa using hi
        omega

theorem indexByte_any (l : List UInt8) (c : UInt8) : decide (0 ≤ Lib.indexByte l c) = l.any (· == c) := by
  rw [Bool.eq_iff_iff, decide_eq_true_eq]
  exact (indexByte_any' l c).2

/-- A call that leaves all that was as it was, and hands back a plain value. -/
theorem post_below {G : Ghost} {w w' : World} {r : PV} {v : Value} (hG : Holds G w) (hb : Below w.heap.size w w') (hr : RepP G r v) : Post G w [] r [] v G w' :=
  { gle := .refl G, hold := hG.turn fun x hne => by
      cases hv : G x with
      | none => exact absurd hv hne
      | some v => exact hb.block _ (cell_lt (hG x v hv)),
    gnew := fun x hx => .inl hx, res := .plain _ _ hr, outs := .nil, fr := fun b hb' _ => hb.block b hb', size := hb.size, os := hb.os, tape := hb.tape, output := hb.output }

theorem args2 {G : Ghost} {w : World} {p q : PV} {vals : Array Value} {bs : List Nat} (ha : ArgsRep G w [p, q] vals.toList bs) (hp : ∀ cs, p ≠ .boxed cs) (hq : ∀ cs, q ≠ .boxed cs) : ∃ x y, vals = #[x, y] ∧ bs = [] ∧ RepP G p x ∧ RepP G q y := by
  generalize hl : vals.toList = l at ha
  cases ha with
  | boxed cs => exact absurd rfl (hp cs)
  | plain _ x _ _ _ h1 hr =>
    cases hr with
    | boxed cs => exact absurd rfl (hq cs)
    | plain _ y _ _ _ h2 hr2 =>
      cases hr2
      exact ⟨x, y, by rw [← Array.toArray_toList (xs := vals), hl], rfl, h1, h2⟩

theorem primContainsRune_ok : PrimOk Tryz.prog 197 primContainsRune := by
  intro args r h w G vals bs hL hG ha hn
  unfold primContainsRune at h
  split at h
  · rename_i s n
    split at h
    · rename_i hr
      injection h with h; subst h
      obtain ⟨x, y, rfl, rfl, h1, h2⟩ := args2 ha (fun _ e => nomatch e) (fun _ e => nomatch e)
      have e1 : x = .string s := by cases h1 with | one h1 => cases h1; rfl
      have e2 : y = .int .i32 n := by cases h2 with | one h2 => cases h2; rfl
      subst e1; subst e2
      refine (Any.strings_ContainsRune_ascii Tryz.lays151 s n w hr.1 hr.2).mono ?_
      rintro e w' ⟨rfl, rfl⟩
      rw [indexByte_any]
      exact ⟨_, G, rfl, post_below hG (Below.refl _ _) (.one (.bool _))⟩
    · cases h
  · cases h

end Go.Ab

/- Part Fit. -/
namespace Go.Ab.Prog
open Go Go.Ab Go.Proofs
set_option maxRecDepth 100000

theorem fit3 : FunOk Tryz.prog 167 3 F3 := (by kernel_rfl : okFunc Tryz.prog 167 3 F3 = true)
theorem fit4 : FunOk Tryz.prog 167 4 F4 := (by kernel_rfl : okFunc Tryz.prog 167 4 F4 = true)
theorem fit5 : FunOk Tryz.prog 167 5 F5 := (by kernel_rfl : okFunc Tryz.prog 167 5 F5 = true)
theorem fit6 : FunOk Tryz.prog 167 6 F6 := (by kernel_rfl : okFunc Tryz.prog 167 6 F6 = true)
theorem fit7 : FunOk Tryz.prog 167 7 F7 := (by kernel_rfl : okFunc Tryz.prog 167 7 F7 = true)
theorem fit8 : FunOk Tryz.prog 167 8 F8 := (by kernel_rfl : okFunc Tryz.prog 167 8 F8 = true)
theorem fit9 : FunOk Tryz.prog 167 9 F9 := (by kernel_rfl : okFunc Tryz.prog 167 9 F9 = true)
theorem fit10 : FunOk Tryz.prog 167 10 F10 := (by kernel_rfl : okFunc Tryz.prog 167 10 F10 = true)
theorem fit11 : FunOk Tryz.prog 167 11 F11 := (by kernel_rfl : okFunc Tryz.prog 167 11 F11 = true)
theorem fit12 : FunOk Tryz.prog 167 12 F12 := (by kernel_rfl : okFunc Tryz.prog 167 12 F12 = true)
theorem fit13 : FunOk Tryz.prog 167 13 F13 := (by kernel_rfl : okFunc Tryz.prog 167 13 F13 = true)
theorem fit14 : FunOk Tryz.prog 167 14 F14 := (by kernel_rfl : okFunc Tryz.prog 167 14 F14 = true)
theorem fit15 : FunOk Tryz.prog 167 15 F15 := (by kernel_rfl : okFunc Tryz.prog 167 15 F15 = true)
theorem fit16 : FunOk Tryz.prog 167 16 F16 := (by kernel_rfl : okFunc Tryz.prog 167 16 F16 = true)
theorem fit17 : FunOk Tryz.prog 167 17 F17 := (by kernel_rfl : okFunc Tryz.prog 167 17 F17 = true)
theorem fit18 : FunOk Tryz.prog 167 18 F18 := (by kernel_rfl : okFunc Tryz.prog 167 18 F18 = true)
theorem fit19 : FunOk Tryz.prog 167 19 F19 := (by kernel_rfl : okFunc Tryz.prog 167 19 F19 = true)
theorem fit20 : FunOk Tryz.prog 167 20 F20 := (by kernel_rfl : okFunc Tryz.prog 167 20 F20 = true)
theorem fit21 : FunOk Tryz.prog 167 21 F21 := (by kernel_rfl : okFunc Tryz.prog 167 21 F21 = true)
theorem fit22 : FunOk Tryz.prog 167 22 F22 := (by kernel_rfl : okFunc Tryz.prog 167 22 F22 = true)
theorem fit23 : FunOk Tryz.prog 167 23 F23 := (by kernel_rfl : okFunc Tryz.prog 167 23 F23 = true)
theorem fit24 : FunOk Tryz.prog 167 24 F24 := (by kernel_rfl : okFunc Tryz.prog 167 24 F24 = true)
theorem fit25 : FunOk Tryz.prog 167 25 F25 := (by kernel_rfl : okFunc Tryz.prog 167 25 F25 = true)
theorem fit26 : FunOk Tryz.prog 167 26 F26 := (by kernel_rfl : okFunc Tryz.prog 167 26 F26 = true)
theorem fit27 : FunOk Tryz.prog 167 27 F27 := (by kernel_rfl : okFunc Tryz.prog 167 27 F27 = true)
theorem fit28 : FunOk Tryz.prog 167 28 F28 := (by kernel_rfl : okFunc Tryz.prog 167 28 F28 = true)
theorem fit29 : FunOk Tryz.prog 167 29 F29 := (by kernel_rfl : okFunc Tryz.prog 167 29 F29 = true)
theorem fit30 : FunOk Tryz.prog 167 30 F30 := (by kernel_rfl : okFunc Tryz.prog 167 30 F30 = true)
theorem fit31 : FunOk Tryz.prog 167 31 F31 := (by kernel_rfl : okFunc Tryz.prog 167 31 F31 = true)
theorem fit32 : FunOk Tryz.prog 167 32 F32 := (by kernel_rfl : okFunc Tryz.prog 167 32 F32 = true)
theorem fit33 : FunOk Tryz.prog 167 33 F33 := (by kernel_rfl : okFunc Tryz.prog 167 33 F33 = true)
theorem fit34 : FunOk Tryz.prog 167 34 F34 := (by kernel_rfl : okFunc Tryz.prog 167 34 F34 = true)
theorem fit35 : FunOk Tryz.prog 167 35 F35 := (by kernel_rfl : okFunc Tryz.prog 167 35 F35 = true)
theorem fit36 : FunOk Tryz.prog 167 36 F36 := (by kernel_rfl : okFunc Tryz.prog 167 36 F36 = true)
theorem fit37 : FunOk Tryz.prog 167 37 F37 := (by kernel_rfl : okFunc Tryz.prog 167 37 F37 = true)
theorem fit38 : FunOk Tryz.prog 167 38 F38 := (by kernel_rfl : okFunc Tryz.prog 167 38 F38 = true)
theorem fit39 : FunOk Tryz.prog 167 39 F39 := (by kernel_rfl : okFunc Tryz.prog 167 39 F39 = true)
theorem fit40 : FunOk Tryz.prog 167 40 F40 := (by kernel_rfl : okFunc Tryz.prog 167 40 F40 = true)
theorem fit41 : FunOk Tryz.prog 167 41 F41 := (by kernel_rfl : okFunc Tryz.prog 167 41 F41 = true)
theorem fit42 : FunOk Tryz.prog 167 42 F42 := (by kernel_rfl : okFunc Tryz.prog 167 42 F42 = true)
theorem fit43 : FunOk Tryz.prog 167 43 F43 := (by kernel_rfl : okFunc Tryz.prog 167 43 F43 = true)
theorem fit44 : FunOk Tryz.prog 167 44 F44 := (by kernel_rfl : okFunc Tryz.prog 167 44 F44 = true)
theorem fit45 : FunOk Tryz.prog 167 45 F45 := (by kernel_rfl : okFunc Tryz.prog 167 45 F45 = true)
theorem fit46 : FunOk Tryz.prog 167 46 F46 := (by kernel_rfl : okFunc Tryz.prog 167 46 F46 = true)
theorem fit47 : FunOk Tryz.prog 167 47 F47 := (by kernel_rfl : okFunc Tryz.prog 167 47 F47 = true)
theorem fit48 : FunOk Tryz.prog 167 48 F48 := (by kernel_rfl : okFunc Tryz.prog 167 48 F48 = true)
theorem fit49 : FunOk Tryz.prog 167 49 F49 := (by kernel_rfl : okFunc Tryz.prog 167 49 F49 = true)
theorem fit50 : FunOk Tryz.prog 167 50 F50 := (by kernel_rfl : okFunc Tryz.prog 167 50 F50 = true)
theorem fit51 : FunOk Tryz.prog 167 51 F51 := (by kernel_rfl : okFunc Tryz.prog 167 51 F51 = true)
theorem fit52 : FunOk Tryz.prog 167 52 F52 := (by kernel_rfl : okFunc Tryz.prog 167 52 F52 = true)
theorem fit53 : FunOk Tryz.prog 167 53 F53 := (by kernel_rfl : okFunc Tryz.prog 167 53 F53 = true)
theorem fit54 : FunOk Tryz.prog 167 54 F54 := (by kernel_rfl : okFunc Tryz.prog 167 54 F54 = true)
theorem fit55 : FunOk Tryz.prog 167 55 F55 := (by kernel_rfl : okFunc Tryz.prog 167 55 F55 = true)
theorem fit56 : FunOk Tryz.prog 167 56 F56 := (by kernel_rfl : okFunc Tryz.prog 167 56 F56 = true)
theorem fit57 : FunOk Tryz.prog 167 57 F57 := (by kernel_rfl : okFunc Tryz.prog 167 57 F57 = true)
theorem fit58 : FunOk Tryz.prog 167 58 F58 := (by kernel_rfl : okFunc Tryz.prog 167 58 F58 = true)
theorem fit59 : FunOk Tryz.prog 167 59 F59 := (by kernel_rfl : okFunc Tryz.prog 167 59 F59 = true)
theorem fit60 : FunOk Tryz.prog 167 60 F60 := (by kernel_rfl : okFunc Tryz.prog 167 60 F60 = true)
theorem fit61 : FunOk Tryz.prog 167 61 F61 := (by kernel_rfl : okFunc Tryz.prog 167 61 F61 = true)
theorem fit62 : FunOk Tryz.prog 167 62 F62 := (by kernel_rfl : okFunc Tryz.prog 167 62 F62 = true)
theorem fit63 : FunOk Tryz.prog 167 63 F63 := (by kernel_rfl : okFunc Tryz.prog 167 63 F63 = true)
theorem fit64 : FunOk Tryz.prog 167 64 F64 := (by kernel_rfl : okFunc Tryz.prog 167 64 F64 = true)
theorem fit65 : FunOk Tryz.prog 167 65 F65 := (by kernel_rfl : okFunc Tryz.prog 167 65 F65 = true)
theorem fit66 : FunOk Tryz.prog 167 66 F66 := (by kernel_rfl : okFunc Tryz.prog 167 66 F66 = true)
theorem fit67 : FunOk Tryz.prog 167 67 F67 := (by kernel_rfl : okFunc Tryz.prog 167 67 F67 = true)
theorem fit68 : FunOk Tryz.prog 167 68 F68 := (by kernel_rfl : okFunc Tryz.prog 167 68 F68 = true)
theorem fit69 : FunOk Tryz.prog 167 69 F69 := (by kernel_rfl : okFunc Tryz.prog 167 69 F69 = true)
theorem fit70 : FunOk Tryz.prog 167 70 F70 := (by kernel_rfl : okFunc Tryz.prog 167 70 F70 = true)
theorem fit71 : FunOk Tryz.prog 167 71 F71 := (by kernel_rfl : okFunc Tryz.prog 167 71 F71 = true)
theorem fit72 : FunOk Tryz.prog 167 72 F72 := (by kernel_rfl : okFunc Tryz.prog 167 72 F72 = true)
theorem fit73 : FunOk Tryz.prog 167 73 F73 := (by kernel_rfl : okFunc Tryz.prog 167 73 F73 = true)
theorem fit74 : FunOk Tryz.prog 167 74 F74 := (by kernel_rfl : okFunc Tryz.prog 167 74 F74 = true)
theorem fit75 : FunOk Tryz.prog 167 75 F75 := (by kernel_rfl : okFunc Tryz.prog 167 75 F75 = true)
theorem fit76 : FunOk Tryz.prog 167 76 F76 := (by kernel_rfl : okFunc Tryz.prog 167 76 F76 = true)
theorem fit77 : FunOk Tryz.prog 167 77 F77 := (by kernel_rfl : okFunc Tryz.prog 167 77 F77 = true)
theorem fit78 : FunOk Tryz.prog 167 78 F78 := (by kernel_rfl : okFunc Tryz.prog 167 78 F78 = true)
theorem fit79 : FunOk Tryz.prog 167 79 F79 := (by kernel_rfl : okFunc Tryz.prog 167 79 F79 = true)
theorem fit80 : FunOk Tryz.prog 167 80 F80 := (by kernel_rfl : okFunc Tryz.prog 167 80 F80 = true)
theorem fit81 : FunOk Tryz.prog 167 81 F81 := (by kernel_rfl : okFunc Tryz.prog 167 81 F81 = true)
theorem fit82 : FunOk Tryz.prog 167 82 F82 := (by kernel_rfl : okFunc Tryz.prog 167 82 F82 = true)
theorem fit83 : FunOk Tryz.prog 167 83 F83 := (by kernel_rfl : okFunc Tryz.prog 167 83 F83 = true)
theorem fit84 : FunOk Tryz.prog 167 84 F84 := (by kernel_rfl : okFunc Tryz.prog 167 84 F84 = true)
theorem fit85 : FunOk Tryz.prog 167 85 F85 := (by kernel_rfl : okFunc Tryz.prog 167 85 F85 = true)
theorem fit86 : FunOk Tryz.prog 167 86 F86 := (by kernel_rfl : okFunc Tryz.prog 167 86 F86 = true)
theorem fit87 : FunOk Tryz.prog 167 87 F87 := (by kernel_rfl : okFunc Tryz.prog 167 87 F87 = true)
theorem fit88 : FunOk Tryz.prog 167 88 F88 := (by kernel_rfl : okFunc Tryz.prog 167 88 F88 = true)
theorem fit89 : FunOk Tryz.prog 167 89 F89 := (by kernel_rfl : okFunc Tryz.prog 167 89 F89 = true)
theorem fit90 : FunOk Tryz.prog 167 90 F90 := (by kernel_rfl : okFunc Tryz.prog 167 90 F90 = true)
theorem fit91 : FunOk Tryz.prog 167 91 F91 := (by kernel_rfl : okFunc Tryz.prog 167 91 F91 = true)
theorem fit92 : FunOk Tryz.prog 167 92 F92 := (by kernel_rfl : okFunc Tryz.prog 167 92 F92 = true)
theorem fit93 : FunOk Tryz.prog 167 93 F93 := (by kernel_rfl : okFunc Tryz.prog 167 93 F93 = true)
theorem fit94 : FunOk Tryz.prog 167 94 F94 := (by kernel_rfl : okFunc Tryz.prog 167 94 F94 = true)
theorem fit95 : FunOk Tryz.prog 167 95 F95 := (by kernel_rfl : okFunc Tryz.prog 167 95 F95 = true)
theorem fit96 : FunOk Tryz.prog 167 96 F96 := (by kernel_rfl : okFunc Tryz.prog 167 96 F96 = true)
theorem fit97 : FunOk Tryz.prog 167 97 F97 := (by kernel_rfl : okFunc Tryz.prog 167 97 F97 = true)
theorem fit98 : FunOk Tryz.prog 167 98 F98 := (by kernel_rfl : okFunc Tryz.prog 167 98 F98 = true)
theorem fit99 : FunOk Tryz.prog 167 99 F99 := (by kernel_rfl : okFunc Tryz.prog 167 99 F99 = true)
theorem fit100 : FunOk Tryz.prog 167 100 F100 := (by kernel_rfl : okFunc Tryz.prog 167 100 F100 = true)
theorem fit101 : FunOk Tryz.prog 167 101 F101 := (by kernel_rfl : okFunc Tryz.prog 167 101 F101 = true)
theorem fit102 : FunOk Tryz.prog 167 102 F102 := (by kernel_rfl : okFunc Tryz.prog 167 102 F102 = true)
theorem fit103 : FunOk Tryz.prog 167 103 F103 := (by kernel_rfl : okFunc Tryz.prog 167 103 F103 = true)
theorem fit104 : FunOk Tryz.prog 167 104 F104 := (by kernel_rfl : okFunc Tryz.prog 167 104 F104 = true)
theorem fit105 : FunOk Tryz.prog 167 105 F105 := (by kernel_rfl : okFunc Tryz.prog 167 105 F105 = true)
theorem fit106 : FunOk Tryz.prog 167 106 F106 := (by kernel_rfl : okFunc Tryz.prog 167 106 F106 = true)
theorem fit107 : FunOk Tryz.prog 167 107 F107 := (by kernel_rfl : okFunc Tryz.prog 167 107 F107 = true)
theorem fit108 : FunOk Tryz.prog 167 108 F108 := (by kernel_rfl : okFunc Tryz.prog 167 108 F108 = true)
theorem fit109 : FunOk Tryz.prog 167 109 F109 := (by kernel_rfl : okFunc Tryz.prog 167 109 F109 = true)
theorem fit110 : FunOk Tryz.prog 167 110 F110 := (by kernel_rfl : okFunc Tryz.prog 167 110 F110 = true)
theorem fit111 : FunOk Tryz.prog 167 111 F111 := (by kernel_rfl : okFunc Tryz.prog 167 111 F111 = true)
theorem fit112 : FunOk Tryz.prog 167 112 F112 := (by kernel_rfl : okFunc Tryz.prog 167 112 F112 = true)
theorem fit113 : FunOk Tryz.prog 167 113 F113 := (by kernel_rfl : okFunc Tryz.prog 167 113 F113 = true)
theorem fit114 : FunOk Tryz.prog 167 114 F114 := (by kernel_rfl : okFunc Tryz.prog 167 114 F114 = true)
theorem fit115 : FunOk Tryz.prog 167 115 F115 := (by kernel_rfl : okFunc Tryz.prog 167 115 F115 = true)
theorem fit116 : FunOk Tryz.prog 167 116 F116 := (by kernel_rfl : okFunc Tryz.prog 167 116 F116 = true)
theorem fit117 : FunOk Tryz.prog 167 117 F117 := (by kernel_rfl : okFunc Tryz.prog 167 117 F117 = true)
theorem fit118 : FunOk Tryz.prog 167 118 F118 := (by kernel_rfl : okFunc Tryz.prog 167 118 F118 = true)
theorem fit119 : FunOk Tryz.prog 167 119 F119 := (by kernel_rfl : okFunc Tryz.prog 167 119 F119 = true)
theorem fit120 : FunOk Tryz.prog 167 120 F120 := (by kernel_rfl : okFunc Tryz.prog 167 120 F120 = true)
theorem fit121 : FunOk Tryz.prog 167 121 F121 := (by kernel_rfl : okFunc Tryz.prog 167 121 F121 = true)
theorem fit122 : FunOk Tryz.prog 167 122 F122 := (by kernel_rfl : okFunc Tryz.prog 167 122 F122 = true)
theorem fit123 : FunOk Tryz.prog 167 123 F123 := (by kernel_rfl : okFunc Tryz.prog 167 123 F123 = true)
theorem fit124 : FunOk Tryz.prog 167 124 F124 := (by kernel_rfl : okFunc Tryz.prog 167 124 F124 = true)
theorem fit125 : FunOk Tryz.prog 167 125 F125 := (by kernel_rfl : okFunc Tryz.prog 167 125 F125 = true)
theorem fit126 : FunOk Tryz.prog 167 126 F126 := (by kernel_rfl : okFunc Tryz.prog 167 126 F126 = true)
theorem fit127 : FunOk Tryz.prog 167 127 F127 := (by kernel_rfl : okFunc Tryz.prog 167 127 F127 = true)
theorem fit128 : FunOk Tryz.prog 167 128 F128 := (by kernel_rfl : okFunc Tryz.prog 167 128 F128 = true)
theorem fit129 : FunOk Tryz.prog 167 129 F129 := (by kernel_rfl : okFunc Tryz.prog 167 129 F129 = true)
theorem fit130 : FunOk Tryz.prog 167 130 F130 := (by kernel_rfl : okFunc Tryz.prog 167 130 F130 = true)
theorem fit131 : FunOk Tryz.prog 167 131 F131 := (by kernel_rfl : okFunc Tryz.prog 167 131 F131 = true)
theorem fit132 : FunOk Tryz.prog 167 132 F132 := (by kernel_rfl : okFunc Tryz.prog 167 132 F132 = true)
theorem fit133 : FunOk Tryz.prog 167 133 F133 := (by kernel_rfl : okFunc Tryz.prog 167 133 F133 = true)
theorem fit134 : FunOk Tryz.prog 167 134 F134 := (by kernel_rfl : okFunc Tryz.prog 167 134 F134 = true)
theorem fit135 : FunOk Tryz.prog 167 135 F135 := (by kernel_rfl : okFunc Tryz.prog 167 135 F135 = true)
theorem fit136 : FunOk Tryz.prog 167 136 F136 := (by kernel_rfl : okFunc Tryz.prog 167 136 F136 = true)
theorem fit137 : FunOk Tryz.prog 167 137 F137 := (by kernel_rfl : okFunc Tryz.prog 167 137 F137 = true)
theorem fit138 : FunOk Tryz.prog 167 138 F138 := (by kernel_rfl : okFunc Tryz.prog 167 138 F138 = true)
theorem fit139 : FunOk Tryz.prog 167 139 F139 := (by kernel_rfl : okFunc Tryz.prog 167 139 F139 = true)
theorem fit140 : FunOk Tryz.prog 167 140 F140 := (by kernel_rfl : okFunc Tryz.prog 167 140 F140 = true)
theorem fit141 : FunOk Tryz.prog 167 141 F141 := (by kernel_rfl : okFunc Tryz.prog 167 141 F141 = true)
theorem fit142 : FunOk Tryz.prog 167 142 F142 := (by kernel_rfl : okFunc Tryz.prog 167 142 F142 = true)
theorem fit143 : FunOk Tryz.prog 167 143 F143 := (by kernel_rfl : okFunc Tryz.prog 167 143 F143 = true)
theorem fit144 : FunOk Tryz.prog 167 144 F144 := (by kernel_rfl : okFunc Tryz.prog 167 144 F144 = true)
theorem fit145 : FunOk Tryz.prog 167 145 F145 := (by kernel_rfl : okFunc Tryz.prog 167 145 F145 = true)
theorem fit146 : FunOk Tryz.prog 167 146 F146 := (by kernel_rfl : okFunc Tryz.prog 167 146 F146 = true)
theorem fit147 : FunOk Tryz.prog 167 147 F147 := (by kernel_rfl : okFunc Tryz.prog 167 147 F147 = true)
theorem fit148 : FunOk Tryz.prog 167 148 F148 := (by kernel_rfl : okFunc Tryz.prog 167 148 F148 = true)
theorem fit149 : FunOk Tryz.prog 167 149 F149 := (by kernel_rfl : okFunc Tryz.prog 167 149 F149 = true)
theorem fit150 : FunOk Tryz.prog 167 150 F150 := (by kernel_rfl : okFunc Tryz.prog 167 150 F150 = true)
theorem fit151 : FunOk Tryz.prog 167 151 F151 := (by kernel_rfl : okFunc Tryz.prog 167 151 F151 = true)
theorem fit152 : FunOk Tryz.prog 167 152 F152 := (by kernel_rfl : okFunc Tryz.prog 167 152 F152 = true)
theorem fit153 : FunOk Tryz.prog 167 153 F153 := (by kernel_rfl : okFunc Tryz.prog 167 153 F153 = true)
theorem fit154 : FunOk Tryz.prog 167 154 F154 := (by kernel_rfl : okFunc Tryz.prog 167 154 F154 = true)
theorem fit155 : FunOk Tryz.prog 167 155 F155 := (by kernel_rfl : okFunc Tryz.prog 167 155 F155 = true)
theorem fit156 : FunOk Tryz.prog 167 156 F156 := (by kernel_rfl : okFunc Tryz.prog 167 156 F156 = true)
theorem fit157 : FunOk Tryz.prog 167 157 F157 := (by kernel_rfl : okFunc Tryz.prog 167 157 F157 = true)
theorem fit158 : FunOk Tryz.prog 167 158 F158 := (by kernel_rfl : okFunc Tryz.prog 167 158 F158 = true)
theorem fit159 : FunOk Tryz.prog 167 159 F159 := (by kernel_rfl : okFunc Tryz.prog 167 159 F159 = true)
theorem fit160 : FunOk Tryz.prog 167 160 F160 := (by kernel_rfl : okFunc Tryz.prog 167 160 F160 = true)
theorem fit161 : FunOk Tryz.prog 167 161 F161 := (by kernel_rfl : okFunc Tryz.prog 167 161 F161 = true)
theorem fit162 : FunOk Tryz.prog 167 162 F162 := (by kernel_rfl : okFunc Tryz.prog 167 162 F162 = true)
theorem fit163 : FunOk Tryz.prog 167 163 F163 := (by kernel_rfl : okFunc Tryz.prog 167 163 F163 = true)
theorem fit164 : FunOk Tryz.prog 167 164 F164 := (by kernel_rfl : okFunc Tryz.prog 167 164 F164 = true)
theorem fit165 : FunOk Tryz.prog 167 165 F165 := (by kernel_rfl : okFunc Tryz.prog 167 165 F165 = true)
theorem fit166 : FunOk Tryz.prog 167 166 F166 := (by kernel_rfl : okFunc Tryz.prog 167 166 F166 = true)
theorem fit168 : FunOk Tryz.prog 167 168 F168 := (by kernel_rfl : okFunc Tryz.prog 167 168 F168 = true)
theorem fit169 : FunOk Tryz.prog 167 169 F169 := (by kernel_rfl : okFunc Tryz.prog 167 169 F169 = true)
theorem fit170 : FunOk Tryz.prog 167 170 F170 := (by kernel_rfl : okFunc Tryz.prog 167 170 F170 = true)
theorem fit171 : FunOk Tryz.prog 167 171 F171 := (by kernel_rfl : okFunc Tryz.prog 167 171 F171 = true)
theorem fit172 : FunOk Tryz.prog 167 172 F172 := (by kernel_rfl : okFunc Tryz.prog 167 172 F172 = true)
theorem fit173 : FunOk Tryz.prog 167 173 F173 := (by kernel_rfl : okFunc Tryz.prog 167 173 F173 = true)
theorem fit174 : FunOk Tryz.prog 167 174 F174 := (by kernel_rfl : okFunc Tryz.prog 167 174 F174 = true)
theorem fit177 : FunOk Tryz.prog 167 177 F177 := (by kernel_rfl : okFunc Tryz.prog 167 177 F177 = true)
theorem fit178 : FunOk Tryz.prog 167 178 F178 := (by kernel_rfl : okFunc Tryz.prog 167 178 F178 = true)
theorem fit179 : FunOk Tryz.prog 167 179 F179 := (by kernel_rfl : okFunc Tryz.prog 167 179 F179 = true)
theorem fit180 : FunOk Tryz.prog 167 180 F180 := (by kernel_rfl : okFunc Tryz.prog 167 180 F180 = true)
theorem fit181 : FunOk Tryz.prog 167 181 F181 := (by kernel_rfl : okFunc Tryz.prog 167 181 F181 = true)
theorem fit182 : FunOk Tryz.prog 167 182 F182 := (by kernel_rfl : okFunc Tryz.prog 167 182 F182 = true)
theorem fit183 : FunOk Tryz.prog 167 183 F183 := (by kernel_rfl : okFunc Tryz.prog 167 183 F183 = true)
theorem fit184 : FunOk Tryz.prog 167 184 F184 := (by kernel_rfl : okFunc Tryz.prog 167 184 F184 = true)
theorem fit187 : FunOk Tryz.prog 167 187 F187 := (by kernel_rfl : okFunc Tryz.prog 167 187 F187 = true)
theorem fit188 : FunOk Tryz.prog 167 188 F188 := (by kernel_rfl : okFunc Tryz.prog 167 188 F188 = true)
theorem fit189 : FunOk Tryz.prog 167 189 F189 := (by kernel_rfl : okFunc Tryz.prog 167 189 F189 = true)
theorem fit191 : FunOk Tryz.prog 167 191 F191 := (by kernel_rfl : okFunc Tryz.prog 167 191 F191 = true)
theorem fit193 : FunOk Tryz.prog 167 193 F193 := (by kernel_rfl : okFunc Tryz.prog 167 193 F193 = true)
theorem fit195 : FunOk Tryz.prog 167 195 F195 := (by kernel_rfl : okFunc Tryz.prog 167 195 F195 = true)
theorem fit197 : FunOk Tryz.prog 167 197 F197 := primContainsRune_ok
theorem fit198 : FunOk Tryz.prog 167 198 F198 := (by kernel_rfl : okFunc Tryz.prog 167 198 F198 = true)
theorem fit200 : FunOk Tryz.prog 167 200 F200 := (by kernel_rfl : okFunc Tryz.prog 167 200 F200 = true)
theorem fit201 : FunOk Tryz.prog 167 201 F201 := (by kernel_rfl : okFunc Tryz.prog 167 201 F201 = true)
theorem fit204 : FunOk Tryz.prog 167 204 F204 := (by kernel_rfl : okFunc Tryz.prog 167 204 F204 = true)
theorem fit209 : FunOk Tryz.prog 167 209 F209 := (by kernel_rfl : okFunc Tryz.prog 167 209 F209 = true)

theorem fits_find : ∀ {l : List (Nat × IFunc)}, (∀ p, p ∈ l → FunOk Tryz.prog 167 p.1 p.2) → ∀ f F, find f l = some F → FunOk Tryz.prog 167 f F
  | [], _, f, F, h => by simp [find] at h
  | (g, G) :: l, hl, f, F, h => by
    simp only [find] at h
    split at h
    · rename_i e; injection h with h; subst e; subst h; exact hl (f, G) List.mem_cons_self
    · exact fits_find (fun p hp => hl p (by simp [hp])) f F h

theorem fits : ∀ f F, prog f = some F → FunOk Tryz.prog 167 f F := by
  refine fits_find ?_
  unfold fns
  simp only [List.mem_cons, List.not_mem_nil, or_false, forall_eq_or_imp, forall_eq]
  exact ⟨fit3, fit4, fit5, fit6, fit7, fit8, fit9, fit10, fit11, fit12, fit13, fit14, fit15, fit16, fit17, fit18, fit19, fit20, fit21, fit22, fit23, fit24, fit25, fit26, fit27, fit28, fit29, fit30, fit31, fit32, fit33, fit34, fit35, fit36, fit37, fit38, fit39, fit40, fit41, fit42, fit43, fit44, fit45, fit46, fit47, fit48, fit49, fit50, fit51, fit52, fit53, fit54, fit55, fit56, fit57, fit58, fit59, fit60, fit61, fit62, fit63, fit64, fit65, fit66, fit67, fit68, fit69, fit70, fit71, fit72, fit73, fit74, fit75, fit76, fit77, fit78, fit79, fit80, fit81, fit82, fit83, fit84, fit85, fit86, fit87, fit88, fit89, fit90, fit91, fit92, fit93, fit94, fit95, fit96, fit97, fit98, fit99, fit100, fit101, fit102, fit103, fit104, fit105, fit106, fit107, fit108, fit109, fit110, fit111, fit112, fit113, fit114, fit115, fit116, fit117, fit118, fit119, fit120, fit121, fit122, fit123, fit124, fit125, fit126, fit127, fit128, fit129, fit130, fit131, fit132, fit133, fit134, fit135, fit136, fit137, fit138, fit139, fit140, fit141, fit142, fit143, fit144, fit145, fit146, fit147, fit148, fit149, fit150, fit151, fit152, fit153, fit154, fit155, fit156, fit157, fit158, fit159, fit160, fit161, fit162, fit163, fit164, fit165, fit166, fit168, fit169, fit170, fit171, fit172, fit173, fit174, fit177, fit178, fit179, fit180, fit181, fit182, fit183, fit184, fit187, fit188, fit189, fit191, fit193, fit195, fit197, fit198, fit200, fit201, fit204, fit209⟩

end Go.Ab.Prog

/- Part LawRow. -/
namespace Go.Ab.Prog
open Go Go.Ab Go.RowKit Go.Proofs

def IsRow (w : World) (a : Option Addr) (len cap : Nat) (zs : List Int) : Prop :=
  (a = none ∧ len = 0 ∧ cap = 0 ∧ zs = []) ∨
  ∃ x, a = some x ∧ len ≤ cap ∧ cap ≤ maxLen ∧ zs.length = cap ∧ (∀ i, i < zs.length → w.cell? (x.add i) = some (.int .i64 (zs.getD i 0))) ∧ ∀ n ∈ zs, (Lit.int .i64 n).wf = true

def rowGhost (w : World) (b o n : Nat) : Ghost := fun y => if y.block = b ∧ y.spot = none ∧ o ≤ y.off ∧ y.off < o + n then w.cell? y else none
theorem rowGhost_holds (w : World) (b o n : Nat) : Holds (rowGhost w b o n) w := by
  intro x v h
  unfold rowGhost at h
  split at h
  · exact h
  · cases h

theorem cell_spot {w : World} {x : Addr} {v : Value} (h : w.cell? x = some v) : x.spot = none := by
  unfold World.cell? at h
  split at h
  · split at h
    · cases h
    · rename_i hs; simpa using hs
  · cases h

theorem IsRow.rep {w : World} {a : Option Addr} {len cap : Nat} {zs : List Int} (h : IsRow w a len cap zs) :
    ∃ (l : List Int) (G : Ghost), l.length < 9223372036854775808 ∧ Holds G w ∧ RepC G (.list (l.map (fun n => PV.int .i64 n))) (.slice a len cap) := by
  rcases h with ⟨rfl, rfl, rfl, rfl⟩ | ⟨x, rfl, h1, h2, h3, h4, _⟩
  · refine ⟨[], fun _ => none, by simp, (fun x v h => by cases h), ?_⟩
    exact .list [] none 0 0 0 0 1 (fun _ _ => .bool false) rfl (by simp) (.inl rfl) (by simp) (by simp) (by simp)
  · refine ⟨zs.take len, rowGhost w x.block x.off len, ?_, rowGhost_holds _ _ _ _, ?_⟩
    · have : maxLen < 9223372036854775808 := by decide
      simp; omega
    · have hl : (zs.take len).length = len := by simp; omega
      refine .list _ (some x) len cap x.block x.off 1 (fun j _ => .int .i64 (zs.getD j 0)) (by simp; omega) (by simp; omega) ?_ ?_ ?_ ?_
      · by_cases h0 : len = 0
        · left; subst h0; simp
        · right
          have := cell_spot (h4 0 (by omega))
          rw [show x.add 0 = x from rfl] at this
          rw [← this]
      · intro j e he
        rw [List.getElem?_map] at he
        cases hz : (zs.take len)[j]? with
        | none => rw [hz] at he; cases he
        | some n => rw [hz] at he; cases he; rfl
      · intro j e i c he hc
        rw [List.getElem?_map] at he
        cases hz : (zs.take len)[j]? with
        | none => rw [hz] at he; cases he
        | some n =>
          rw [hz] at he
          cases he
          have hj : j < len := by
            have := (List.getElem?_eq_some_iff.1 hz).1
            omega
          have hi : i = 0 := by
            cases i with
            | zero => rfl
            | succ i => simp [PV.cells] at hc
          subst hi
          have hc4 := h4 j (by omega)
          unfold rowGhost
          rw [if_pos ⟨rfl, rfl, by show x.off ≤ x.off + j * 1 + 0; omega, by show x.off + j * 1 + 0 < x.off + len; omega⟩]
          rw [← hc4]
          by_cases hj0 : j = 0
          · subst hj0
            have := cell_spot hc4
            rw [show x.add 0 = x from rfl] at this ⊢
            rw [← this]; rfl
          · simp [Addr.add, hj0]
      · intro j e i c he hc
        rw [List.getElem?_map] at he
        cases hz : (zs.take len)[j]? with
        | none => rw [hz] at he; cases he
        | some n =>
          rw [hz] at he
          cases he
          have hi : i = 0 := by
            cases i with
            | zero => rfl
            | succ i => simp [PV.cells] at hc
          subst hi
          simp [PV.cells] at hc
          subst hc
          have h5 := List.getElem?_eq_some_iff.1 hz
          have h6 : zs.getD j 0 = n := by
            obtain ⟨h6, h7⟩ := h5
            simp at h6 h7
            rw [List.getD_eq_getElem?_getD, List.getElem?_eq_getElem (by omega), h7]; rfl
          rw [h6]
          exact .int _ _

theorem args_ints {G : Ghost} {w : World} : ∀ (ks : List Int), ArgsRep G w (ks.map (fun n => PV.int .i64 n)) (ks.map (fun n => Value.int .i64 n)) []
  | [] => .nil
  | k :: ks => .plain _ _ _ _ _ (.one (.int _ _)) (args_ints ks)

/-- The walk of a law. -/
theorem law_walk {f : Nat} {ks : List Int} {vals : Array Value} {a : Option Addr} {len cap : Nat} {zs : List Int} {w : World} (hrow : IsRow w a len cap zs)
    (hv : vals.toList = .slice a len cap :: ks.map (fun n => Value.int .i64 n))
    (h : ∀ l : List Int, l.length < 9223372036854775808 → callV prog f (.list (l.map (fun n => PV.int .i64 n)) :: ks.map (fun n => PV.int .i64 n)) = some (.bool true, [])) :
    Calls Tryz.prog f vals w fun e w' => e = .returned (.bool true) ∧ Below w.heap.size w w' := by
  obtain ⟨l, G, hl, hG, hr⟩ := hrow.rep
  obtain ⟨n, hn⟩ := callV_iff.1 (h l hl)
  have hc := callN_sound (fun _ => units_ok) fits n f _ _ _ hn w G vals [] (fun x v h => nomatch h) hG (by rw [hv]; exact .plain _ _ _ _ _ (.one hr) (args_ints ks)) List.nodup_nil
  refine hc.mono ?_
  rintro e w' ⟨v, G', rfl, hp⟩
  have hres := hp.res
  refine ⟨?_, ⟨hp.os, hp.tape, hp.output, hp.size, fun k hk => hp.fr k hk (by simp)⟩⟩
  cases hres with
  | plain _ _ h => cases h with | one h => cases h with | bool b => rfl

theorem IsRow.rep_all {w : World} {a : Option Addr} {len cap : Nat} {zs : List Int} (h : IsRow w a len cap zs) :
    ∃ l : List Int, l.length < 9223372036854775808 ∧ RepC (fun y => w.cell? y) (.list (l.map (fun n => PV.int .i64 n))) (.slice a len cap) := by
  obtain ⟨l, G, h1, h2, h3⟩ := h.rep
  exact ⟨l, h1, h3.mono (fun x v e => h2 x v e)⟩

/-- The walk of a law of two slices. -/
theorem law_walk2 {f : Nat} {vals : Array Value} {a0 a1 : Option Addr} {len0 cap0 len1 cap1 : Nat} {zs0 zs1 : List Int} {w : World} (h0 : IsRow w a0 len0 cap0 zs0) (h1 : IsRow w a1 len1 cap1 zs1)
    (hv : vals.toList = [.slice a0 len0 cap0, .slice a1 len1 cap1])
    (h : ∀ l m : List Int, l.length < 9223372036854775808 → m.length < 9223372036854775808 → callV prog f [.list (l.map (fun n => PV.int .i64 n)), .list (m.map (fun n => PV.int .i64 n))] = some (.bool true, [])) :
    Calls Tryz.prog f vals w fun e w' => e = .returned (.bool true) ∧ Below w.heap.size w w' := by
  obtain ⟨l, hl, hr⟩ := h0.rep_all
  obtain ⟨m, hm, hs⟩ := h1.rep_all
  obtain ⟨n, hn⟩ := callV_iff.1 (h l m hl hm)
  have hc := callN_sound (fun _ => units_ok) fits n f _ _ _ hn w (fun y => w.cell? y) vals [] (fun x v h => nomatch h) (fun x v e => e) (by rw [hv]; exact .plain _ _ _ _ _ (.one hr) (.plain _ _ _ _ _ (.one hs) .nil)) List.nodup_nil
  refine hc.mono ?_
  rintro e w' ⟨v, G', rfl, hp⟩
  have hres := hp.res
  refine ⟨?_, ⟨hp.os, hp.tape, hp.output, hp.size, fun k hk => hp.fr k hk (by simp)⟩⟩
  cases hres with
  | plain _ _ h => cases h with | one h => cases h with | bool b => rfl

end Go.Ab.Prog
