/- Each annotated copy fits the given program's code. -/
import Derived.Test.YtomajljeecmpoaaK2
import Derived.Test.YtomajljeecmpoaaKProg
import Derived.Test.YtomajljeecmpoaaChecked
import Derived.KernelRfl

namespace Go.Ab.Prog
open Go Go.Ab Go.Proofs

theorem fit3 : okFunc Try.prog 3 F3 = true := by kernel_rfl
theorem fit4 : okFunc Try.prog 4 F4 = true := by kernel_rfl
theorem fit5 : okFunc Try.prog 5 F5 = true := by kernel_rfl
theorem fit6 : okFunc Try.prog 6 F6 = true := by kernel_rfl
theorem fit7 : okFunc Try.prog 7 F7 = true := by kernel_rfl
theorem fit8 : okFunc Try.prog 8 F8 = true := by kernel_rfl
theorem fit9 : okFunc Try.prog 9 F9 = true := by kernel_rfl
theorem fit10 : okFunc Try.prog 10 F10 = true := by kernel_rfl
theorem fit11 : okFunc Try.prog 11 F11 = true := by kernel_rfl
theorem fit12 : okFunc Try.prog 12 F12 = true := by kernel_rfl
theorem fit13 : okFunc Try.prog 13 F13 = true := by kernel_rfl
theorem fit14 : okFunc Try.prog 14 F14 = true := by kernel_rfl
theorem fit15 : okFunc Try.prog 15 F15 = true := by kernel_rfl
theorem fit16 : okFunc Try.prog 16 F16 = true := by kernel_rfl
theorem fit17 : okFunc Try.prog 17 F17 = true := by kernel_rfl
theorem fit18 : okFunc Try.prog 18 F18 = true := by kernel_rfl
theorem fit19 : okFunc Try.prog 19 F19 = true := by kernel_rfl
theorem fit20 : okFunc Try.prog 20 F20 = true := by kernel_rfl
theorem fit21 : okFunc Try.prog 21 F21 = true := by kernel_rfl
theorem fit22 : okFunc Try.prog 22 F22 = true := by kernel_rfl
theorem fit23 : okFunc Try.prog 23 F23 = true := by kernel_rfl
theorem fit24 : okFunc Try.prog 24 F24 = true := by kernel_rfl
theorem fit25 : okFunc Try.prog 25 F25 = true := by kernel_rfl
theorem fit26 : okFunc Try.prog 26 F26 = true := by kernel_rfl
theorem fit27 : okFunc Try.prog 27 F27 = true := by kernel_rfl
theorem fit28 : okFunc Try.prog 28 F28 = true := by kernel_rfl
theorem fit29 : okFunc Try.prog 29 F29 = true := by kernel_rfl
theorem fit30 : okFunc Try.prog 30 F30 = true := by kernel_rfl
theorem fit31 : okFunc Try.prog 31 F31 = true := by kernel_rfl
theorem fit32 : okFunc Try.prog 32 F32 = true := by kernel_rfl
theorem fit33 : okFunc Try.prog 33 F33 = true := by kernel_rfl
theorem fit34 : okFunc Try.prog 34 F34 = true := by kernel_rfl
theorem fit35 : okFunc Try.prog 35 F35 = true := by kernel_rfl
theorem fit36 : okFunc Try.prog 36 F36 = true := by kernel_rfl
theorem fit37 : okFunc Try.prog 37 F37 = true := by kernel_rfl
theorem fit38 : okFunc Try.prog 38 F38 = true := by kernel_rfl
theorem fit39 : okFunc Try.prog 39 F39 = true := by kernel_rfl
theorem fit40 : okFunc Try.prog 40 F40 = true := by kernel_rfl
theorem fit41 : okFunc Try.prog 41 F41 = true := by kernel_rfl
theorem fit42 : okFunc Try.prog 42 F42 = true := by kernel_rfl
theorem fit43 : okFunc Try.prog 43 F43 = true := by kernel_rfl
theorem fit44 : okFunc Try.prog 44 F44 = true := by kernel_rfl
theorem fit45 : okFunc Try.prog 45 F45 = true := by kernel_rfl
theorem fit46 : okFunc Try.prog 46 F46 = true := by kernel_rfl
theorem fit47 : okFunc Try.prog 47 F47 = true := by kernel_rfl
theorem fit48 : okFunc Try.prog 48 F48 = true := by kernel_rfl
theorem fit49 : okFunc Try.prog 49 F49 = true := by kernel_rfl
theorem fit50 : okFunc Try.prog 50 F50 = true := by kernel_rfl
theorem fit51 : okFunc Try.prog 51 F51 = true := by kernel_rfl
theorem fit52 : okFunc Try.prog 52 F52 = true := by kernel_rfl
theorem fit53 : okFunc Try.prog 53 F53 = true := by kernel_rfl
theorem fit54 : okFunc Try.prog 54 F54 = true := by kernel_rfl
theorem fit55 : okFunc Try.prog 55 F55 = true := by kernel_rfl
theorem fit56 : okFunc Try.prog 56 F56 = true := by kernel_rfl
theorem fit57 : okFunc Try.prog 57 F57 = true := by kernel_rfl
theorem fit58 : okFunc Try.prog 58 F58 = true := by kernel_rfl
theorem fit59 : okFunc Try.prog 59 F59 = true := by kernel_rfl
theorem fit60 : okFunc Try.prog 60 F60 = true := by kernel_rfl
theorem fit61 : okFunc Try.prog 61 F61 = true := by kernel_rfl
theorem fit62 : okFunc Try.prog 62 F62 = true := by kernel_rfl
theorem fit63 : okFunc Try.prog 63 F63 = true := by kernel_rfl
theorem fit64 : okFunc Try.prog 64 F64 = true := by kernel_rfl
theorem fit65 : okFunc Try.prog 65 F65 = true := by kernel_rfl
theorem fit66 : okFunc Try.prog 66 F66 = true := by kernel_rfl
theorem fit67 : okFunc Try.prog 67 F67 = true := by kernel_rfl
theorem fit68 : okFunc Try.prog 68 F68 = true := by kernel_rfl
theorem fit69 : okFunc Try.prog 69 F69 = true := by kernel_rfl
theorem fit70 : okFunc Try.prog 70 F70 = true := by kernel_rfl
theorem fit71 : okFunc Try.prog 71 F71 = true := by kernel_rfl
theorem fit72 : okFunc Try.prog 72 F72 = true := by kernel_rfl
theorem fit73 : okFunc Try.prog 73 F73 = true := by kernel_rfl
theorem fit74 : okFunc Try.prog 74 F74 = true := by kernel_rfl
theorem fit75 : okFunc Try.prog 75 F75 = true := by kernel_rfl
theorem fit76 : okFunc Try.prog 76 F76 = true := by kernel_rfl
theorem fit77 : okFunc Try.prog 77 F77 = true := by kernel_rfl

theorem fits_find : ∀ {l : List (Nat × IFunc)}, (∀ p, p ∈ l → okFunc Try.prog p.1 p.2 = true) → ∀ f F, find f l = some F → okFunc Try.prog f F = true
  | [], _, f, F, h => by simp [find] at h
  | (g, G) :: l, hl, f, F, h => by
    simp only [find] at h
    split at h
    · rename_i e; injection h with h; subst e; subst h; exact hl (f, G) List.mem_cons_self
    · exact fits_find (fun p hp => hl p (by simp [hp])) f F h

theorem fits : ∀ f F, prog f = some F → okFunc Try.prog f F = true := by
  refine fits_find ?_
  unfold fns
  simp only [List.mem_cons, List.not_mem_nil, or_false, forall_eq_or_imp, forall_eq]
  exact ⟨fit3, fit4, fit5, fit6, fit7, fit8, fit9, fit10, fit11, fit12, fit13, fit14, fit15, fit16, fit17, fit18, fit19, fit20, fit21, fit22, fit23, fit24, fit25, fit26, fit27, fit28, fit29, fit30, fit31, fit32, fit33, fit34, fit35, fit36, fit37, fit38, fit39, fit40, fit41, fit42, fit43, fit44, fit45, fit46, fit47, fit48, fit49, fit50, fit51, fit52, fit53, fit54, fit55, fit56, fit57, fit58, fit59, fit60, fit61, fit62, fit63, fit64, fit65, fit66, fit67, fit68, fit69, fit70, fit71, fit72, fit73, fit74, fit75, fit76, fit77⟩

end Go.Ab.Prog
