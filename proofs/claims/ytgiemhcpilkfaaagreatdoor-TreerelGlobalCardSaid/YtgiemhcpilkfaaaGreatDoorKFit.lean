/- Each annotated copy fits the given program's code. -/
import Derived.Test.YtgiemhcpilkfaaaGreatDoorK2
import Derived.Test.YtgiemhcpilkfaaaGreatDoorKProg
import Derived.Test.YtgiemhcpilkfaaaGreatDoorChecked
import Derived.KernelRfl

namespace Go.Ab.Prog
open Go Go.Ab Go.Proofs
set_option maxRecDepth 100000

theorem fit5 : FunOk Tryz.prog 5 F5 := (by kernel_rfl : okFunc Tryz.prog 5 F5 = true)
theorem fit8 : FunOk Tryz.prog 8 F8 := (by kernel_rfl : okFunc Tryz.prog 8 F8 = true)
theorem fit9 : FunOk Tryz.prog 9 F9 := (by kernel_rfl : okFunc Tryz.prog 9 F9 = true)
theorem fit10 : FunOk Tryz.prog 10 F10 := (by kernel_rfl : okFunc Tryz.prog 10 F10 = true)
theorem fit12 : FunOk Tryz.prog 12 F12 := (by kernel_rfl : okFunc Tryz.prog 12 F12 = true)
theorem fit13 : FunOk Tryz.prog 13 F13 := (by kernel_rfl : okFunc Tryz.prog 13 F13 = true)
theorem fit14 : FunOk Tryz.prog 14 F14 := (by kernel_rfl : okFunc Tryz.prog 14 F14 = true)
theorem fit16 : FunOk Tryz.prog 16 F16 := (by kernel_rfl : okFunc Tryz.prog 16 F16 = true)
theorem fit17 : FunOk Tryz.prog 17 F17 := (by kernel_rfl : okFunc Tryz.prog 17 F17 = true)
theorem fit21 : FunOk Tryz.prog 21 F21 := (by kernel_rfl : okFunc Tryz.prog 21 F21 = true)
theorem fit22 : FunOk Tryz.prog 22 F22 := (by kernel_rfl : okFunc Tryz.prog 22 F22 = true)
theorem fit23 : FunOk Tryz.prog 23 F23 := (by kernel_rfl : okFunc Tryz.prog 23 F23 = true)
theorem fit24 : FunOk Tryz.prog 24 F24 := (by kernel_rfl : okFunc Tryz.prog 24 F24 = true)
theorem fit25 : FunOk Tryz.prog 25 F25 := (by kernel_rfl : okFunc Tryz.prog 25 F25 = true)
theorem fit26 : FunOk Tryz.prog 26 F26 := (by kernel_rfl : okFunc Tryz.prog 26 F26 = true)
theorem fit27 : FunOk Tryz.prog 27 F27 := (by kernel_rfl : okFunc Tryz.prog 27 F27 = true)
theorem fit28 : FunOk Tryz.prog 28 F28 := (by kernel_rfl : okFunc Tryz.prog 28 F28 = true)
theorem fit29 : FunOk Tryz.prog 29 F29 := (by kernel_rfl : okFunc Tryz.prog 29 F29 = true)
theorem fit30 : FunOk Tryz.prog 30 F30 := (by kernel_rfl : okFunc Tryz.prog 30 F30 = true)
theorem fit31 : FunOk Tryz.prog 31 F31 := (by kernel_rfl : okFunc Tryz.prog 31 F31 = true)
theorem fit32 : FunOk Tryz.prog 32 F32 := (by kernel_rfl : okFunc Tryz.prog 32 F32 = true)
theorem fit36 : FunOk Tryz.prog 36 F36 := (by kernel_rfl : okFunc Tryz.prog 36 F36 = true)
theorem fit39 : FunOk Tryz.prog 39 F39 := (by kernel_rfl : okFunc Tryz.prog 39 F39 = true)
theorem fit40 : FunOk Tryz.prog 40 F40 := (by kernel_rfl : okFunc Tryz.prog 40 F40 = true)
theorem fit41 : FunOk Tryz.prog 41 F41 := (by kernel_rfl : okFunc Tryz.prog 41 F41 = true)
theorem fit42 : FunOk Tryz.prog 42 F42 := (by kernel_rfl : okFunc Tryz.prog 42 F42 = true)
theorem fit43 : FunOk Tryz.prog 43 F43 := (by kernel_rfl : okFunc Tryz.prog 43 F43 = true)
theorem fit44 : FunOk Tryz.prog 44 F44 := (by kernel_rfl : okFunc Tryz.prog 44 F44 = true)
theorem fit45 : FunOk Tryz.prog 45 F45 := (by kernel_rfl : okFunc Tryz.prog 45 F45 = true)
theorem fit46 : FunOk Tryz.prog 46 F46 := (by kernel_rfl : okFunc Tryz.prog 46 F46 = true)
theorem fit47 : FunOk Tryz.prog 47 F47 := (by kernel_rfl : okFunc Tryz.prog 47 F47 = true)
theorem fit48 : FunOk Tryz.prog 48 F48 := (by kernel_rfl : okFunc Tryz.prog 48 F48 = true)
theorem fit49 : FunOk Tryz.prog 49 F49 := (by kernel_rfl : okFunc Tryz.prog 49 F49 = true)
theorem fit50 : FunOk Tryz.prog 50 F50 := (by kernel_rfl : okFunc Tryz.prog 50 F50 = true)
theorem fit51 : FunOk Tryz.prog 51 F51 := (by kernel_rfl : okFunc Tryz.prog 51 F51 = true)
theorem fit52 : FunOk Tryz.prog 52 F52 := (by kernel_rfl : okFunc Tryz.prog 52 F52 = true)
theorem fit53 : FunOk Tryz.prog 53 F53 := (by kernel_rfl : okFunc Tryz.prog 53 F53 = true)
theorem fit54 : FunOk Tryz.prog 54 F54 := (by kernel_rfl : okFunc Tryz.prog 54 F54 = true)
theorem fit55 : FunOk Tryz.prog 55 F55 := (by kernel_rfl : okFunc Tryz.prog 55 F55 = true)
theorem fit56 : FunOk Tryz.prog 56 F56 := (by kernel_rfl : okFunc Tryz.prog 56 F56 = true)
theorem fit57 : FunOk Tryz.prog 57 F57 := (by kernel_rfl : okFunc Tryz.prog 57 F57 = true)
theorem fit58 : FunOk Tryz.prog 58 F58 := (by kernel_rfl : okFunc Tryz.prog 58 F58 = true)
theorem fit59 : FunOk Tryz.prog 59 F59 := (by kernel_rfl : okFunc Tryz.prog 59 F59 = true)
theorem fit60 : FunOk Tryz.prog 60 F60 := (by kernel_rfl : okFunc Tryz.prog 60 F60 = true)
theorem fit61 : FunOk Tryz.prog 61 F61 := (by kernel_rfl : okFunc Tryz.prog 61 F61 = true)
theorem fit63 : FunOk Tryz.prog 63 F63 := (by kernel_rfl : okFunc Tryz.prog 63 F63 = true)
theorem fit64 : FunOk Tryz.prog 64 F64 := (by kernel_rfl : okFunc Tryz.prog 64 F64 = true)
theorem fit65 : FunOk Tryz.prog 65 F65 := (by kernel_rfl : okFunc Tryz.prog 65 F65 = true)
theorem fit66 : FunOk Tryz.prog 66 F66 := (by kernel_rfl : okFunc Tryz.prog 66 F66 = true)
theorem fit67 : FunOk Tryz.prog 67 F67 := (by kernel_rfl : okFunc Tryz.prog 67 F67 = true)
theorem fit68 : FunOk Tryz.prog 68 F68 := (by kernel_rfl : okFunc Tryz.prog 68 F68 = true)
theorem fit69 : FunOk Tryz.prog 69 F69 := (by kernel_rfl : okFunc Tryz.prog 69 F69 = true)
theorem fit71 : FunOk Tryz.prog 71 F71 := (by kernel_rfl : okFunc Tryz.prog 71 F71 = true)
theorem fit72 : FunOk Tryz.prog 72 F72 := (by kernel_rfl : okFunc Tryz.prog 72 F72 = true)
theorem fit73 : FunOk Tryz.prog 73 F73 := (by kernel_rfl : okFunc Tryz.prog 73 F73 = true)
theorem fit84 : FunOk Tryz.prog 84 F84 := (by kernel_rfl : okFunc Tryz.prog 84 F84 = true)
theorem fit85 : FunOk Tryz.prog 85 F85 := (by kernel_rfl : okFunc Tryz.prog 85 F85 = true)
theorem fit86 : FunOk Tryz.prog 86 F86 := (by kernel_rfl : okFunc Tryz.prog 86 F86 = true)
theorem fit87 : FunOk Tryz.prog 87 F87 := (by kernel_rfl : okFunc Tryz.prog 87 F87 = true)
theorem fit88 : FunOk Tryz.prog 88 F88 := (by kernel_rfl : okFunc Tryz.prog 88 F88 = true)
theorem fit89 : FunOk Tryz.prog 89 F89 := (by kernel_rfl : okFunc Tryz.prog 89 F89 = true)
theorem fit91 : FunOk Tryz.prog 91 F91 := (by kernel_rfl : okFunc Tryz.prog 91 F91 = true)
theorem fit92 : FunOk Tryz.prog 92 F92 := (by kernel_rfl : okFunc Tryz.prog 92 F92 = true)
theorem fit93 : FunOk Tryz.prog 93 F93 := (by kernel_rfl : okFunc Tryz.prog 93 F93 = true)
theorem fit96 : FunOk Tryz.prog 96 F96 := (by kernel_rfl : okFunc Tryz.prog 96 F96 = true)
theorem fit97 : FunOk Tryz.prog 97 F97 := (by kernel_rfl : okFunc Tryz.prog 97 F97 = true)
theorem fit98 : FunOk Tryz.prog 98 F98 := (by kernel_rfl : okFunc Tryz.prog 98 F98 = true)
theorem fit99 : FunOk Tryz.prog 99 F99 := (by kernel_rfl : okFunc Tryz.prog 99 F99 = true)
theorem fit100 : FunOk Tryz.prog 100 F100 := (by kernel_rfl : okFunc Tryz.prog 100 F100 = true)
theorem fit101 : FunOk Tryz.prog 101 F101 := (by kernel_rfl : okFunc Tryz.prog 101 F101 = true)
theorem fit102 : FunOk Tryz.prog 102 F102 := (by kernel_rfl : okFunc Tryz.prog 102 F102 = true)
theorem fit103 : FunOk Tryz.prog 103 F103 := (by kernel_rfl : okFunc Tryz.prog 103 F103 = true)
theorem fit104 : FunOk Tryz.prog 104 F104 := (by kernel_rfl : okFunc Tryz.prog 104 F104 = true)
theorem fit110 : FunOk Tryz.prog 110 F110 := (by kernel_rfl : okFunc Tryz.prog 110 F110 = true)
theorem fit111 : FunOk Tryz.prog 111 F111 := (by kernel_rfl : okFunc Tryz.prog 111 F111 = true)
theorem fit112 : FunOk Tryz.prog 112 F112 := (by kernel_rfl : okFunc Tryz.prog 112 F112 = true)
theorem fit113 : FunOk Tryz.prog 113 F113 := (by kernel_rfl : okFunc Tryz.prog 113 F113 = true)
theorem fit114 : FunOk Tryz.prog 114 F114 := (by kernel_rfl : okFunc Tryz.prog 114 F114 = true)
theorem fit115 : FunOk Tryz.prog 115 F115 := (by kernel_rfl : okFunc Tryz.prog 115 F115 = true)
theorem fit116 : FunOk Tryz.prog 116 F116 := (by kernel_rfl : okFunc Tryz.prog 116 F116 = true)
theorem fit117 : FunOk Tryz.prog 117 F117 := (by kernel_rfl : okFunc Tryz.prog 117 F117 = true)
theorem fit118 : FunOk Tryz.prog 118 F118 := (by kernel_rfl : okFunc Tryz.prog 118 F118 = true)
theorem fit126 : FunOk Tryz.prog 126 F126 := (by kernel_rfl : okFunc Tryz.prog 126 F126 = true)
theorem fit127 : FunOk Tryz.prog 127 F127 := (by kernel_rfl : okFunc Tryz.prog 127 F127 = true)
theorem fit128 : FunOk Tryz.prog 128 F128 := (by kernel_rfl : okFunc Tryz.prog 128 F128 = true)
theorem fit129 : FunOk Tryz.prog 129 F129 := (by kernel_rfl : okFunc Tryz.prog 129 F129 = true)
theorem fit130 : FunOk Tryz.prog 130 F130 := (by kernel_rfl : okFunc Tryz.prog 130 F130 = true)
theorem fit138 : FunOk Tryz.prog 138 F138 := (by kernel_rfl : okFunc Tryz.prog 138 F138 = true)
theorem fit139 : FunOk Tryz.prog 139 F139 := (by kernel_rfl : okFunc Tryz.prog 139 F139 = true)
theorem fit140 : FunOk Tryz.prog 140 F140 := (by kernel_rfl : okFunc Tryz.prog 140 F140 = true)
theorem fit141 : FunOk Tryz.prog 141 F141 := (by kernel_rfl : okFunc Tryz.prog 141 F141 = true)
theorem fit142 : FunOk Tryz.prog 142 F142 := (by kernel_rfl : okFunc Tryz.prog 142 F142 = true)
theorem fit143 : FunOk Tryz.prog 143 F143 := (by kernel_rfl : okFunc Tryz.prog 143 F143 = true)
theorem fit144 : FunOk Tryz.prog 144 F144 := (by kernel_rfl : okFunc Tryz.prog 144 F144 = true)
theorem fit156 : FunOk Tryz.prog 156 F156 := (by kernel_rfl : okFunc Tryz.prog 156 F156 = true)
theorem fit157 : FunOk Tryz.prog 157 F157 := (by kernel_rfl : okFunc Tryz.prog 157 F157 = true)
theorem fit160 : FunOk Tryz.prog 160 F160 := (by kernel_rfl : okFunc Tryz.prog 160 F160 = true)
theorem fit163 : FunOk Tryz.prog 163 F163 := (by kernel_rfl : okFunc Tryz.prog 163 F163 = true)
theorem fit164 : FunOk Tryz.prog 164 F164 := (by kernel_rfl : okFunc Tryz.prog 164 F164 = true)
theorem fit165 : FunOk Tryz.prog 165 F165 := (by kernel_rfl : okFunc Tryz.prog 165 F165 = true)
theorem fit166 : FunOk Tryz.prog 166 F166 := (by kernel_rfl : okFunc Tryz.prog 166 F166 = true)

theorem fits_find : ∀ {l : List (Nat × IFunc)}, (∀ p, p ∈ l → FunOk Tryz.prog p.1 p.2) → ∀ f F, find f l = some F → FunOk Tryz.prog f F
  | [], _, f, F, h => by simp [find] at h
  | (g, G) :: l, hl, f, F, h => by
    simp only [find] at h
    split at h
    · rename_i e; injection h with h; subst e; subst h; exact hl (f, G) List.mem_cons_self
    · exact fits_find (fun p hp => hl p (by simp [hp])) f F h

theorem fits : ∀ f F, prog f = some F → FunOk Tryz.prog f F := by
  refine fits_find ?_
  unfold fns
  simp only [List.mem_cons, List.not_mem_nil, or_false, forall_eq_or_imp, forall_eq]
  exact ⟨fit5, fit8, fit9, fit10, fit12, fit13, fit14, fit16, fit17, fit21, fit22, fit23, fit24, fit25, fit26, fit27, fit28, fit29, fit30, fit31, fit32, fit36, fit39, fit40, fit41, fit42, fit43, fit44, fit45, fit46, fit47, fit48, fit49, fit50, fit51, fit52, fit53, fit54, fit55, fit56, fit57, fit58, fit59, fit60, fit61, fit63, fit64, fit65, fit66, fit67, fit68, fit69, fit71, fit72, fit73, fit84, fit85, fit86, fit87, fit88, fit89, fit91, fit92, fit93, fit96, fit97, fit98, fit99, fit100, fit101, fit102, fit103, fit104, fit110, fit111, fit112, fit113, fit114, fit115, fit116, fit117, fit118, fit126, fit127, fit128, fit129, fit130, fit138, fit139, fit140, fit141, fit142, fit143, fit144, fit156, fit157, fit160, fit163, fit164, fit165, fit166⟩

end Go.Ab.Prog
