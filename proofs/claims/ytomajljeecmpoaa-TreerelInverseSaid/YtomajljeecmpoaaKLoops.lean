/- One round of each loop. -/
import Derived.Test.YtomajljeecmpoaaKProg
import Derived.Test.YtomajljeecmpoaaKRun

namespace Go.Ab.Prog
open Go.Ab

theorem ic4_0_eq {σ : St} : evV prog ic4_0 σ = maskK (mask [1, 5, 6, 7, 8, 33, 34, 69, 70, 71] [101, 102] σ) (loopR [1, 5, 6, 7, 8, 33, 34, 69, 70, 71] [101, 102] (evV prog ic4_0_b) (evV prog ic4_0)) := evV_loop
theorem ic4_1_eq {σ : St} : evV prog ic4_1 σ = maskK (mask [1, 5, 6, 7, 8, 33, 34] [101, 102] σ) (loopR [1, 5, 6, 7, 8, 33, 34] [101, 102] (evV prog ic4_1_b) (evV prog ic4_1)) := evV_loop
theorem ic4_2_eq {σ : St} : evV prog ic4_2 σ = maskK (mask [6, 7, 8, 14, 82, 83, 84] [102] σ) (loopR [6, 7, 8, 14, 82, 83, 84] [102] (evV prog ic4_2_b) (evV prog ic4_2)) := evV_loop
theorem ic5_0_eq {σ : St} : evV prog ic5_0 σ = maskK (mask [3, 4, 5, 20, 21, 22] [101] σ) (loopR [3, 4, 5, 20, 21, 22] [101] (evV prog ic5_0_b) (evV prog ic5_0)) := evV_loop
theorem ic5_1_eq {σ : St} : evV prog ic5_1 σ = maskK (mask [3, 4, 5] [101] σ) (loopR [3, 4, 5] [101] (evV prog ic5_1_b) (evV prog ic5_1)) := evV_loop
theorem ic9_0_eq {σ : St} : evV prog ic9_0 σ = maskK (mask [1, 2, 7, 8, 35, 36, 37] [101] σ) (loopR [1, 2, 7, 8, 35, 36, 37] [101] (evV prog ic9_0_b) (evV prog ic9_0)) := evV_loop
theorem ic12_0_eq {σ : St} : evV prog ic12_0 σ = maskK (mask [0, 1, 4, 5, 6] [0, 100, 101] σ) (loopR [0, 1, 4, 5, 6] [0, 100, 101] (evV prog ic12_0_b) (evV prog ic12_0)) := evV_loop
theorem ic14_0_eq {σ : St} : evV prog ic14_0 σ = maskK (mask [0, 1, 12, 13] [] σ) (loopR [0, 1, 12, 13] [] (evV prog ic14_0_b) (evV prog ic14_0)) := evV_loop
theorem ic15_0_eq {σ : St} : evV prog ic15_0 σ = maskK (mask [1, 2, 5] [100, 101] σ) (loopR [1, 2, 5] [100, 101] (evV prog ic15_0_b) (evV prog ic15_0)) := evV_loop
theorem ic16_0_eq {σ : St} : evV prog ic16_0 σ = maskK (mask [2, 5, 6] [100, 101] σ) (loopR [2, 5, 6] [100, 101] (evV prog ic16_0_b) (evV prog ic16_0)) := evV_loop
theorem ic17_0_eq {σ : St} : evV prog ic17_0 σ = maskK (mask [1, 2, 5, 13, 14] [100, 101] σ) (loopR [1, 2, 5, 13, 14] [100, 101] (evV prog ic17_0_b) (evV prog ic17_0)) := evV_loop
theorem ic18_0_eq {σ : St} : evV prog ic18_0 σ = maskK (mask [1, 2, 5, 15, 16] [100, 101] σ) (loopR [1, 2, 5, 15, 16] [100, 101] (evV prog ic18_0_b) (evV prog ic18_0)) := evV_loop
theorem ic19_0_eq {σ : St} : evV prog ic19_0 σ = maskK (mask [1, 2, 5, 13, 14] [100, 101] σ) (loopR [1, 2, 5, 13, 14] [100, 101] (evV prog ic19_0_b) (evV prog ic19_0)) := evV_loop
theorem ic20_0_eq {σ : St} : evV prog ic20_0 σ = maskK (mask [1, 2, 5, 13, 14] [100, 101] σ) (loopR [1, 2, 5, 13, 14] [100, 101] (evV prog ic20_0_b) (evV prog ic20_0)) := evV_loop
theorem ic22_0_eq {σ : St} : evV prog ic22_0 σ = maskK (mask [1, 5, 18, 19, 20] [100] σ) (loopR [1, 5, 18, 19, 20] [100] (evV prog ic22_0_b) (evV prog ic22_0)) := evV_loop
theorem ic23_0_eq {σ : St} : evV prog ic23_0 σ = maskK (mask [2, 3, 8, 29, 30, 31] [100, 102] σ) (loopR [2, 3, 8, 29, 30, 31] [100, 102] (evV prog ic23_0_b) (evV prog ic23_0)) := evV_loop
theorem ic24_0_eq {σ : St} : evV prog ic24_0 σ = maskK (mask [1, 2, 3, 8] [100, 101] σ) (loopR [1, 2, 3, 8] [100, 101] (evV prog ic24_0_b) (evV prog ic24_0)) := evV_loop
theorem ic25_0_eq {σ : St} : evV prog ic25_0 σ = maskK (mask [0, 1, 12, 13] [] σ) (loopR [0, 1, 12, 13] [] (evV prog ic25_0_b) (evV prog ic25_0)) := evV_loop
theorem ic26_0_eq {σ : St} : evV prog ic26_0 σ = maskK (mask [7, 8, 10, 34, 35, 36, 40, 41, 42] [101] σ) (loopR [7, 8, 10, 34, 35, 36, 40, 41, 42] [101] (evV prog ic26_0_b) (evV prog ic26_0)) := evV_loop
theorem ic26_1_eq {σ : St} : evV prog ic26_1 σ = maskK (mask [7, 8, 34, 35, 36] [101] σ) (loopR [7, 8, 34, 35, 36] [101] (evV prog ic26_1_b) (evV prog ic26_1)) := evV_loop
theorem ic27_0_eq {σ : St} : evV prog ic27_0 σ = maskK (mask [7, 31, 32, 33] [101] σ) (loopR [7, 31, 32, 33] [101] (evV prog ic27_0_b) (evV prog ic27_0)) := evV_loop
theorem ic28_0_eq {σ : St} : evV prog ic28_0 σ = maskK (mask [3, 5, 27, 28, 29] [100, 102] σ) (loopR [3, 5, 27, 28, 29] [100, 102] (evV prog ic28_0_b) (evV prog ic28_0)) := evV_loop
theorem ic30_0_eq {σ : St} : evV prog ic30_0 σ = maskK (mask [3, 5, 27, 28, 29] [100, 102] σ) (loopR [3, 5, 27, 28, 29] [100, 102] (evV prog ic30_0_b) (evV prog ic30_0)) := evV_loop
theorem ic32_0_eq {σ : St} : evV prog ic32_0 σ = maskK (mask [1, 5, 18, 19, 20] [100] σ) (loopR [1, 5, 18, 19, 20] [100] (evV prog ic32_0_b) (evV prog ic32_0)) := evV_loop
theorem ic33_0_eq {σ : St} : evV prog ic33_0 σ = maskK (mask [0, 6, 7, 8, 9] [0, 100, 103, 104, 105] σ) (loopR [0, 6, 7, 8, 9] [0, 100, 103, 104, 105] (evV prog ic33_0_b) (evV prog ic33_0)) := evV_loop
theorem ic33_1_eq {σ : St} : evV prog ic33_1 σ = maskK (mask [0, 6, 7, 8, 11, 12, 14, 15, 101, 102, 103] [0, 100, 102, 103, 104, 105, 106] σ) (loopR [0, 6, 7, 8, 11, 12, 14, 15, 101, 102, 103] [0, 100, 102, 103, 104, 105, 106] (evV prog ic33_1_b) (evV prog ic33_1)) := evV_loop
theorem ic33_2_eq {σ : St} : evV prog ic33_2 σ = maskK (mask [0, 6, 7, 8, 11, 12] [0, 100, 102, 103, 104, 105] σ) (loopR [0, 6, 7, 8, 11, 12] [0, 100, 102, 103, 104, 105] (evV prog ic33_2_b) (evV prog ic33_2)) := evV_loop
theorem ic35_0_eq {σ : St} : evV prog ic35_0 σ = maskK (mask [2, 3, 4, 37, 38, 39] [104, 105, 106, 107, 108, 109, 110, 111, 112, 113] σ) (loopR [2, 3, 4, 37, 38, 39] [104, 105, 106, 107, 108, 109, 110, 111, 112, 113] (evV prog ic35_0_b) (evV prog ic35_0)) := evV_loop
theorem ic35_1_eq {σ : St} : evV prog ic35_1 σ = maskK (mask [2, 3, 4, 8, 9, 10, 11] [104, 105, 106, 107, 108, 109, 110, 111, 112, 113, 115] σ) (loopR [2, 3, 4, 8, 9, 10, 11] [104, 105, 106, 107, 108, 109, 110, 111, 112, 113, 115] (evV prog ic35_1_b) (evV prog ic35_1)) := evV_loop
theorem ic35_2_eq {σ : St} : evV prog ic35_2 σ = maskK (mask [2, 3, 4, 8, 9, 10, 12] [104, 105, 106, 107, 108, 109, 110, 111, 112, 113, 115] σ) (loopR [2, 3, 4, 8, 9, 10, 12] [104, 105, 106, 107, 108, 109, 110, 111, 112, 113, 115] (evV prog ic35_2_b) (evV prog ic35_2)) := evV_loop
theorem ic35_3_eq {σ : St} : evV prog ic35_3 σ = maskK (mask [2, 3, 4, 8, 9, 10, 13] [104, 105, 106, 107, 108, 109, 110, 111, 112, 113, 115] σ) (loopR [2, 3, 4, 8, 9, 10, 13] [104, 105, 106, 107, 108, 109, 110, 111, 112, 113, 115] (evV prog ic35_3_b) (evV prog ic35_3)) := evV_loop
theorem ic35_4_eq {σ : St} : evV prog ic35_4 σ = maskK (mask [4, 8, 10, 254, 255, 256] [104, 105, 106, 107, 108, 109, 110, 113, 115] σ) (loopR [4, 8, 10, 254, 255, 256] [104, 105, 106, 107, 108, 109, 110, 113, 115] (evV prog ic35_4_b) (evV prog ic35_4)) := evV_loop
theorem ic41_0_eq {σ : St} : evV prog ic41_0 σ = maskK (mask [1, 7, 8, 9] [] σ) (loopR [1, 7, 8, 9] [] (evV prog ic41_0_b) (evV prog ic41_0)) := evV_loop
theorem ic47_0_eq {σ : St} : evV prog ic47_0 σ = maskK (mask [3, 5, 6, 7, 8, 9] [100, 101] σ) (loopR [3, 5, 6, 7, 8, 9] [100, 101] (evV prog ic47_0_b) (evV prog ic47_0)) := evV_loop
theorem ic47_1_eq {σ : St} : evV prog ic47_1 σ = maskK (mask [3, 7, 8, 9] [100] σ) (loopR [3, 7, 8, 9] [100] (evV prog ic47_1_b) (evV prog ic47_1)) := evV_loop
theorem ic48_0_eq {σ : St} : evV prog ic48_0 σ = maskK (mask [0, 1, 4, 5, 6] [0, 1, 100] σ) (loopR [0, 1, 4, 5, 6] [0, 1, 100] (evV prog ic48_0_b) (evV prog ic48_0)) := evV_loop
theorem ic49_0_eq {σ : St} : evV prog ic49_0 σ = maskK (mask [0, 1, 4, 5, 6] [0, 1, 100, 101] σ) (loopR [0, 1, 4, 5, 6] [0, 1, 100, 101] (evV prog ic49_0_b) (evV prog ic49_0)) := evV_loop
theorem ic49_1_eq {σ : St} : evV prog ic49_1 σ = maskK (mask [0, 1, 5, 8, 9, 10, 43, 44, 45] [0, 1, 100, 101] σ) (loopR [0, 1, 5, 8, 9, 10, 43, 44, 45] [0, 1, 100, 101] (evV prog ic49_1_b) (evV prog ic49_1)) := evV_loop
theorem ic51_0_eq {σ : St} : evV prog ic51_0 σ = maskK (mask [0, 1, 12, 13] [] σ) (loopR [0, 1, 12, 13] [] (evV prog ic51_0_b) (evV prog ic51_0)) := evV_loop
theorem ic52_0_eq {σ : St} : evV prog ic52_0 σ = maskK (mask [1, 8, 9, 10] [] σ) (loopR [1, 8, 9, 10] [] (evV prog ic52_0_b) (evV prog ic52_0)) := evV_loop
theorem ic53_0_eq {σ : St} : evV prog ic53_0 σ = maskK (mask [1, 4, 19, 20] [100, 103] σ) (loopR [1, 4, 19, 20] [100, 103] (evV prog ic53_0_b) (evV prog ic53_0)) := evV_loop
theorem ic54_0_eq {σ : St} : evV prog ic54_0 σ = maskK (mask [0, 1, 7, 8] [] σ) (loopR [0, 1, 7, 8] [] (evV prog ic54_0_b) (evV prog ic54_0)) := evV_loop
theorem ic55_0_eq {σ : St} : evV prog ic55_0 σ = maskK (mask [2, 3, 5] [100, 101] σ) (loopR [2, 3, 5] [100, 101] (evV prog ic55_0_b) (evV prog ic55_0)) := evV_loop
theorem ic59_0_eq {σ : St} : evV prog ic59_0 σ = maskK (mask [0, 4, 5, 14, 15, 16, 28, 29, 30] [100] σ) (loopR [0, 4, 5, 14, 15, 16, 28, 29, 30] [100] (evV prog ic59_0_b) (evV prog ic59_0)) := evV_loop
theorem ic59_1_eq {σ : St} : evV prog ic59_1 σ = maskK (mask [0, 14, 15, 16] [] σ) (loopR [0, 14, 15, 16] [] (evV prog ic59_1_b) (evV prog ic59_1)) := evV_loop
theorem ic60_0_eq {σ : St} : evV prog ic60_0 σ = maskK (mask [1, 4, 14, 15, 16, 28, 29, 30] [100] σ) (loopR [1, 4, 14, 15, 16, 28, 29, 30] [100] (evV prog ic60_0_b) (evV prog ic60_0)) := evV_loop
theorem ic60_1_eq {σ : St} : evV prog ic60_1 σ = maskK (mask [1, 14, 15, 16] [100] σ) (loopR [1, 14, 15, 16] [100] (evV prog ic60_1_b) (evV prog ic60_1)) := evV_loop
theorem ic61_0_eq {σ : St} : evV prog ic61_0 σ = maskK (mask [1, 4, 5, 6, 7, 26, 27, 28, 41, 42, 43] [100, 101] σ) (loopR [1, 4, 5, 6, 7, 26, 27, 28, 41, 42, 43] [100, 101] (evV prog ic61_0_b) (evV prog ic61_0)) := evV_loop
theorem ic61_1_eq {σ : St} : evV prog ic61_1 σ = maskK (mask [1, 4, 5, 26, 27, 28] [100] σ) (loopR [1, 4, 5, 26, 27, 28] [100] (evV prog ic61_1_b) (evV prog ic61_1)) := evV_loop
theorem ic62_0_eq {σ : St} : evV prog ic62_0 σ = maskK (mask [1, 4, 5, 7, 15, 16, 17, 62, 63, 64] [100, 101] σ) (loopR [1, 4, 5, 7, 15, 16, 17, 62, 63, 64] [100, 101] (evV prog ic62_0_b) (evV prog ic62_0)) := evV_loop
theorem ic62_1_eq {σ : St} : evV prog ic62_1 σ = maskK (mask [1, 15, 16, 17] [100] σ) (loopR [1, 15, 16, 17] [100] (evV prog ic62_1_b) (evV prog ic62_1)) := evV_loop
theorem ic63_0_eq {σ : St} : evV prog ic63_0 σ = maskK (mask [0, 3, 6, 7, 8, 9, 18, 19, 20] [100, 102, 103] σ) (loopR [0, 3, 6, 7, 8, 9, 18, 19, 20] [100, 102, 103] (evV prog ic63_0_b) (evV prog ic63_0)) := evV_loop
theorem ic63_1_eq {σ : St} : evV prog ic63_1 σ = maskK (mask [0, 3, 6, 7, 8, 11, 18, 19, 20] [100, 102, 103] σ) (loopR [0, 3, 6, 7, 8, 11, 18, 19, 20] [100, 102, 103] (evV prog ic63_1_b) (evV prog ic63_1)) := evV_loop
theorem ic63_2_eq {σ : St} : evV prog ic63_2 σ = maskK (mask [0, 3, 6, 18, 19, 20] [100, 102] σ) (loopR [0, 3, 6, 18, 19, 20] [100, 102] (evV prog ic63_2_b) (evV prog ic63_2)) := evV_loop
theorem ic64_0_eq {σ : St} : evV prog ic64_0 σ = maskK (mask [1, 4, 36, 37, 38] [100] σ) (loopR [1, 4, 36, 37, 38] [100] (evV prog ic64_0_b) (evV prog ic64_0)) := evV_loop
theorem ic65_0_eq {σ : St} : evV prog ic65_0 σ = maskK (mask [0, 3] [] σ) (loopR [0, 3] [] (evV prog ic65_0_b) (evV prog ic65_0)) := evV_loop
theorem ic67_0_eq {σ : St} : evV prog ic67_0 σ = maskK (mask [0, 9, 10, 11] [] σ) (loopR [0, 9, 10, 11] [] (evV prog ic67_0_b) (evV prog ic67_0)) := evV_loop
theorem ic68_0_eq {σ : St} : evV prog ic68_0 σ = maskK (mask [1, 2, 10, 11, 12] [] σ) (loopR [1, 2, 10, 11, 12] [] (evV prog ic68_0_b) (evV prog ic68_0)) := evV_loop
theorem ic69_0_eq {σ : St} : evV prog ic69_0 σ = maskK (mask [0, 1, 7, 8] [] σ) (loopR [0, 1, 7, 8] [] (evV prog ic69_0_b) (evV prog ic69_0)) := evV_loop
theorem ic70_0_eq {σ : St} : evV prog ic70_0 σ = maskK (mask [1, 8, 9, 10] [] σ) (loopR [1, 8, 9, 10] [] (evV prog ic70_0_b) (evV prog ic70_0)) := evV_loop
theorem ic71_0_eq {σ : St} : evV prog ic71_0 σ = maskK (mask [0, 1, 5, 8, 9] [] σ) (loopR [0, 1, 5, 8, 9] [] (evV prog ic71_0_b) (evV prog ic71_0)) := evV_loop
theorem ic74_0_eq {σ : St} : evV prog ic74_0 σ = maskK (mask [0, 5, 6, 7, 8] [100] σ) (loopR [0, 5, 6, 7, 8] [100] (evV prog ic74_0_b) (evV prog ic74_0)) := evV_loop
theorem ic74_1_eq {σ : St} : evV prog ic74_1 σ = maskK (mask [6, 9] [100] σ) (loopR [6, 9] [100] (evV prog ic74_1_b) (evV prog ic74_1)) := evV_loop
theorem ic75_0_eq {σ : St} : evV prog ic75_0 σ = maskK (mask [12, 13, 14] [] σ) (loopR [12, 13, 14] [] (evV prog ic75_0_b) (evV prog ic75_0)) := evV_loop
theorem ic76_0_eq {σ : St} : evV prog ic76_0 σ = maskK (mask [6, 7, 8] [] σ) (loopR [6, 7, 8] [] (evV prog ic76_0_b) (evV prog ic76_0)) := evV_loop
theorem ic77_0_eq {σ : St} : evV prog ic77_0 σ = maskK (mask [0, 3, 8] [100, 101] σ) (loopR [0, 3, 8] [100, 101] (evV prog ic77_0_b) (evV prog ic77_0)) := evV_loop
theorem ic77_1_eq {σ : St} : evV prog ic77_1 σ = maskK (mask [3, 57, 58] [100] σ) (loopR [3, 57, 58] [100] (evV prog ic77_1_b) (evV prog ic77_1)) := evV_loop

end Go.Ab.Prog
