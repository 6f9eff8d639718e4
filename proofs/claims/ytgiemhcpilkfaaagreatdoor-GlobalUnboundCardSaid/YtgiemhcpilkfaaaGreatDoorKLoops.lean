/- One round of each loop. -/
import Derived.Test.YtgiemhcpilkfaaaGreatDoorKProg
import Derived.Test.YtgiemhcpilkfaaaGreatDoorKRun

namespace Go.Ab.Prog
open Go.Ab

theorem ic3_0_eq {σ : St} : evV prog ic3_0 σ = maskK (mask [6, 7, 20, 21, 22] [102, 103] σ) (loopR [6, 7, 20, 21, 22] [102, 103] (evV prog ic3_0_b) (evV prog ic3_0)) := evV_loop
theorem ic4_0_eq {σ : St} : evV prog ic4_0 σ = maskK (mask [6, 7, 20, 21, 22] [102, 103] σ) (loopR [6, 7, 20, 21, 22] [102, 103] (evV prog ic4_0_b) (evV prog ic4_0)) := evV_loop
theorem ic5_0_eq {σ : St} : evV prog ic5_0 σ = maskK (mask [1, 2, 8, 26, 27, 28] [101] σ) (loopR [1, 2, 8, 26, 27, 28] [101] (evV prog ic5_0_b) (evV prog ic5_0)) := evV_loop
theorem ic8_0_eq {σ : St} : evV prog ic8_0 σ = maskK (mask [1, 2, 7, 8, 9, 10, 11, 46, 47, 48] [101, 102] σ) (loopR [1, 2, 7, 8, 9, 10, 11, 46, 47, 48] [101, 102] (evV prog ic8_0_b) (evV prog ic8_0)) := evV_loop
theorem ic10_0_eq {σ : St} : evV prog ic10_0 σ = maskK (mask [0, 1, 4, 5, 6] [0, 100, 101] σ) (loopR [0, 1, 4, 5, 6] [0, 100, 101] (evV prog ic10_0_b) (evV prog ic10_0)) := evV_loop
theorem ic11_0_eq {σ : St} : evV prog ic11_0 σ = maskK (mask [0, 6, 11, 12] [0, 101, 102, 103] σ) (loopR [0, 6, 11, 12] [0, 101, 102, 103] (evV prog ic11_0_b) (evV prog ic11_0)) := evV_loop
theorem ic13_0_eq {σ : St} : evV prog ic13_0 σ = maskK (mask [0, 2, 5, 9, 10, 11, 13, 14] [0, 101, 102, 103, 104, 105] σ) (loopR [0, 2, 5, 9, 10, 11, 13, 14] [0, 101, 102, 103, 104, 105] (evV prog ic13_0_b) (evV prog ic13_0)) := evV_loop
theorem ic13_1_eq {σ : St} : evV prog ic13_1 σ = maskK (mask [0, 2, 5, 9, 10] [0, 101, 102] σ) (loopR [0, 2, 5, 9, 10] [0, 101, 102] (evV prog ic13_1_b) (evV prog ic13_1)) := evV_loop
theorem ic15_0_eq {σ : St} : evV prog ic15_0 σ = maskK (mask [2, 4, 5, 7, 29, 30, 31] [100, 101, 102] σ) (loopR [2, 4, 5, 7, 29, 30, 31] [100, 101, 102] (evV prog ic15_0_b) (evV prog ic15_0)) := evV_loop
theorem ic18_0_eq {σ : St} : evV prog ic18_0 σ = maskK (mask [0, 1, 12, 13] [] σ) (loopR [0, 1, 12, 13] [] (evV prog ic18_0_b) (evV prog ic18_0)) := evV_loop
theorem ic19_0_eq {σ : St} : evV prog ic19_0 σ = maskK (mask [2, 4, 5, 9, 21, 22, 23] [100, 101, 102] σ) (loopR [2, 4, 5, 9, 21, 22, 23] [100, 101, 102] (evV prog ic19_0_b) (evV prog ic19_0)) := evV_loop
theorem ic20_0_eq {σ : St} : evV prog ic20_0 σ = maskK (mask [2, 4, 5, 9, 12, 13, 14] [100, 101, 102] σ) (loopR [2, 4, 5, 9, 12, 13, 14] [100, 101, 102] (evV prog ic20_0_b) (evV prog ic20_0)) := evV_loop
theorem ic21_0_eq {σ : St} : evV prog ic21_0 σ = maskK (mask [1, 2, 5] [100, 101] σ) (loopR [1, 2, 5] [100, 101] (evV prog ic21_0_b) (evV prog ic21_0)) := evV_loop
theorem ic22_0_eq {σ : St} : evV prog ic22_0 σ = maskK (mask [2, 3, 8, 29, 30, 31] [100, 102] σ) (loopR [2, 3, 8, 29, 30, 31] [100, 102] (evV prog ic22_0_b) (evV prog ic22_0)) := evV_loop
theorem ic25_0_eq {σ : St} : evV prog ic25_0 σ = maskK (mask [0, 6, 7, 8, 9] [0, 100, 103, 104, 105] σ) (loopR [0, 6, 7, 8, 9] [0, 100, 103, 104, 105] (evV prog ic25_0_b) (evV prog ic25_0)) := evV_loop
theorem ic25_1_eq {σ : St} : evV prog ic25_1 σ = maskK (mask [0, 6, 7, 8, 11, 12, 14, 15, 101, 102, 103] [0, 100, 102, 103, 104, 105, 106] σ) (loopR [0, 6, 7, 8, 11, 12, 14, 15, 101, 102, 103] [0, 100, 102, 103, 104, 105, 106] (evV prog ic25_1_b) (evV prog ic25_1)) := evV_loop
theorem ic25_2_eq {σ : St} : evV prog ic25_2 σ = maskK (mask [0, 6, 7, 8, 11, 12] [0, 100, 102, 103, 104, 105] σ) (loopR [0, 6, 7, 8, 11, 12] [0, 100, 102, 103, 104, 105] (evV prog ic25_2_b) (evV prog ic25_2)) := evV_loop
theorem ic27_0_eq {σ : St} : evV prog ic27_0 σ = maskK (mask [2, 3, 4, 37, 38, 39] [104, 105, 106, 107, 108, 109, 110, 111, 112, 113] σ) (loopR [2, 3, 4, 37, 38, 39] [104, 105, 106, 107, 108, 109, 110, 111, 112, 113] (evV prog ic27_0_b) (evV prog ic27_0)) := evV_loop
theorem ic27_1_eq {σ : St} : evV prog ic27_1 σ = maskK (mask [2, 3, 4, 8, 9, 10, 11] [104, 105, 106, 107, 108, 109, 110, 111, 112, 113, 115] σ) (loopR [2, 3, 4, 8, 9, 10, 11] [104, 105, 106, 107, 108, 109, 110, 111, 112, 113, 115] (evV prog ic27_1_b) (evV prog ic27_1)) := evV_loop
theorem ic27_2_eq {σ : St} : evV prog ic27_2 σ = maskK (mask [2, 3, 4, 8, 9, 10, 12] [104, 105, 106, 107, 108, 109, 110, 111, 112, 113, 115] σ) (loopR [2, 3, 4, 8, 9, 10, 12] [104, 105, 106, 107, 108, 109, 110, 111, 112, 113, 115] (evV prog ic27_2_b) (evV prog ic27_2)) := evV_loop
theorem ic27_3_eq {σ : St} : evV prog ic27_3 σ = maskK (mask [2, 3, 4, 8, 9, 10, 13] [104, 105, 106, 107, 108, 109, 110, 111, 112, 113, 115] σ) (loopR [2, 3, 4, 8, 9, 10, 13] [104, 105, 106, 107, 108, 109, 110, 111, 112, 113, 115] (evV prog ic27_3_b) (evV prog ic27_3)) := evV_loop
theorem ic27_4_eq {σ : St} : evV prog ic27_4 σ = maskK (mask [4, 8, 10, 254, 255, 256] [104, 105, 106, 107, 108, 109, 110, 113, 115] σ) (loopR [4, 8, 10, 254, 255, 256] [104, 105, 106, 107, 108, 109, 110, 113, 115] (evV prog ic27_4_b) (evV prog ic27_4)) := evV_loop
theorem ic34_0_eq {σ : St} : evV prog ic34_0 σ = maskK (mask [2, 48, 49, 50] [100] σ) (loopR [2, 48, 49, 50] [100] (evV prog ic34_0_b) (evV prog ic34_0)) := evV_loop
theorem ic35_0_eq {σ : St} : evV prog ic35_0 σ = maskK (mask [2, 4, 5, 7, 43, 44, 45] [100, 101, 102] σ) (loopR [2, 4, 5, 7, 43, 44, 45] [100, 101, 102] (evV prog ic35_0_b) (evV prog ic35_0)) := evV_loop
theorem ic35_1_eq {σ : St} : evV prog ic35_1 σ = maskK (mask [5, 11, 12, 165, 166, 167] [101] σ) (loopR [5, 11, 12, 165, 166, 167] [101] (evV prog ic35_1_b) (evV prog ic35_1)) := evV_loop
theorem ic35_2_eq {σ : St} : evV prog ic35_2 σ = maskK (mask [5, 11, 12, 236, 237, 238] [101] σ) (loopR [5, 11, 12, 236, 237, 238] [101] (evV prog ic35_2_b) (evV prog ic35_2)) := evV_loop
theorem ic37_0_eq {σ : St} : evV prog ic37_0 σ = maskK (mask [5, 6, 7] [] σ) (loopR [5, 6, 7] [] (evV prog ic37_0_b) (evV prog ic37_0)) := evV_loop
theorem ic41_0_eq {σ : St} : evV prog ic41_0 σ = maskK (mask [3, 5, 27, 28, 29] [100, 102] σ) (loopR [3, 5, 27, 28, 29] [100, 102] (evV prog ic41_0_b) (evV prog ic41_0)) := evV_loop
theorem ic42_0_eq {σ : St} : evV prog ic42_0 σ = maskK (mask [0, 1, 12, 13] [] σ) (loopR [0, 1, 12, 13] [] (evV prog ic42_0_b) (evV prog ic42_0)) := evV_loop
theorem ic43_0_eq {σ : St} : evV prog ic43_0 σ = maskK (mask [1, 2, 5, 13, 14] [100, 101] σ) (loopR [1, 2, 5, 13, 14] [100, 101] (evV prog ic43_0_b) (evV prog ic43_0)) := evV_loop
theorem ic44_0_eq {σ : St} : evV prog ic44_0 σ = maskK (mask [1, 2, 5, 13, 14] [100, 101] σ) (loopR [1, 2, 5, 13, 14] [100, 101] (evV prog ic44_0_b) (evV prog ic44_0)) := evV_loop
theorem ic45_0_eq {σ : St} : evV prog ic45_0 σ = maskK (mask [7, 8, 10, 34, 35, 36, 40, 41, 42] [101] σ) (loopR [7, 8, 10, 34, 35, 36, 40, 41, 42] [101] (evV prog ic45_0_b) (evV prog ic45_0)) := evV_loop
theorem ic45_1_eq {σ : St} : evV prog ic45_1 σ = maskK (mask [7, 8, 34, 35, 36] [101] σ) (loopR [7, 8, 34, 35, 36] [101] (evV prog ic45_1_b) (evV prog ic45_1)) := evV_loop
theorem ic50_0_eq {σ : St} : evV prog ic50_0 σ = maskK (mask [3, 5, 6, 7, 8, 9] [100, 101] σ) (loopR [3, 5, 6, 7, 8, 9] [100, 101] (evV prog ic50_0_b) (evV prog ic50_0)) := evV_loop
theorem ic50_1_eq {σ : St} : evV prog ic50_1 σ = maskK (mask [3, 7, 8, 9] [100] σ) (loopR [3, 7, 8, 9] [100] (evV prog ic50_1_b) (evV prog ic50_1)) := evV_loop
theorem ic51_0_eq {σ : St} : evV prog ic51_0 σ = maskK (mask [0, 1, 4, 5, 6] [0, 1, 100] σ) (loopR [0, 1, 4, 5, 6] [0, 1, 100] (evV prog ic51_0_b) (evV prog ic51_0)) := evV_loop
theorem ic52_0_eq {σ : St} : evV prog ic52_0 σ = maskK (mask [0, 1, 4, 5, 6] [0, 1, 100, 101] σ) (loopR [0, 1, 4, 5, 6] [0, 1, 100, 101] (evV prog ic52_0_b) (evV prog ic52_0)) := evV_loop
theorem ic52_1_eq {σ : St} : evV prog ic52_1 σ = maskK (mask [0, 1, 5, 8, 9, 10, 43, 44, 45] [0, 1, 100, 101] σ) (loopR [0, 1, 5, 8, 9, 10, 43, 44, 45] [0, 1, 100, 101] (evV prog ic52_1_b) (evV prog ic52_1)) := evV_loop
theorem ic54_0_eq {σ : St} : evV prog ic54_0 σ = maskK (mask [0, 1, 12, 13] [] σ) (loopR [0, 1, 12, 13] [] (evV prog ic54_0_b) (evV prog ic54_0)) := evV_loop
theorem ic55_0_eq {σ : St} : evV prog ic55_0 σ = maskK (mask [1, 8, 9, 10] [] σ) (loopR [1, 8, 9, 10] [] (evV prog ic55_0_b) (evV prog ic55_0)) := evV_loop
theorem ic56_0_eq {σ : St} : evV prog ic56_0 σ = maskK (mask [1, 4, 19, 20] [100, 103] σ) (loopR [1, 4, 19, 20] [100, 103] (evV prog ic56_0_b) (evV prog ic56_0)) := evV_loop
theorem ic58_0_eq {σ : St} : evV prog ic58_0 σ = maskK (mask [1, 2, 8, 17, 18, 19] [] σ) (loopR [1, 2, 8, 17, 18, 19] [] (evV prog ic58_0_b) (evV prog ic58_0)) := evV_loop
theorem ic72_0_eq {σ : St} : evV prog ic72_0 σ = maskK (mask [1, 2, 6, 7] [100, 101, 102] σ) (loopR [1, 2, 6, 7] [100, 101, 102] (evV prog ic72_0_b) (evV prog ic72_0)) := evV_loop
theorem ic74_0_eq {σ : St} : evV prog ic74_0 σ = maskK (mask [1, 6, 7, 15, 16, 17] [] σ) (loopR [1, 6, 7, 15, 16, 17] [] (evV prog ic74_0_b) (evV prog ic74_0)) := evV_loop
theorem ic75_0_eq {σ : St} : evV prog ic75_0 σ = maskK (mask [136, 137, 138] [] σ) (loopR [136, 137, 138] [] (evV prog ic75_0_b) (evV prog ic75_0)) := evV_loop
theorem ic76_0_eq {σ : St} : evV prog ic76_0 σ = maskK (mask [2, 5, 21, 22, 23] [100, 101] σ) (loopR [2, 5, 21, 22, 23] [100, 101] (evV prog ic76_0_b) (evV prog ic76_0)) := evV_loop
theorem ic77_0_eq {σ : St} : evV prog ic77_0 σ = maskK (mask [1, 7, 8, 9] [] σ) (loopR [1, 7, 8, 9] [] (evV prog ic77_0_b) (evV prog ic77_0)) := evV_loop
theorem ic78_0_eq {σ : St} : evV prog ic78_0 σ = maskK (mask [2, 4, 9, 10, 11] [100] σ) (loopR [2, 4, 9, 10, 11] [100] (evV prog ic78_0_b) (evV prog ic78_0)) := evV_loop
theorem ic80_0_eq {σ : St} : evV prog ic80_0 σ = maskK (mask [2, 5, 6] [100] σ) (loopR [2, 5, 6] [100] (evV prog ic80_0_b) (evV prog ic80_0)) := evV_loop
theorem ic82_0_eq {σ : St} : evV prog ic82_0 σ = maskK (mask [1, 2, 3, 8] [100, 101] σ) (loopR [1, 2, 3, 8] [100, 101] (evV prog ic82_0_b) (evV prog ic82_0)) := evV_loop
theorem ic83_0_eq {σ : St} : evV prog ic83_0 σ = maskK (mask [0, 1, 12, 13] [] σ) (loopR [0, 1, 12, 13] [] (evV prog ic83_0_b) (evV prog ic83_0)) := evV_loop
theorem ic85_0_eq {σ : St} : evV prog ic85_0 σ = maskK (mask [2, 3, 5] [100, 101] σ) (loopR [2, 3, 5] [100, 101] (evV prog ic85_0_b) (evV prog ic85_0)) := evV_loop
theorem ic88_0_eq {σ : St} : evV prog ic88_0 σ = maskK (mask [0, 1, 7, 8] [] σ) (loopR [0, 1, 7, 8] [] (evV prog ic88_0_b) (evV prog ic88_0)) := evV_loop
theorem ic90_0_eq {σ : St} : evV prog ic90_0 σ = maskK (mask [0, 2, 5] [100] σ) (loopR [0, 2, 5] [100] (evV prog ic90_0_b) (evV prog ic90_0)) := evV_loop
theorem ic91_0_eq {σ : St} : evV prog ic91_0 σ = maskK (mask [0, 1, 7, 8] [] σ) (loopR [0, 1, 7, 8] [] (evV prog ic91_0_b) (evV prog ic91_0)) := evV_loop
theorem ic92_0_eq {σ : St} : evV prog ic92_0 σ = maskK (mask [0, 1, 7, 8] [] σ) (loopR [0, 1, 7, 8] [] (evV prog ic92_0_b) (evV prog ic92_0)) := evV_loop
theorem ic93_0_eq {σ : St} : evV prog ic93_0 σ = maskK (mask [0, 1, 7, 8] [] σ) (loopR [0, 1, 7, 8] [] (evV prog ic93_0_b) (evV prog ic93_0)) := evV_loop
theorem ic104_0_eq {σ : St} : evV prog ic104_0 σ = maskK (mask [0, 3, 8] [100, 101] σ) (loopR [0, 3, 8] [100, 101] (evV prog ic104_0_b) (evV prog ic104_0)) := evV_loop
theorem ic104_1_eq {σ : St} : evV prog ic104_1 σ = maskK (mask [3, 57, 58] [100] σ) (loopR [3, 57, 58] [100] (evV prog ic104_1_b) (evV prog ic104_1)) := evV_loop
theorem ic105_0_eq {σ : St} : evV prog ic105_0 σ = maskK (mask [0, 2, 3] [0, 101, 102, 105] σ) (loopR [0, 2, 3] [0, 101, 102, 105] (evV prog ic105_0_b) (evV prog ic105_0)) := evV_loop
theorem ic105_1_eq {σ : St} : evV prog ic105_1 σ = maskK (mask [2, 4, 32, 33, 34] [0, 101, 102, 103, 105] σ) (loopR [2, 4, 32, 33, 34] [0, 101, 102, 103, 105] (evV prog ic105_1_b) (evV prog ic105_1)) := evV_loop
theorem ic110_0_eq {σ : St} : evV prog ic110_0 σ = maskK (mask [0, 1, 7, 8] [] σ) (loopR [0, 1, 7, 8] [] (evV prog ic110_0_b) (evV prog ic110_0)) := evV_loop
theorem ic113_0_eq {σ : St} : evV prog ic113_0 σ = maskK (mask [0, 4, 5, 14, 15, 16, 28, 29, 30] [100] σ) (loopR [0, 4, 5, 14, 15, 16, 28, 29, 30] [100] (evV prog ic113_0_b) (evV prog ic113_0)) := evV_loop
theorem ic113_1_eq {σ : St} : evV prog ic113_1 σ = maskK (mask [0, 14, 15, 16] [] σ) (loopR [0, 14, 15, 16] [] (evV prog ic113_1_b) (evV prog ic113_1)) := evV_loop
theorem ic114_0_eq {σ : St} : evV prog ic114_0 σ = maskK (mask [1, 4, 14, 15, 16, 28, 29, 30] [100] σ) (loopR [1, 4, 14, 15, 16, 28, 29, 30] [100] (evV prog ic114_0_b) (evV prog ic114_0)) := evV_loop
theorem ic114_1_eq {σ : St} : evV prog ic114_1 σ = maskK (mask [1, 14, 15, 16] [100] σ) (loopR [1, 14, 15, 16] [100] (evV prog ic114_1_b) (evV prog ic114_1)) := evV_loop
theorem ic115_0_eq {σ : St} : evV prog ic115_0 σ = maskK (mask [1, 4, 5, 6, 7, 26, 27, 28, 41, 42, 43] [100, 101] σ) (loopR [1, 4, 5, 6, 7, 26, 27, 28, 41, 42, 43] [100, 101] (evV prog ic115_0_b) (evV prog ic115_0)) := evV_loop
theorem ic115_1_eq {σ : St} : evV prog ic115_1 σ = maskK (mask [1, 4, 5, 26, 27, 28] [100] σ) (loopR [1, 4, 5, 26, 27, 28] [100] (evV prog ic115_1_b) (evV prog ic115_1)) := evV_loop
theorem ic116_0_eq {σ : St} : evV prog ic116_0 σ = maskK (mask [1, 4, 5, 7, 15, 16, 17, 62, 63, 64] [100, 101] σ) (loopR [1, 4, 5, 7, 15, 16, 17, 62, 63, 64] [100, 101] (evV prog ic116_0_b) (evV prog ic116_0)) := evV_loop
theorem ic116_1_eq {σ : St} : evV prog ic116_1 σ = maskK (mask [1, 15, 16, 17] [100] σ) (loopR [1, 15, 16, 17] [100] (evV prog ic116_1_b) (evV prog ic116_1)) := evV_loop
theorem ic117_0_eq {σ : St} : evV prog ic117_0 σ = maskK (mask [0, 3, 6, 7, 8, 9, 18, 19, 20] [100, 102, 103] σ) (loopR [0, 3, 6, 7, 8, 9, 18, 19, 20] [100, 102, 103] (evV prog ic117_0_b) (evV prog ic117_0)) := evV_loop
theorem ic117_1_eq {σ : St} : evV prog ic117_1 σ = maskK (mask [0, 3, 6, 7, 8, 11, 18, 19, 20] [100, 102, 103] σ) (loopR [0, 3, 6, 7, 8, 11, 18, 19, 20] [100, 102, 103] (evV prog ic117_1_b) (evV prog ic117_1)) := evV_loop
theorem ic117_2_eq {σ : St} : evV prog ic117_2 σ = maskK (mask [0, 3, 6, 18, 19, 20] [100, 102] σ) (loopR [0, 3, 6, 18, 19, 20] [100, 102] (evV prog ic117_2_b) (evV prog ic117_2)) := evV_loop
theorem ic118_0_eq {σ : St} : evV prog ic118_0 σ = maskK (mask [1, 4, 36, 37, 38] [100] σ) (loopR [1, 4, 36, 37, 38] [100] (evV prog ic118_0_b) (evV prog ic118_0)) := evV_loop
theorem ic120_0_eq {σ : St} : evV prog ic120_0 σ = maskK (mask [0, 2, 4] [0, 100, 101] σ) (loopR [0, 2, 4] [0, 100, 101] (evV prog ic120_0_b) (evV prog ic120_0)) := evV_loop
theorem ic123_0_eq {σ : St} : evV prog ic123_0 σ = maskK (mask [2, 7, 8, 9, 12, 14, 28, 38, 39, 40, 47, 48, 49] [101, 102] σ) (loopR [2, 7, 8, 9, 12, 14, 28, 38, 39, 40, 47, 48, 49] [101, 102] (evV prog ic123_0_b) (evV prog ic123_0)) := evV_loop
theorem ic123_1_eq {σ : St} : evV prog ic123_1 σ = maskK (mask [2, 7, 8, 9, 12, 28, 38, 39, 40] [101, 102] σ) (loopR [2, 7, 8, 9, 12, 28, 38, 39, 40] [101, 102] (evV prog ic123_1_b) (evV prog ic123_1)) := evV_loop
theorem ic123_2_eq {σ : St} : evV prog ic123_2 σ = maskK (mask [2, 7, 8, 9, 28] [101, 102] σ) (loopR [2, 7, 8, 9, 28] [101, 102] (evV prog ic123_2_b) (evV prog ic123_2)) := evV_loop
theorem ic124_0_eq {σ : St} : evV prog ic124_0 σ = maskK (mask [3, 4, 13, 22, 23, 24] [100, 101] σ) (loopR [3, 4, 13, 22, 23, 24] [100, 101] (evV prog ic124_0_b) (evV prog ic124_0)) := evV_loop
theorem ic124_1_eq {σ : St} : evV prog ic124_1 σ = maskK (mask [3, 4, 13] [100, 101] σ) (loopR [3, 4, 13] [100, 101] (evV prog ic124_1_b) (evV prog ic124_1)) := evV_loop
theorem ic128_0_eq {σ : St} : evV prog ic128_0 σ = maskK (mask [0, 1, 12, 13] [] σ) (loopR [0, 1, 12, 13] [] (evV prog ic128_0_b) (evV prog ic128_0)) := evV_loop
theorem ic131_0_eq {σ : St} : evV prog ic131_0 σ = maskK (mask [0, 2, 3, 4] [0, 101, 102, 105] σ) (loopR [0, 2, 3, 4] [0, 101, 102, 105] (evV prog ic131_0_b) (evV prog ic131_0)) := evV_loop
theorem ic131_1_eq {σ : St} : evV prog ic131_1 σ = maskK (mask [2, 5, 34, 35, 36] [0, 101, 102, 103, 105] σ) (loopR [2, 5, 34, 35, 36] [0, 101, 102, 103, 105] (evV prog ic131_1_b) (evV prog ic131_1)) := evV_loop
theorem ic135_0_eq {σ : St} : evV prog ic135_0 σ = maskK (mask [1, 2, 7, 8, 9, 79, 80, 81] [100] σ) (loopR [1, 2, 7, 8, 9, 79, 80, 81] [100] (evV prog ic135_0_b) (evV prog ic135_0)) := evV_loop
theorem ic135_1_eq {σ : St} : evV prog ic135_1 σ = maskK (mask [1, 7, 8, 9, 134, 135, 136] [] σ) (loopR [1, 7, 8, 9, 134, 135, 136] [] (evV prog ic135_1_b) (evV prog ic135_1)) := evV_loop
theorem ic136_0_eq {σ : St} : evV prog ic136_0 σ = maskK (mask [1, 3, 10, 11, 12] [100] σ) (loopR [1, 3, 10, 11, 12] [100] (evV prog ic136_0_b) (evV prog ic136_0)) := evV_loop
theorem ic138_0_eq {σ : St} : evV prog ic138_0 σ = maskK (mask [0, 3] [] σ) (loopR [0, 3] [] (evV prog ic138_0_b) (evV prog ic138_0)) := evV_loop
theorem ic140_0_eq {σ : St} : evV prog ic140_0 σ = maskK (mask [0, 9, 10, 11] [] σ) (loopR [0, 9, 10, 11] [] (evV prog ic140_0_b) (evV prog ic140_0)) := evV_loop
theorem ic141_0_eq {σ : St} : evV prog ic141_0 σ = maskK (mask [1, 2, 10, 11, 12] [] σ) (loopR [1, 2, 10, 11, 12] [] (evV prog ic141_0_b) (evV prog ic141_0)) := evV_loop
theorem ic142_0_eq {σ : St} : evV prog ic142_0 σ = maskK (mask [0, 1, 7, 8] [] σ) (loopR [0, 1, 7, 8] [] (evV prog ic142_0_b) (evV prog ic142_0)) := evV_loop
theorem ic143_0_eq {σ : St} : evV prog ic143_0 σ = maskK (mask [1, 8, 9, 10] [] σ) (loopR [1, 8, 9, 10] [] (evV prog ic143_0_b) (evV prog ic143_0)) := evV_loop
theorem ic144_0_eq {σ : St} : evV prog ic144_0 σ = maskK (mask [0, 1, 5, 8, 9] [] σ) (loopR [0, 1, 5, 8, 9] [] (evV prog ic144_0_b) (evV prog ic144_0)) := evV_loop
theorem ic146_0_eq {σ : St} : evV prog ic146_0 σ = maskK (mask [0, 2, 4, 5] [0, 100, 101] σ) (loopR [0, 2, 4, 5] [0, 100, 101] (evV prog ic146_0_b) (evV prog ic146_0)) := evV_loop
theorem ic148_0_eq {σ : St} : evV prog ic148_0 σ = maskK (mask [1, 2, 23, 24, 25] [2] σ) (loopR [1, 2, 23, 24, 25] [2] (evV prog ic148_0_b) (evV prog ic148_0)) := evV_loop
theorem ic149_0_eq {σ : St} : evV prog ic149_0 σ = maskK (mask [9, 10, 11] [] σ) (loopR [9, 10, 11] [] (evV prog ic149_0_b) (evV prog ic149_0)) := evV_loop
theorem ic150_0_eq {σ : St} : evV prog ic150_0 σ = maskK (mask [1, 3, 10, 11, 12] [100] σ) (loopR [1, 3, 10, 11, 12] [100] (evV prog ic150_0_b) (evV prog ic150_0)) := evV_loop
theorem ic153_0_eq {σ : St} : evV prog ic153_0 σ = maskK (mask [1, 7, 18, 19, 20] [0] σ) (loopR [1, 7, 18, 19, 20] [0] (evV prog ic153_0_b) (evV prog ic153_0)) := evV_loop
theorem ic154_0_eq {σ : St} : evV prog ic154_0 σ = maskK (mask [1, 7, 8, 9] [] σ) (loopR [1, 7, 8, 9] [] (evV prog ic154_0_b) (evV prog ic154_0)) := evV_loop
theorem ic156_0_eq {σ : St} : evV prog ic156_0 σ = maskK (mask [0, 1, 7, 8] [] σ) (loopR [0, 1, 7, 8] [] (evV prog ic156_0_b) (evV prog ic156_0)) := evV_loop
theorem ic157_0_eq {σ : St} : evV prog ic157_0 σ = maskK (mask [0, 1, 7, 8] [] σ) (loopR [0, 1, 7, 8] [] (evV prog ic157_0_b) (evV prog ic157_0)) := evV_loop
theorem ic158_0_eq {σ : St} : evV prog ic158_0 σ = maskK (mask [0, 2, 3] [0, 100, 101] σ) (loopR [0, 2, 3] [0, 100, 101] (evV prog ic158_0_b) (evV prog ic158_0)) := evV_loop
theorem ic159_0_eq {σ : St} : evV prog ic159_0 σ = maskK (mask [0, 5, 6, 7] [] σ) (loopR [0, 5, 6, 7] [] (evV prog ic159_0_b) (evV prog ic159_0)) := evV_loop
theorem ic160_0_eq {σ : St} : evV prog ic160_0 σ = maskK (mask [6, 7, 8] [] σ) (loopR [6, 7, 8] [] (evV prog ic160_0_b) (evV prog ic160_0)) := evV_loop
theorem ic161_0_eq {σ : St} : evV prog ic161_0 σ = maskK (mask [2, 3, 8, 33, 34, 35] [100] σ) (loopR [2, 3, 8, 33, 34, 35] [100] (evV prog ic161_0_b) (evV prog ic161_0)) := evV_loop
theorem ic161_1_eq {σ : St} : evV prog ic161_1 σ = maskK (mask [1, 2, 11, 59, 60, 61] [] σ) (loopR [1, 2, 11, 59, 60, 61] [] (evV prog ic161_1_b) (evV prog ic161_1)) := evV_loop
theorem ic161_2_eq {σ : St} : evV prog ic161_2 σ = maskK (mask [1, 2, 14, 78, 79, 80] [] σ) (loopR [1, 2, 14, 78, 79, 80] [] (evV prog ic161_2_b) (evV prog ic161_2)) := evV_loop
theorem ic161_3_eq {σ : St} : evV prog ic161_3 σ = maskK (mask [3, 7, 17, 18, 19] [100] σ) (loopR [3, 7, 17, 18, 19] [100] (evV prog ic161_3_b) (evV prog ic161_3)) := evV_loop
theorem ic161_4_eq {σ : St} : evV prog ic161_4 σ = maskK (mask [18, 20, 21, 119, 120, 124, 125] [] σ) (loopR [18, 20, 21, 119, 120, 124, 125] [] (evV prog ic161_4_b) (evV prog ic161_4)) := evV_loop
theorem ic161_5_eq {σ : St} : evV prog ic161_5 σ = maskK (mask [18, 20, 119, 120] [] σ) (loopR [18, 20, 119, 120] [] (evV prog ic161_5_b) (evV prog ic161_5)) := evV_loop
theorem ic161_6_eq {σ : St} : evV prog ic161_6 σ = maskK (mask [3, 17, 18, 23, 24] [100] σ) (loopR [3, 17, 18, 23, 24] [100] (evV prog ic161_6_b) (evV prog ic161_6)) := evV_loop
theorem ic165_0_eq {σ : St} : evV prog ic165_0 σ = maskK (mask [0, 5, 6, 7, 8] [100] σ) (loopR [0, 5, 6, 7, 8] [100] (evV prog ic165_0_b) (evV prog ic165_0)) := evV_loop
theorem ic165_1_eq {σ : St} : evV prog ic165_1 σ = maskK (mask [6, 9] [100] σ) (loopR [6, 9] [100] (evV prog ic165_1_b) (evV prog ic165_1)) := evV_loop
theorem ic166_0_eq {σ : St} : evV prog ic166_0 σ = maskK (mask [12, 13, 14] [] σ) (loopR [12, 13, 14] [] (evV prog ic166_0_b) (evV prog ic166_0)) := evV_loop
theorem ic168_0_eq {σ : St} : evV prog ic168_0 σ = maskK (mask [0, 2, 4, 5] [0, 100, 101] σ) (loopR [0, 2, 4, 5] [0, 100, 101] (evV prog ic168_0_b) (evV prog ic168_0)) := evV_loop
theorem ic170_0_eq {σ : St} : evV prog ic170_0 σ = maskK (mask [1, 3, 34, 35, 36] [100] σ) (loopR [1, 3, 34, 35, 36] [100] (evV prog ic170_0_b) (evV prog ic170_0)) := evV_loop
theorem ic172_0_eq {σ : St} : evV prog ic172_0 σ = maskK (mask [0, 4, 6, 50, 51, 52] [0, 103, 104, 105, 106] σ) (loopR [0, 4, 6, 50, 51, 52] [0, 103, 104, 105, 106] (evV prog ic172_0_b) (evV prog ic172_0)) := evV_loop
theorem ic172_1_eq {σ : St} : evV prog ic172_1 σ = maskK (mask [0, 4, 9, 67, 68, 69] [0, 103, 104, 105, 108] σ) (loopR [0, 4, 9, 67, 68, 69] [0, 103, 104, 105, 108] (evV prog ic172_1_b) (evV prog ic172_1)) := evV_loop
theorem ic177_0_eq {σ : St} : evV prog ic177_0 σ = maskK (mask [0, 3, 9, 10] [100] σ) (loopR [0, 3, 9, 10] [100] (evV prog ic177_0_b) (evV prog ic177_0)) := evV_loop
theorem ic178_0_eq {σ : St} : evV prog ic178_0 σ = maskK (mask [1, 2, 7, 9, 14, 15, 16, 37, 38, 39] [100] σ) (loopR [1, 2, 7, 9, 14, 15, 16, 37, 38, 39] [100] (evV prog ic178_0_b) (evV prog ic178_0)) := evV_loop
theorem ic178_1_eq {σ : St} : evV prog ic178_1 σ = maskK (mask [1, 2, 7, 14, 15, 16] [] σ) (loopR [1, 2, 7, 14, 15, 16] [] (evV prog ic178_1_b) (evV prog ic178_1)) := evV_loop
theorem ic180_0_eq {σ : St} : evV prog ic180_0 σ = maskK (mask [3, 8, 9] [] σ) (loopR [3, 8, 9] [] (evV prog ic180_0_b) (evV prog ic180_0)) := evV_loop
theorem ic181_0_eq {σ : St} : evV prog ic181_0 σ = maskK (mask [0, 1, 5, 6, 13, 14, 18, 19] [] σ) (loopR [0, 1, 5, 6, 13, 14, 18, 19] [] (evV prog ic181_0_b) (evV prog ic181_0)) := evV_loop
theorem ic181_1_eq {σ : St} : evV prog ic181_1 σ = maskK (mask [0, 1, 5, 13, 14] [] σ) (loopR [0, 1, 5, 13, 14] [] (evV prog ic181_1_b) (evV prog ic181_1)) := evV_loop
theorem ic182_0_eq {σ : St} : evV prog ic182_0 σ = maskK (mask [0, 1, 6, 7] [] σ) (loopR [0, 1, 6, 7] [] (evV prog ic182_0_b) (evV prog ic182_0)) := evV_loop
theorem ic183_0_eq {σ : St} : evV prog ic183_0 σ = maskK (mask [0, 1, 6, 7] [] σ) (loopR [0, 1, 6, 7] [] (evV prog ic183_0_b) (evV prog ic183_0)) := evV_loop
theorem ic187_0_eq {σ : St} : evV prog ic187_0 σ = maskK (mask [0, 5, 6, 7] [] σ) (loopR [0, 5, 6, 7] [] (evV prog ic187_0_b) (evV prog ic187_0)) := evV_loop
theorem ic189_0_eq {σ : St} : evV prog ic189_0 σ = maskK (mask [0, 3, 4, 5, 11, 12] [0, 100, 101, 102] σ) (loopR [0, 3, 4, 5, 11, 12] [0, 100, 101, 102] (evV prog ic189_0_b) (evV prog ic189_0)) := evV_loop
theorem ic200_0_eq {σ : St} : evV prog ic200_0 σ = maskK (mask [0, 1, 2, 11, 12] [0] σ) (loopR [0, 1, 2, 11, 12] [0] (evV prog ic200_0_b) (evV prog ic200_0)) := evV_loop
theorem ic204_0_eq {σ : St} : evV prog ic204_0 σ = maskK (mask [1, 8] [100] σ) (loopR [1, 8] [100] (evV prog ic204_0_b) (evV prog ic204_0)) := evV_loop

end Go.Ab.Prog
