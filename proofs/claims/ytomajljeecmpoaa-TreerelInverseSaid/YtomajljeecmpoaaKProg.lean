/- The annotated copies of the functions, as a program of my own printed them (gen.py), and the evaluator's program. -/
import Derived.Test.YtomajljeecmpoaaK0

namespace Go.Ab.Prog
open Go.Ab
set_option maxRecDepth 100000


/-- corpora/corporalaw29.TreerelHeads -/
def ic3 : IC :=
  (.seq (.region [
    ⟨some 4, .mov (.c (.bool false)), none, [], []⟩] false)
  (.seq (.region [
    ⟨some 6, .mov (.t 0), none, [], []⟩,
    ⟨some 7, .call (some 100) 11 [.t 6], none, [100], []⟩,
    ⟨some 8, .call none 12 [.t 7, .c (.int .i64 7)], none, [100], []⟩,
    ⟨some 5, .alloc 101 [.nil, .nil, .nil, .nil, .nil, .nil, .nil], none, [101], []⟩,
    ⟨none, .store 7 (.t 5) (.t 8), none, [101], []⟩] false)
  (.seq (.region [
    ⟨some 9, .mov (.t 1), none, [], []⟩,
    ⟨some 10, .faddr 1 (.t 5), none, [], []⟩,
    ⟨some 11, .load 1 false (.t 10), none, [101], []⟩,
    ⟨some 12, .len false (.t 11), none, [], []⟩,
    ⟨some 13, .bin .add (.t 12) (.c (.int .i64 2)), none, [], []⟩,
    ⟨some 14, .call none 13 [.t 9, .t 13], none, [], []⟩,
    ⟨some 15, .bin .sub (.t 14) (.c (.int .i64 1)), none, [], []⟩,
    ⟨some 1, .mov (.t 15), none, [], []⟩] false)
  (.seq (.region [
    ⟨some 16, .load 7 true (.t 5), none, [101], []⟩,
    ⟨some 17, .mov (.t 1), none, [], []⟩,
    ⟨some 18, .call none 15 [.t 16, .t 17], none, [], [0, 1]⟩,
    ⟨some 19, .load 7 true (.t 5), none, [101], []⟩,
    ⟨some 20, .mov (.t 1), none, [], []⟩,
    ⟨some 21, .call none 16 [.t 19, .t 20], none, [], [0, 1, 2, 3, 4]⟩,
    ⟨some 22, .call none 14 [.t 18, .t 21], none, [], [0, 1, 2, 3, 4, 5]⟩,
    ⟨some 23, .mov (.t 22), none, [], [0, 1, 2, 3, 4, 5, 6]⟩,
    ⟨some 24, .load 7 true (.t 5), some (23, true), [101], [0, 1, 2, 3, 4, 5, 6, 7]⟩,
    ⟨some 25, .mov (.t 1), some (23, true), [], [0, 1, 2, 3, 4, 5, 6, 7]⟩,
    ⟨some 26, .call none 17 [.t 24, .t 25], some (23, true), [], [0, 1, 2, 3, 4, 5, 6, 7, 8, 9]⟩,
    ⟨some 27, .load 7 true (.t 5), some (23, true), [101], [0, 1, 2, 3, 4, 5, 6, 7]⟩,
    ⟨some 28, .mov (.t 1), some (23, true), [], [0, 1, 2, 3, 4, 5, 6, 7]⟩,
    ⟨some 29, .call none 18 [.t 27, .t 28], some (23, true), [], [0, 1, 2, 3, 4, 5, 6, 7, 8, 9, 10, 11, 12]⟩,
    ⟨some 30, .call none 14 [.t 26, .t 29], some (23, true), [], [0, 1, 2, 3, 4, 5, 6, 7, 8, 9, 10, 11, 12, 13]⟩,
    ⟨some 31, .pick (.t 23) (.t 30) (.c (.bool false)), none, [], [0, 1, 2, 3, 4, 5, 6, 7, 8, 9, 10, 11, 12, 13, 14]⟩,
    ⟨some 32, .mov (.t 31), none, [], [0, 1, 2, 3, 4, 5, 6, 7, 8, 9, 10, 11, 12, 13, 14, 15]⟩,
    ⟨some 33, .load 7 true (.t 5), some (32, true), [101], [0, 1, 2, 3, 4, 5, 6, 7, 8, 9, 10, 11, 12, 13, 14, 15, 16]⟩,
    ⟨some 34, .mov (.t 1), some (32, true), [], [0, 1, 2, 3, 4, 5, 6, 7, 8, 9, 10, 11, 12, 13, 14, 15, 16]⟩,
    ⟨some 35, .call none 19 [.t 33, .t 34], some (32, true), [], [0, 1, 2, 3, 4, 5, 6, 7, 8, 9, 10, 11, 12, 13, 14, 15, 16, 17, 18]⟩,
    ⟨some 36, .load 7 true (.t 5), some (32, true), [101], [0, 1, 2, 3, 4, 5, 6, 7, 8, 9, 10, 11, 12, 13, 14, 15, 16]⟩,
    ⟨some 37, .mov (.t 1), some (32, true), [], [0, 1, 2, 3, 4, 5, 6, 7, 8, 9, 10, 11, 12, 13, 14, 15, 16]⟩,
    ⟨some 38, .call none 20 [.t 36, .t 37], some (32, true), [], [0, 1, 2, 3, 4, 5, 6, 7, 8, 9, 10, 11, 12, 13, 14, 15, 16, 17, 18, 19, 20, 21]⟩,
    ⟨some 39, .call none 14 [.t 35, .t 38], some (32, true), [], [0, 1, 2, 3, 4, 5, 6, 7, 8, 9, 10, 11, 12, 13, 14, 15, 16, 17, 18, 19, 20, 21, 22]⟩,
    ⟨some 40, .pick (.t 32) (.t 39) (.c (.bool false)), none, [], [0, 1, 2, 3, 4, 5, 6, 7, 8, 9, 10, 11, 12, 13, 14, 15, 16, 17, 18, 19, 20, 21, 22, 23]⟩,
    ⟨some 41, .mov (.t 40), none, [], [0, 1, 2, 3, 4, 5, 6, 7, 8, 9, 10, 11, 12, 13, 14, 15, 16, 17, 18, 19, 20, 21, 22, 23, 24]⟩,
    ⟨some 42, .call none 21 [], some (41, true), [], [0, 1, 2, 3, 4, 5, 6, 7, 8, 9, 10, 11, 12, 13, 14, 15, 16, 17, 18, 19, 20, 21, 22, 23, 24, 25]⟩,
    ⟨some 43, .pick (.t 41) (.t 42) (.c (.bool false)), none, [], [0, 1, 2, 3, 4, 5, 6, 7, 8, 9, 10, 11, 12, 13, 14, 15, 16, 17, 18, 19, 20, 21, 22, 23, 24, 25, 26]⟩,
    ⟨some 4, .mov (.t 43), none, [], [0, 1, 2, 3, 4, 5, 6, 7, 8, 9, 10, 11, 12, 13, 14, 15, 16, 17, 18, 19, 20, 21, 22, 23, 24, 25, 26, 27]⟩] true)
  (.gmask [4] [] .ret)))))
def F3 : IFunc := ⟨2, 44, [.tmp 4], ic3⟩

def ic4_0_b : IC :=
  (.seq (.region [
    ⟨some 72, .bin .lss (.t 71) (.t 70), none, [], []⟩] false)
  (.seq (.cond (.t 72) .skip
  (.gmask [1, 5, 6, 7, 8, 33, 34] [101, 102] (.exit 2)))
  (.seq (.block 3 (.seq (.region [
    ⟨some 73, .iaddr 1 (.t 69) (.t 71), none, [], []⟩,
    ⟨some 74, .load 1 false (.t 73), none, [], []⟩,
    ⟨some 13, .mov (.t 74), none, [], []⟩] false)
  (.region [
    ⟨some 75, .mov (.t 7), none, [], []⟩,
    ⟨some 76, .mov (.t 13), none, [], []⟩,
    ⟨none, .mapSet (.t 75) (.t 76) (.c (.bool true)), none, [102], []⟩] false)))
  (.region [
    ⟨some 77, .bin .add (.t 71) (.c (.int .i64 1)), none, [], []⟩,
    ⟨some 71, .mov (.t 77), none, [], []⟩] false))))
def ic4_0 : IC := .loop [1, 5, 6, 7, 8, 33, 34, 69, 70, 71] [101, 102] ic4_0_b
def ic4_1_b : IC :=
  (.seq (.region [
    ⟨some 35, .bin .lss (.t 34) (.t 33), none, [], []⟩] false)
  (.seq (.cond (.t 35) .skip
  (.gmask [1, 5, 6, 7, 8] [101, 102] (.exit 0)))
  (.seq (.block 1 (.seq (.region [
    ⟨some 36, .mov (.t 34), none, [], []⟩,
    ⟨some 9, .mov (.t 36), none, [], []⟩] false)
  (.seq (.region [
    ⟨some 37, .load 7 true (.t 5), none, [101], []⟩,
    ⟨some 38, .mov (.t 9), none, [], []⟩,
    ⟨some 39, .call none 15 [.t 37, .t 38], none, [], []⟩,
    ⟨some 10, .mov (.t 39), none, [], []⟩] false)
  (.seq (.region [
    ⟨some 40, .mov (.t 10), none, [], []⟩,
    ⟨some 41, .len false (.t 40), none, [], []⟩,
    ⟨some 42, .bin .gtr (.t 41) (.c (.int .i64 0)), none, [], []⟩,
    ⟨some 43, .mov (.t 42), none, [], []⟩,
    ⟨some 44, .mov (.t 10), some (43, true), [], []⟩,
    ⟨some 45, .iaddr 1 (.t 44) (.c (.int .i64 0)), some (43, true), [], []⟩,
    ⟨some 46, .load 1 false (.t 45), some (43, true), [], []⟩,
    ⟨some 47, .mov (.t 1), some (43, true), [], []⟩,
    ⟨some 48, .bin .eql (.t 46) (.t 47), some (43, true), [], []⟩,
    ⟨some 49, .pick (.t 43) (.t 48) (.c (.bool false)), none, [], []⟩,
    ⟨some 11, .mov (.t 49), none, [], []⟩] false)
  (.seq (.seq (.region [
    ⟨some 50, .mov (.t 11), none, [], []⟩,
    ⟨some 51, .mov (.t 8), none, [], []⟩,
    ⟨some 52, .mov (.t 6), none, [], []⟩,
    ⟨some 53, .len false (.t 52), none, [], []⟩,
    ⟨some 54, .bin .lss (.t 51) (.t 53), none, [], []⟩,
    ⟨some 55, .mov (.t 54), none, [], []⟩,
    ⟨some 56, .mov (.t 6), some (55, true), [], []⟩,
    ⟨some 57, .mov (.t 8), some (55, true), [], []⟩,
    ⟨some 58, .iaddr 1 (.t 56) (.t 57), some (55, true), [], []⟩,
    ⟨some 59, .load 1 false (.t 58), some (55, true), [], []⟩,
    ⟨some 60, .mov (.t 9), some (55, true), [], []⟩,
    ⟨some 61, .bin .eql (.t 59) (.t 60), some (55, true), [], []⟩,
    ⟨some 62, .pick (.t 55) (.t 61) (.c (.bool false)), none, [], []⟩,
    ⟨some 63, .eqB true (.t 50) (.t 62), none, [], []⟩] false)
  (.cond (.t 63) (.seq (.region [
    ⟨some 4, .mov (.c (.bool false)), none, [], []⟩] false)
  (.gmask [4] [] .ret))
  .skip))
  (.seq (.region [
    ⟨some 64, .mov (.t 11), none, [], []⟩] false)
  (.gpost [1, 5, 6, 7, 8, 33, 34] [101, 102] (.cond (.t 64) (.seq (.region [
    ⟨some 65, .mov (.t 8), none, [], []⟩,
    ⟨some 66, .bin .add (.t 65) (.c (.int .i64 1)), none, [], []⟩,
    ⟨some 8, .mov (.t 66), none, [], []⟩] false)
  (.seq (.region [
    ⟨some 67, .load 7 true (.t 5), none, [101], []⟩,
    ⟨some 68, .mov (.t 9), none, [], []⟩,
    ⟨some 69, .call none 19 [.t 67, .t 68], none, [], []⟩,
    ⟨some 70, .len false (.t 69), none, [], []⟩,
    ⟨some 71, .mov (.c (.int .i64 0)), none, [], []⟩] false)
  (.block 2 (.gmask [1, 5, 6, 7, 8, 33, 34, 69, 70, 71] [101, 102] ic4_0))))
  .skip))))))))
  (.region [
    ⟨some 78, .bin .add (.t 34) (.c (.int .i64 1)), none, [], []⟩,
    ⟨some 34, .mov (.t 78), none, [], []⟩] false))))
def ic4_1 : IC := .loop [1, 5, 6, 7, 8, 33, 34] [101, 102] ic4_1_b
def ic4_2_b : IC :=
  (.seq (.region [
    ⟨some 85, .bin .lss (.t 84) (.t 83), none, [], []⟩] false)
  (.seq (.cond (.t 85) .skip
  (.gmask [6, 7, 8, 14] [102] (.exit 4)))
  (.seq (.block 5 (.seq (.region [
    ⟨some 86, .iaddr 1 (.t 82) (.t 84), none, [], []⟩,
    ⟨some 87, .load 1 false (.t 86), none, [], []⟩,
    ⟨some 16, .mov (.t 87), none, [], []⟩] false)
  (.seq (.region [
    ⟨some 88, .mov (.t 7), none, [], []⟩,
    ⟨some 89, .mov (.t 16), none, [], []⟩,
    ⟨some 90, .mapGet (.t 88) (.t 89), none, [102], []⟩,
    ⟨some 91, .un .not (.t 90), none, [], []⟩] false)
  (.cond (.t 91) (.seq (.region [
    ⟨some 4, .mov (.c (.bool false)), none, [], []⟩] false)
  (.gmask [4] [] .ret))
  .skip))))
  (.region [
    ⟨some 92, .bin .add (.t 84) (.c (.int .i64 1)), none, [], []⟩,
    ⟨some 84, .mov (.t 92), none, [], []⟩] false))))
def ic4_2 : IC := .loop [6, 7, 8, 14, 82, 83, 84] [102] ic4_2_b
/-- corpora/corporalaw29.TreerelInverse -/
def ic4 : IC :=
  (.seq (.region [
    ⟨some 4, .mov (.c (.bool false)), none, [], []⟩] false)
  (.seq (.region [
    ⟨some 17, .mov (.t 0), none, [], []⟩,
    ⟨some 18, .call (some 100) 11 [.t 17], none, [100], []⟩,
    ⟨some 19, .call none 12 [.t 18, .c (.int .i64 7)], none, [100], []⟩,
    ⟨some 5, .alloc 101 [.nil, .nil, .nil, .nil, .nil, .nil, .nil], none, [101], []⟩,
    ⟨none, .store 7 (.t 5) (.t 19), none, [101], []⟩] false)
  (.seq (.region [
    ⟨some 20, .mov (.t 1), none, [], []⟩,
    ⟨some 21, .faddr 1 (.t 5), none, [], []⟩,
    ⟨some 22, .load 1 false (.t 21), none, [101], []⟩,
    ⟨some 23, .len false (.t 22), none, [], []⟩,
    ⟨some 24, .call none 13 [.t 20, .t 23], none, [], []⟩,
    ⟨some 1, .mov (.t 24), none, [], []⟩] false)
  (.seq (.region [
    ⟨some 25, .load 7 true (.t 5), none, [101], []⟩,
    ⟨some 26, .mov (.t 1), none, [], []⟩,
    ⟨some 27, .call none 17 [.t 25, .t 26], none, [], []⟩,
    ⟨some 6, .mov (.t 27), none, [], []⟩] false)
  (.seq (.region [
    ⟨some 28, .mkMap 102, none, [102], []⟩,
    ⟨some 29, .mov (.t 1), none, [], []⟩,
    ⟨none, .mapSet (.t 28) (.t 29) (.c (.bool true)), none, [102], []⟩,
    ⟨some 30, .mov (.t 28), none, [], []⟩,
    ⟨some 7, .mov (.t 30), none, [], []⟩] false)
  (.seq (.region [
    ⟨some 8, .mov (.c (.int .i64 0)), none, [], []⟩] false)
  (.seq (.seq (.region [
    ⟨some 31, .faddr 1 (.t 5), none, [], []⟩,
    ⟨some 32, .load 1 false (.t 31), none, [101], []⟩,
    ⟨some 33, .len false (.t 32), none, [], []⟩,
    ⟨some 34, .mov (.c (.int .i64 0)), none, [], []⟩] false)
  (.block 0 (.gmask [1, 5, 6, 7, 8, 33, 34] [101, 102] ic4_1)))
  (.seq (.region [
    ⟨some 79, .load 7 true (.t 5), none, [101], []⟩,
    ⟨some 80, .mov (.t 1), none, [], []⟩,
    ⟨some 81, .call none 19 [.t 79, .t 80], none, [], []⟩,
    ⟨some 14, .mov (.t 81), none, [], []⟩] false)
  (.seq (.seq (.region [
    ⟨some 82, .mov (.t 14), none, [], []⟩,
    ⟨some 83, .len false (.t 82), none, [], []⟩,
    ⟨some 84, .mov (.c (.int .i64 0)), none, [], []⟩] false)
  (.block 4 (.gmask [6, 7, 8, 14, 82, 83, 84] [102] ic4_2)))
  (.seq (.region [
    ⟨some 93, .mov (.t 8), none, [], []⟩,
    ⟨some 94, .mov (.t 6), none, [], []⟩,
    ⟨some 95, .len false (.t 94), none, [], []⟩,
    ⟨some 96, .bin .eql (.t 93) (.t 95), none, [], []⟩,
    ⟨some 97, .mov (.t 96), none, [], []⟩,
    ⟨some 98, .mov (.t 14), some (97, true), [], []⟩,
    ⟨some 99, .len false (.t 98), some (97, true), [], []⟩,
    ⟨some 100, .mov (.t 7), some (97, true), [], []⟩,
    ⟨some 101, .mapLen (.t 100), some (97, true), [102], []⟩,
    ⟨some 102, .bin .eql (.t 99) (.t 101), some (97, true), [], []⟩,
    ⟨some 103, .pick (.t 97) (.t 102) (.c (.bool false)), none, [], []⟩,
    ⟨some 104, .mov (.t 103), none, [], []⟩,
    ⟨some 105, .call none 21 [], some (104, true), [], []⟩,
    ⟨some 106, .pick (.t 104) (.t 105) (.c (.bool false)), none, [], []⟩,
    ⟨some 4, .mov (.t 106), none, [], []⟩] false)
  (.gmask [4] [] .ret)))))))))))
def F4 : IFunc := ⟨2, 107, [.tmp 4], ic4⟩

def ic5_0_b : IC :=
  (.seq (.region [
    ⟨some 23, .bin .lss (.t 22) (.t 21), none, [], []⟩] false)
  (.seq (.cond (.t 23) .skip
  (.gmask [3, 4, 5] [101] (.exit 2)))
  (.seq (.block 3 (.seq (.region [
    ⟨some 24, .mov (.t 22), none, [], []⟩,
    ⟨some 25, .iaddr 1 (.t 20) (.t 22), none, [], []⟩,
    ⟨some 26, .load 1 false (.t 25), none, [], []⟩,
    ⟨some 6, .mov (.t 24), none, [], []⟩,
    ⟨some 7, .mov (.t 26), none, [], []⟩] false)
  (.seq (.region [
    ⟨some 27, .mov (.t 4), none, [], []⟩,
    ⟨some 28, .bin .add (.t 27) (.c (.int .i64 1)), none, [], []⟩,
    ⟨some 4, .mov (.t 28), none, [], []⟩] false)
  (.seq (.region [
    ⟨some 29, .mov (.t 7), none, [], []⟩,
    ⟨some 30, .bin .lss (.t 29) (.c (.int .i64 0)), none, [], []⟩,
    ⟨some 31, .mov (.t 30), none, [], []⟩,
    ⟨some 32, .mov (.t 7), some (31, false), [], []⟩,
    ⟨some 33, .faddr 4 (.t 3), some (31, false), [], []⟩,
    ⟨some 34, .load 1 false (.t 33), some (31, false), [101], []⟩,
    ⟨some 35, .len false (.t 34), some (31, false), [], []⟩,
    ⟨some 36, .bin .geq (.t 32) (.t 35), some (31, false), [], []⟩,
    ⟨some 37, .pick (.t 31) (.c (.bool true)) (.t 36), none, [], []⟩,
    ⟨some 38, .mov (.t 37), none, [], []⟩,
    ⟨some 39, .faddr 4 (.t 3), some (38, false), [], []⟩,
    ⟨some 40, .load 1 false (.t 39), some (38, false), [101], []⟩,
    ⟨some 41, .mov (.t 7), some (38, false), [], []⟩,
    ⟨some 42, .iaddr 4 (.t 40) (.t 41), some (38, false), [], []⟩,
    ⟨some 43, .faddr 3 (.t 42), some (38, false), [], []⟩,
    ⟨some 44, .load 1 false (.t 43), some (38, false), [], []⟩,
    ⟨some 45, .mov (.t 5), some (38, false), [], []⟩,
    ⟨some 46, .bin .neq (.t 44) (.t 45), some (38, false), [], []⟩,
    ⟨some 47, .pick (.t 38) (.c (.bool true)) (.t 46), none, [], []⟩,
    ⟨some 48, .mov (.t 47), none, [], []⟩,
    ⟨some 49, .mov (.t 6), some (48, false), [], []⟩,
    ⟨some 50, .bin .gtr (.t 49) (.c (.int .i64 1000)), some (48, false), [], []⟩,
    ⟨some 51, .pick (.t 48) (.c (.bool true)) (.t 50), none, [], []⟩] false)
  (.cond (.t 51) (.seq (.region [
    ⟨some 2, .mov (.c (.bool false)), none, [], []⟩] false)
  (.gmask [2] [] .ret))
  .skip)))))
  (.region [
    ⟨some 52, .bin .add (.t 22) (.c (.int .i64 1)), none, [], []⟩,
    ⟨some 22, .mov (.t 52), none, [], []⟩] false))))
def ic5_0 : IC := .loop [3, 4, 5, 20, 21, 22] [101] ic5_0_b
def ic5_1_b : IC :=
  (.seq (.seq (.region [
    ⟨some 11, .mov (.t 5), none, [], []⟩,
    ⟨some 12, .faddr 4 (.t 3), none, [], []⟩,
    ⟨some 13, .load 1 false (.t 12), none, [101], []⟩,
    ⟨some 14, .len false (.t 13), none, [], []⟩,
    ⟨some 15, .bin .lss (.t 11) (.t 14), none, [], []⟩] false)
  (.cond (.t 15) .skip
  (.gmask [3, 4] [101] (.exit 0))))
  (.seq (.block 1 (.seq (.region [
    ⟨some 18, .load 7 true (.t 3), none, [101], []⟩,
    ⟨some 19, .mov (.t 5), none, [], []⟩,
    ⟨some 20, .call none 22 [.t 18, .t 19], none, [], []⟩,
    ⟨some 21, .len false (.t 20), none, [], []⟩,
    ⟨some 22, .mov (.c (.int .i64 0)), none, [], []⟩] false)
  (.block 2 (.gmask [3, 4, 5, 20, 21, 22] [101] ic5_0))))
  (.region [
    ⟨some 16, .mov (.t 5), none, [], []⟩,
    ⟨some 17, .bin .add (.t 16) (.c (.int .i64 1)), none, [], []⟩,
    ⟨some 5, .mov (.t 17), none, [], []⟩] false)))
def ic5_1 : IC := .loop [3, 4, 5] [101] ic5_1_b
/-- corpora/corporalaw29.TreerelParts -/
def ic5 : IC :=
  (.seq (.region [
    ⟨some 2, .mov (.c (.bool false)), none, [], []⟩] false)
  (.seq (.region [
    ⟨some 8, .mov (.t 0), none, [], []⟩,
    ⟨some 9, .call (some 100) 11 [.t 8], none, [100], []⟩,
    ⟨some 10, .call none 12 [.t 9, .c (.int .i64 7)], none, [100], []⟩,
    ⟨some 3, .alloc 101 [.nil, .nil, .nil, .nil, .nil, .nil, .nil], none, [101], []⟩,
    ⟨none, .store 7 (.t 3) (.t 10), none, [101], []⟩] false)
  (.seq (.region [
    ⟨some 4, .mov (.c (.int .i64 0)), none, [], []⟩] false)
  (.seq (.seq (.region [
    ⟨some 5, .mov (.c (.int .i64 (-1))), none, [], []⟩] false)
  (.block 0 (.gmask [3, 4, 5] [101] ic5_1)))
  (.seq (.region [
    ⟨some 53, .mov (.t 4), none, [], []⟩,
    ⟨some 54, .faddr 4 (.t 3), none, [], []⟩,
    ⟨some 55, .load 1 false (.t 54), none, [101], []⟩,
    ⟨some 56, .len false (.t 55), none, [], []⟩,
    ⟨some 57, .bin .eql (.t 53) (.t 56), none, [], []⟩,
    ⟨some 58, .mov (.t 57), none, [], []⟩,
    ⟨some 59, .call none 21 [], some (58, true), [], []⟩,
    ⟨some 60, .pick (.t 58) (.t 59) (.c (.bool false)), none, [], []⟩,
    ⟨some 2, .mov (.t 60), none, [], []⟩] false)
  (.gmask [2] [] .ret))))))
def F5 : IFunc := ⟨1, 61, [.tmp 2], ic5⟩

/-- corpora/corporalaw29.TreerelWays -/
def ic6 : IC :=
  (.seq (.region [
    ⟨some 6, .mov (.c (.bool false)), none, [], []⟩] false)
  (.seq (.region [
    ⟨some 12, .mov (.t 0), none, [], []⟩,
    ⟨some 13, .call (some 100) 11 [.t 12], none, [100], []⟩,
    ⟨some 14, .call none 12 [.t 13, .c (.int .i64 7)], none, [100], []⟩,
    ⟨some 7, .alloc 101 [.nil, .nil, .nil, .nil, .nil, .nil, .nil], none, [101], []⟩,
    ⟨none, .store 7 (.t 7) (.t 14), none, [101], []⟩] false)
  (.seq (.region [
    ⟨some 15, .mov (.t 1), none, [], []⟩,
    ⟨some 16, .faddr 1 (.t 7), none, [], []⟩,
    ⟨some 17, .load 1 false (.t 16), none, [101], [1]⟩,
    ⟨some 18, .len false (.t 17), none, [], [1, 2]⟩,
    ⟨some 19, .bin .add (.t 18) (.c (.int .i64 2)), none, [], [1, 2, 3]⟩,
    ⟨some 20, .call none 13 [.t 15, .t 19], none, [], [0, 1, 2, 3, 4]⟩,
    ⟨some 21, .bin .sub (.t 20) (.c (.int .i64 1)), none, [], [0, 1, 2, 3, 4, 5]⟩,
    ⟨some 22, .mov (.t 2), none, [], []⟩,
    ⟨some 23, .faddr 1 (.t 7), none, [], []⟩,
    ⟨some 24, .load 1 false (.t 23), none, [101], [8]⟩,
    ⟨some 25, .len false (.t 24), none, [], [8, 9]⟩,
    ⟨some 26, .bin .add (.t 25) (.c (.int .i64 2)), none, [], [8, 9, 10]⟩,
    ⟨some 27, .call none 13 [.t 22, .t 26], none, [], [0, 1, 2, 3, 4, 5, 7, 8, 9, 10, 11]⟩,
    ⟨some 28, .bin .sub (.t 27) (.c (.int .i64 1)), none, [], [0, 1, 2, 3, 4, 5, 7, 8, 9, 10, 11, 12]⟩,
    ⟨some 1, .mov (.t 21), none, [], [0, 1, 2, 3, 4, 5, 6, 7, 8, 9, 10, 11, 12]⟩,
    ⟨some 2, .mov (.t 28), none, [], [0, 1, 2, 3, 4, 5, 6, 7, 8, 9, 10, 11, 12, 13, 14]⟩] true)
  (.seq (.region [
    ⟨some 30, .load 7 true (.t 7), none, [101], []⟩,
    ⟨some 31, .mov (.t 1), none, [], []⟩,
    ⟨some 32, .mov (.t 2), none, [], []⟩,
    ⟨some 33, .call none 23 [.t 30, .t 31, .t 32], none, [], []⟩,
    ⟨some 29, .mov (.t 33), none, [], []⟩,
    ⟨some 34, .extract (.t 29) 0, none, [], []⟩,
    ⟨some 35, .extract (.t 29) 1, none, [], []⟩,
    ⟨some 8, .mov (.t 34), none, [], []⟩,
    ⟨some 9, .mov (.t 35), none, [], []⟩] false)
  (.seq (.region [
    ⟨some 37, .load 7 true (.t 7), none, [101], []⟩,
    ⟨some 38, .mov (.t 1), none, [], []⟩,
    ⟨some 39, .mov (.t 2), none, [], []⟩,
    ⟨some 40, .call none 24 [.t 37, .t 38, .t 39], none, [], []⟩,
    ⟨some 36, .mov (.t 40), none, [], []⟩,
    ⟨some 41, .extract (.t 36) 0, none, [], []⟩,
    ⟨some 42, .extract (.t 36) 1, none, [], []⟩,
    ⟨some 10, .mov (.t 41), none, [], []⟩,
    ⟨some 11, .mov (.t 42), none, [], []⟩] false)
  (.seq (.region [
    ⟨some 43, .mov (.t 9), none, [], []⟩,
    ⟨some 44, .mov (.t 11), none, [], []⟩,
    ⟨some 45, .eqB false (.t 43) (.t 44), none, [], [0, 1]⟩,
    ⟨some 46, .mov (.t 45), none, [], [0, 1, 2]⟩,
    ⟨some 47, .mov (.t 8), some (46, true), [], [0, 1, 2, 3]⟩,
    ⟨some 48, .mov (.t 10), some (46, true), [], [0, 1, 2, 3]⟩,
    ⟨some 49, .call none 25 [.t 47, .t 48], some (46, true), [], [0, 1, 2, 3, 4, 5]⟩,
    ⟨some 50, .pick (.t 46) (.t 49) (.c (.bool false)), none, [], [0, 1, 2, 3, 4, 5, 6]⟩,
    ⟨some 51, .mov (.t 50), none, [], [0, 1, 2, 3, 4, 5, 6, 7]⟩,
    ⟨some 52, .load 7 true (.t 7), some (51, true), [101], [0, 1, 2, 3, 4, 5, 6, 7, 8]⟩,
    ⟨some 53, .mov (.t 1), some (51, true), [], [0, 1, 2, 3, 4, 5, 6, 7, 8]⟩,
    ⟨some 54, .mov (.t 2), some (51, true), [], [0, 1, 2, 3, 4, 5, 6, 7, 8]⟩,
    ⟨some 55, .call none 26 [.t 52, .t 53, .t 54], some (51, true), [], [0, 1, 2, 3, 4, 5, 6, 7, 8, 9, 10, 11]⟩,
    ⟨some 56, .load 7 true (.t 7), some (51, true), [101], [0, 1, 2, 3, 4, 5, 6, 7, 8]⟩,
    ⟨some 57, .mov (.t 1), some (51, true), [], [0, 1, 2, 3, 4, 5, 6, 7, 8]⟩,
    ⟨some 58, .mov (.t 2), some (51, true), [], [0, 1, 2, 3, 4, 5, 6, 7, 8]⟩,
    ⟨some 59, .call none 27 [.t 56, .t 57, .t 58], some (51, true), [], [0, 1, 2, 3, 4, 5, 6, 7, 8, 9, 10, 11, 12, 13, 14, 15]⟩,
    ⟨some 60, .bin .eql (.t 55) (.t 59), some (51, true), [], [0, 1, 2, 3, 4, 5, 6, 7, 8, 9, 10, 11, 12, 13, 14, 15, 16]⟩,
    ⟨some 61, .pick (.t 51) (.t 60) (.c (.bool false)), none, [], [0, 1, 2, 3, 4, 5, 6, 7, 8, 9, 10, 11, 12, 13, 14, 15, 16, 17]⟩,
    ⟨some 62, .mov (.t 61), none, [], [0, 1, 2, 3, 4, 5, 6, 7, 8, 9, 10, 11, 12, 13, 14, 15, 16, 17, 18]⟩,
    ⟨some 63, .call none 21 [], some (62, true), [], [0, 1, 2, 3, 4, 5, 6, 7, 8, 9, 10, 11, 12, 13, 14, 15, 16, 17, 18, 19]⟩,
    ⟨some 64, .pick (.t 62) (.t 63) (.c (.bool false)), none, [], [0, 1, 2, 3, 4, 5, 6, 7, 8, 9, 10, 11, 12, 13, 14, 15, 16, 17, 18, 19, 20]⟩,
    ⟨some 6, .mov (.t 64), none, [], [0, 1, 2, 3, 4, 5, 6, 7, 8, 9, 10, 11, 12, 13, 14, 15, 16, 17, 18, 19, 20, 21]⟩] true)
  (.gmask [6] [] .ret)))))))
def F6 : IFunc := ⟨3, 65, [.tmp 6], ic6⟩

/-- corpora/corporalaw29.TreerelRoutes -/
def ic7 : IC :=
  (.seq (.region [
    ⟨some 6, .mov (.c (.bool false)), none, [], []⟩] false)
  (.seq (.region [
    ⟨some 15, .mov (.t 0), none, [], []⟩,
    ⟨some 16, .call (some 102) 11 [.t 15], none, [102], []⟩,
    ⟨some 17, .call none 12 [.t 16, .c (.int .i64 7)], none, [102], []⟩,
    ⟨some 7, .alloc 103 [.nil, .nil, .nil, .nil, .nil, .nil, .nil], none, [103], []⟩,
    ⟨none, .store 7 (.t 7) (.t 17), none, [103], []⟩] false)
  (.seq (.region [
    ⟨some 18, .mov (.t 1), none, [], []⟩,
    ⟨some 19, .faddr 1 (.t 7), none, [], []⟩,
    ⟨some 20, .load 1 false (.t 19), none, [103], []⟩,
    ⟨some 21, .len false (.t 20), none, [], []⟩,
    ⟨some 22, .call none 13 [.t 18, .t 21], none, [], []⟩,
    ⟨some 1, .mov (.t 22), none, [], []⟩] false)
  (.seq (.region [
    ⟨some 23, .mov (.t 1), none, [], []⟩,
    ⟨some 24, .buildSl (some 100) 1 (.int .i64 0) 1 [(0, .t 23)], none, [100], []⟩,
    ⟨some 25, .load 7 true (.t 7), none, [103], []⟩,
    ⟨some 26, .mov (.t 1), none, [], []⟩,
    ⟨some 27, .call none 15 [.t 25, .t 26], none, [], []⟩,
    ⟨some 28, .app none 1 8 (.t 24) (.t 27), none, [100], []⟩,
    ⟨some 8, .movp (.t 28), none, [100], []⟩] false)
  (.seq (.region [
    ⟨some 29, .mov (.t 2), none, [], []⟩,
    ⟨some 30, .mov (.t 8), none, [], []⟩,
    ⟨some 31, .len false (.t 30), none, [], []⟩,
    ⟨some 32, .call none 13 [.t 29, .t 31], none, [], []⟩,
    ⟨some 2, .mov (.t 32), none, [], []⟩] false)
  (.seq (.region [
    ⟨some 34, .load 7 true (.t 7), none, [103], []⟩,
    ⟨some 35, .mov (.t 1), none, [], []⟩,
    ⟨some 36, .mov (.t 8), none, [], []⟩,
    ⟨some 37, .mov (.t 2), none, [], []⟩,
    ⟨some 38, .iaddr 1 (.t 36) (.t 37), none, [], [2, 3]⟩,
    ⟨some 39, .load 1 false (.t 38), none, [], [2, 3, 4]⟩,
    ⟨some 40, .call none 23 [.t 34, .t 35, .t 39], none, [], [0, 1, 2, 3, 4, 5]⟩,
    ⟨some 33, .mov (.t 40), none, [], [0, 1, 2, 3, 4, 5, 6]⟩,
    ⟨some 41, .extract (.t 33) 0, none, [], [0, 1, 2, 3, 4, 5, 6, 7]⟩,
    ⟨some 42, .extract (.t 33) 1, none, [], [0, 1, 2, 3, 4, 5, 6, 7]⟩,
    ⟨some 9, .mov (.t 41), none, [], [0, 1, 2, 3, 4, 5, 6, 7, 8]⟩,
    ⟨some 10, .mov (.t 42), none, [], [0, 1, 2, 3, 4, 5, 6, 7, 8, 9, 10]⟩] true)
  (.seq (.region [
    ⟨some 44, .load 7 true (.t 7), none, [103], []⟩,
    ⟨some 45, .mov (.t 8), none, [], []⟩,
    ⟨some 46, .mov (.t 2), none, [], []⟩,
    ⟨some 47, .iaddr 1 (.t 45) (.t 46), none, [], [1, 2]⟩,
    ⟨some 48, .load 1 false (.t 47), none, [], [1, 2, 3]⟩,
    ⟨some 49, .mov (.t 8), none, [], []⟩,
    ⟨some 50, .mov (.t 8), none, [], []⟩,
    ⟨some 51, .len false (.t 50), none, [], [6]⟩,
    ⟨some 52, .bin .sub (.t 51) (.c (.int .i64 1)), none, [], [6, 7]⟩,
    ⟨some 53, .iaddr 1 (.t 49) (.t 52), none, [], [5, 6, 7, 8]⟩,
    ⟨some 54, .load 1 false (.t 53), none, [], [5, 6, 7, 8, 9]⟩,
    ⟨some 55, .call none 23 [.t 44, .t 48, .t 54], none, [], [0, 1, 2, 3, 4, 5, 6, 7, 8, 9, 10]⟩,
    ⟨some 43, .mov (.t 55), none, [], [0, 1, 2, 3, 4, 5, 6, 7, 8, 9, 10, 11]⟩,
    ⟨some 56, .extract (.t 43) 0, none, [], [0, 1, 2, 3, 4, 5, 6, 7, 8, 9, 10, 11, 12]⟩,
    ⟨some 57, .extract (.t 43) 1, none, [], [0, 1, 2, 3, 4, 5, 6, 7, 8, 9, 10, 11, 12]⟩,
    ⟨some 11, .mov (.t 56), none, [], [0, 1, 2, 3, 4, 5, 6, 7, 8, 9, 10, 11, 12, 13]⟩,
    ⟨some 12, .mov (.t 57), none, [], [0, 1, 2, 3, 4, 5, 6, 7, 8, 9, 10, 11, 12, 13, 14, 15]⟩] true)
  (.seq (.region [
    ⟨some 59, .load 7 true (.t 7), none, [103], []⟩,
    ⟨some 60, .mov (.t 1), none, [], []⟩,
    ⟨some 61, .mov (.t 8), none, [], []⟩,
    ⟨some 62, .mov (.t 8), none, [], []⟩,
    ⟨some 63, .len false (.t 62), none, [], [3]⟩,
    ⟨some 64, .bin .sub (.t 63) (.c (.int .i64 1)), none, [], [3, 4]⟩,
    ⟨some 65, .iaddr 1 (.t 61) (.t 64), none, [], [2, 3, 4, 5]⟩,
    ⟨some 66, .load 1 false (.t 65), none, [], [2, 3, 4, 5, 6]⟩,
    ⟨some 67, .call none 23 [.t 59, .t 60, .t 66], none, [], [0, 1, 2, 3, 4, 5, 6, 7]⟩,
    ⟨some 58, .mov (.t 67), none, [], [0, 1, 2, 3, 4, 5, 6, 7, 8]⟩,
    ⟨some 68, .extract (.t 58) 0, none, [], [0, 1, 2, 3, 4, 5, 6, 7, 8, 9]⟩,
    ⟨some 69, .extract (.t 58) 1, none, [], [0, 1, 2, 3, 4, 5, 6, 7, 8, 9]⟩,
    ⟨some 13, .mov (.t 68), none, [], [0, 1, 2, 3, 4, 5, 6, 7, 8, 9, 10]⟩,
    ⟨some 14, .mov (.t 69), none, [], [0, 1, 2, 3, 4, 5, 6, 7, 8, 9, 10, 11, 12]⟩] true)
  (.seq (.region [
    ⟨some 70, .mov (.t 10), none, [], []⟩,
    ⟨some 71, .mov (.t 70), none, [], []⟩,
    ⟨some 72, .mov (.t 12), some (71, true), [], []⟩,
    ⟨some 73, .pick (.t 71) (.t 72) (.c (.bool false)), none, [], []⟩,
    ⟨some 74, .mov (.t 73), none, [], []⟩,
    ⟨some 75, .mov (.t 14), some (74, true), [], []⟩,
    ⟨some 76, .pick (.t 74) (.t 75) (.c (.bool false)), none, [], []⟩,
    ⟨some 77, .mov (.t 76), none, [], []⟩,
    ⟨some 78, .mov (.t 9), some (77, true), [], []⟩,
    ⟨some 79, .len false (.t 78), some (77, true), [], []⟩,
    ⟨some 80, .mov (.t 2), some (77, true), [], []⟩,
    ⟨some 81, .bin .eql (.t 79) (.t 80), some (77, true), [], []⟩,
    ⟨some 82, .pick (.t 77) (.t 81) (.c (.bool false)), none, [], []⟩,
    ⟨some 83, .mov (.t 82), none, [], []⟩,
    ⟨some 84, .buildSl (some 101) 1 (.str ⟨#[]⟩) 0 [], some (83, true), [101], []⟩,
    ⟨some 85, .mov (.t 9), some (83, true), [], []⟩,
    ⟨some 86, .app none 1 16 (.t 84) (.t 85), some (83, true), [101], []⟩,
    ⟨some 87, .mov (.t 11), some (83, true), [], []⟩,
    ⟨some 88, .app none 1 16 (.t 86) (.t 87), some (83, true), [101], []⟩,
    ⟨some 89, .mov (.t 13), some (83, true), [], []⟩,
    ⟨some 90, .call none 25 [.t 88, .t 89], some (83, true), [101], []⟩,
    ⟨some 91, .pick (.t 83) (.t 90) (.c (.bool false)), none, [], []⟩,
    ⟨some 92, .mov (.t 91), none, [], []⟩,
    ⟨some 93, .call none 21 [], some (92, true), [], []⟩,
    ⟨some 94, .pick (.t 92) (.t 93) (.c (.bool false)), none, [], []⟩,
    ⟨some 6, .mov (.t 94), none, [], []⟩] false)
  (.gmask [6] [] .ret))))))))))
def F7 : IFunc := ⟨3, 95, [.tmp 6], ic7⟩

/-- corpora/corporalaw29.TreerelMeets -/
def ic8 : IC :=
  (.seq (.region [
    ⟨some 6, .mov (.c (.bool false)), none, [], []⟩] false)
  (.seq (.region [
    ⟨some 15, .mov (.t 0), none, [], []⟩,
    ⟨some 16, .call (some 102) 11 [.t 15], none, [102], []⟩,
    ⟨some 17, .call none 12 [.t 16, .c (.int .i64 7)], none, [102], []⟩,
    ⟨some 7, .alloc 103 [.nil, .nil, .nil, .nil, .nil, .nil, .nil], none, [103], []⟩,
    ⟨none, .store 7 (.t 7) (.t 17), none, [103], []⟩] false)
  (.seq (.region [
    ⟨some 18, .mov (.t 1), none, [], []⟩,
    ⟨some 19, .faddr 1 (.t 7), none, [], []⟩,
    ⟨some 20, .load 1 false (.t 19), none, [103], [1]⟩,
    ⟨some 21, .len false (.t 20), none, [], [1, 2]⟩,
    ⟨some 22, .call none 13 [.t 18, .t 21], none, [], [0, 1, 2, 3]⟩,
    ⟨some 23, .mov (.t 2), none, [], []⟩,
    ⟨some 24, .faddr 1 (.t 7), none, [], []⟩,
    ⟨some 25, .load 1 false (.t 24), none, [103], [6]⟩,
    ⟨some 26, .len false (.t 25), none, [], [6, 7]⟩,
    ⟨some 27, .call none 13 [.t 23, .t 26], none, [], [0, 1, 2, 3, 4, 5, 6, 7, 8]⟩,
    ⟨some 1, .mov (.t 22), none, [], [0, 1, 2, 3, 4, 5, 6, 7, 8, 9]⟩,
    ⟨some 2, .mov (.t 27), none, [], [0, 1, 2, 3, 4, 5, 6, 7, 8, 9, 10]⟩] true)
  (.seq (.region [
    ⟨some 28, .load 7 true (.t 7), none, [103], []⟩,
    ⟨some 29, .mov (.t 1), none, [], []⟩,
    ⟨some 30, .mov (.t 2), none, [], []⟩,
    ⟨some 31, .call none 26 [.t 28, .t 29, .t 30], none, [], []⟩,
    ⟨some 8, .mov (.t 31), none, [], []⟩] false)
  (.seq (.region [
    ⟨some 32, .mov (.t 1), none, [], []⟩,
    ⟨some 33, .buildSl (some 100) 1 (.int .i64 0) 1 [(0, .t 32)], none, [100], [0]⟩,
    ⟨some 34, .load 7 true (.t 7), none, [103], []⟩,
    ⟨some 35, .mov (.t 1), none, [], []⟩,
    ⟨some 36, .call none 15 [.t 34, .t 35], none, [], [2, 3]⟩,
    ⟨some 37, .app none 1 8 (.t 33) (.t 36), none, [100], [0, 1, 2, 3, 4]⟩,
    ⟨some 38, .mov (.t 2), none, [], []⟩,
    ⟨some 39, .buildSl (some 101) 1 (.int .i64 0) 1 [(0, .t 38)], none, [101], [6]⟩,
    ⟨some 40, .load 7 true (.t 7), none, [103], []⟩,
    ⟨some 41, .mov (.t 2), none, [], []⟩,
    ⟨some 42, .call none 15 [.t 40, .t 41], none, [], [0, 1, 2, 3, 4, 5, 8, 9]⟩,
    ⟨some 43, .app none 1 8 (.t 39) (.t 42), none, [101], [0, 1, 2, 3, 4, 5, 6, 7, 8, 9, 10]⟩,
    ⟨some 9, .movp (.t 37), none, [100], [0, 1, 2, 3, 4, 5, 6, 7, 8, 9, 10, 11]⟩,
    ⟨some 10, .movp (.t 43), none, [101], [0, 1, 2, 3, 4, 5, 6, 7, 8, 9, 10, 11, 12]⟩] true)
  (.seq (.seq (.region [
    ⟨some 44, .mov (.t 8), none, [], []⟩,
    ⟨some 45, .load 7 true (.t 7), none, [103], []⟩,
    ⟨some 46, .mov (.t 2), none, [], []⟩,
    ⟨some 47, .mov (.t 1), none, [], []⟩,
    ⟨some 48, .call none 26 [.t 45, .t 46, .t 47], none, [], [1, 2, 3]⟩,
    ⟨some 49, .bin .neq (.t 44) (.t 48), none, [], [0, 1, 2, 3, 4]⟩,
    ⟨some 50, .mov (.t 49), none, [], [0, 1, 2, 3, 4, 5]⟩,
    ⟨some 51, .mov (.t 8), some (50, false), [], [0, 1, 2, 3, 4, 5, 6]⟩,
    ⟨some 52, .bin .eql (.t 51) (.c (.int .i64 (-1))), some (50, false), [], [0, 1, 2, 3, 4, 5, 6, 7]⟩,
    ⟨some 53, .mov (.t 9), some (50, false), [], [0, 1, 2, 3, 4, 5, 6]⟩,
    ⟨some 54, .mov (.t 9), some (50, false), [], [0, 1, 2, 3, 4, 5, 6]⟩,
    ⟨some 55, .len false (.t 54), some (50, false), [], [0, 1, 2, 3, 4, 5, 6, 10]⟩,
    ⟨some 56, .bin .sub (.t 55) (.c (.int .i64 1)), some (50, false), [], [0, 1, 2, 3, 4, 5, 6, 10, 11]⟩,
    ⟨some 57, .iaddr 1 (.t 53) (.t 56), some (50, false), [], [0, 1, 2, 3, 4, 5, 6, 9, 10, 11, 12]⟩,
    ⟨some 58, .load 1 false (.t 57), some (50, false), [], [0, 1, 2, 3, 4, 5, 6, 9, 10, 11, 12, 13]⟩,
    ⟨some 59, .mov (.t 10), some (50, false), [], [0, 1, 2, 3, 4, 5, 6]⟩,
    ⟨some 60, .mov (.t 10), some (50, false), [], [0, 1, 2, 3, 4, 5, 6]⟩,
    ⟨some 61, .len false (.t 60), some (50, false), [], [0, 1, 2, 3, 4, 5, 6, 16]⟩,
    ⟨some 62, .bin .sub (.t 61) (.c (.int .i64 1)), some (50, false), [], [0, 1, 2, 3, 4, 5, 6, 16, 17]⟩,
    ⟨some 63, .iaddr 1 (.t 59) (.t 62), some (50, false), [], [0, 1, 2, 3, 4, 5, 6, 15, 16, 17, 18]⟩,
    ⟨some 64, .load 1 false (.t 63), some (50, false), [], [0, 1, 2, 3, 4, 5, 6, 15, 16, 17, 18, 19]⟩,
    ⟨some 65, .bin .neq (.t 58) (.t 64), some (50, false), [], [0, 1, 2, 3, 4, 5, 6, 9, 10, 11, 12, 13, 14, 15, 16, 17, 18, 19, 20]⟩,
    ⟨some 66, .eqB true (.t 52) (.t 65), some (50, false), [], [0, 1, 2, 3, 4, 5, 6, 7, 8, 9, 10, 11, 12, 13, 14, 15, 16, 17, 18, 19, 20, 21]⟩,
    ⟨some 67, .pick (.t 50) (.c (.bool true)) (.t 66), none, [], [0, 1, 2, 3, 4, 5, 6, 7, 8, 9, 10, 11, 12, 13, 14, 15, 16, 17, 18, 19, 20, 21, 22]⟩] true)
  (.cond (.t 67) (.seq (.region [
    ⟨some 6, .mov (.c (.bool false)), none, [], []⟩] false)
  (.gmask [6] [] .ret))
  .skip))
  (.seq (.seq (.region [
    ⟨some 68, .mov (.t 8), none, [], []⟩,
    ⟨some 69, .bin .eql (.t 68) (.c (.int .i64 (-1))), none, [], []⟩] false)
  (.cond (.t 69) (.seq (.region [
    ⟨some 70, .call none 21 [], none, [], []⟩,
    ⟨some 6, .mov (.t 70), none, [], []⟩] false)
  (.gmask [6] [] .ret))
  .skip))
  (.seq (.region [
    ⟨some 72, .load 7 true (.t 7), none, [103], []⟩,
    ⟨some 73, .mov (.t 1), none, [], []⟩,
    ⟨some 74, .mov (.t 8), none, [], []⟩,
    ⟨some 75, .call none 23 [.t 72, .t 73, .t 74], none, [], []⟩,
    ⟨some 71, .mov (.t 75), none, [], []⟩,
    ⟨some 76, .extract (.t 71) 0, none, [], []⟩,
    ⟨some 77, .extract (.t 71) 1, none, [], []⟩,
    ⟨some 11, .mov (.t 76), none, [], []⟩,
    ⟨some 12, .mov (.t 77), none, [], []⟩] false)
  (.seq (.region [
    ⟨some 79, .load 7 true (.t 7), none, [103], []⟩,
    ⟨some 80, .mov (.t 2), none, [], []⟩,
    ⟨some 81, .mov (.t 8), none, [], []⟩,
    ⟨some 82, .call none 23 [.t 79, .t 80, .t 81], none, [], []⟩,
    ⟨some 78, .mov (.t 82), none, [], []⟩,
    ⟨some 83, .extract (.t 78) 0, none, [], []⟩,
    ⟨some 84, .extract (.t 78) 1, none, [], []⟩,
    ⟨some 13, .mov (.t 83), none, [], []⟩,
    ⟨some 14, .mov (.t 84), none, [], []⟩] false)
  (.seq (.region [
    ⟨some 85, .mov (.t 12), none, [], []⟩,
    ⟨some 86, .mov (.t 85), none, [], []⟩,
    ⟨some 87, .mov (.t 14), some (86, true), [], []⟩,
    ⟨some 88, .pick (.t 86) (.t 87) (.c (.bool false)), none, [], []⟩,
    ⟨some 89, .mov (.t 88), none, [], []⟩,
    ⟨some 90, .call none 21 [], some (89, true), [], []⟩,
    ⟨some 91, .pick (.t 89) (.t 90) (.c (.bool false)), none, [], []⟩,
    ⟨some 6, .mov (.t 91), none, [], []⟩] false)
  (.gmask [6] [] .ret)))))))))))
def F8 : IFunc := ⟨3, 92, [.tmp 6], ic8⟩

def ic9_0_b : IC :=
  (.seq (.region [
    ⟨some 38, .bin .lss (.t 37) (.t 36), none, [], []⟩] false)
  (.seq (.cond (.t 38) .skip
  (.gmask [1, 2, 7, 8] [101] (.exit 0)))
  (.seq (.block 1 (.seq (.region [
    ⟨some 39, .mov (.t 37), none, [], []⟩,
    ⟨some 40, .iaddr 1 (.t 35) (.t 37), none, [], []⟩,
    ⟨some 41, .load 1 false (.t 40), none, [], []⟩,
    ⟨some 9, .mov (.t 39), none, [], []⟩,
    ⟨some 10, .mov (.t 41), none, [], []⟩] false)
  (.seq (.region [
    ⟨some 42, .mov (.t 10), none, [], []⟩,
    ⟨some 43, .bin .lss (.t 42) (.c (.int .i64 0)), none, [], [0]⟩,
    ⟨some 44, .mov (.t 43), none, [], [0, 1]⟩,
    ⟨some 45, .mov (.t 10), some (44, false), [], [0, 1, 2]⟩,
    ⟨some 46, .faddr 4 (.t 7), some (44, false), [], [0, 1, 2]⟩,
    ⟨some 47, .load 1 false (.t 46), some (44, false), [101], [0, 1, 2, 4]⟩,
    ⟨some 48, .len false (.t 47), some (44, false), [], [0, 1, 2, 4, 5]⟩,
    ⟨some 49, .bin .geq (.t 45) (.t 48), some (44, false), [], [0, 1, 2, 3, 4, 5, 6]⟩,
    ⟨some 50, .pick (.t 44) (.c (.bool true)) (.t 49), none, [], [0, 1, 2, 3, 4, 5, 6, 7]⟩,
    ⟨some 51, .mov (.t 50), none, [], [0, 1, 2, 3, 4, 5, 6, 7, 8]⟩,
    ⟨some 52, .mov (.t 9), some (51, false), [], [0, 1, 2, 3, 4, 5, 6, 7, 8, 9]⟩,
    ⟨some 53, .bin .eql (.t 52) (.c (.int .i64 0)), some (51, false), [], [0, 1, 2, 3, 4, 5, 6, 7, 8, 9, 10]⟩,
    ⟨some 54, .mov (.t 53), some (51, false), [], [0, 1, 2, 3, 4, 5, 6, 7, 8, 9, 10, 11]⟩,
    ⟨some 55, .faddr 4 (.t 7), some (54, true), [], [0, 1, 2, 3, 4, 5, 6, 7, 8, 9, 10, 11, 12]⟩,
    ⟨some 56, .load 1 false (.t 55), some (54, true), [101], [0, 1, 2, 3, 4, 5, 6, 7, 8, 9, 10, 11, 12, 13]⟩,
    ⟨some 57, .mov (.t 10), some (54, true), [], [0, 1, 2, 3, 4, 5, 6, 7, 8, 9, 10, 11, 12]⟩,
    ⟨some 58, .iaddr 4 (.t 56) (.t 57), some (54, true), [], [0, 1, 2, 3, 4, 5, 6, 7, 8, 9, 10, 11, 12, 13, 14, 15]⟩,
    ⟨some 59, .faddr 3 (.t 58), some (54, true), [], [0, 1, 2, 3, 4, 5, 6, 7, 8, 9, 10, 11, 12, 13, 14, 15, 16]⟩,
    ⟨some 60, .load 1 false (.t 59), some (54, true), [], [0, 1, 2, 3, 4, 5, 6, 7, 8, 9, 10, 11, 12, 13, 14, 15, 16, 17]⟩,
    ⟨some 61, .bin .neq (.t 60) (.c (.int .i64 (-1))), some (54, true), [], [0, 1, 2, 3, 4, 5, 6, 7, 8, 9, 10, 11, 12, 13, 14, 15, 16, 17, 18]⟩,
    ⟨some 62, .pick (.t 54) (.t 61) (.c (.bool false)), some (51, false), [], [0, 1, 2, 3, 4, 5, 6, 7, 8, 9, 10, 11, 12, 13, 14, 15, 16, 17, 18, 19]⟩,
    ⟨some 63, .pick (.t 51) (.c (.bool true)) (.t 62), none, [], [0, 1, 2, 3, 4, 5, 6, 7, 8, 9, 10, 11, 12, 13, 14, 15, 16, 17, 18, 19, 20]⟩,
    ⟨some 64, .mov (.t 63), none, [], [0, 1, 2, 3, 4, 5, 6, 7, 8, 9, 10, 11, 12, 13, 14, 15, 16, 17, 18, 19, 20, 21]⟩,
    ⟨some 65, .mov (.t 9), some (64, false), [], [0, 1, 2, 3, 4, 5, 6, 7, 8, 9, 10, 11, 12, 13, 14, 15, 16, 17, 18, 19, 20, 21, 22]⟩,
    ⟨some 66, .bin .gtr (.t 65) (.c (.int .i64 0)), some (64, false), [], [0, 1, 2, 3, 4, 5, 6, 7, 8, 9, 10, 11, 12, 13, 14, 15, 16, 17, 18, 19, 20, 21, 22, 23]⟩,
    ⟨some 67, .mov (.t 66), some (64, false), [], [0, 1, 2, 3, 4, 5, 6, 7, 8, 9, 10, 11, 12, 13, 14, 15, 16, 17, 18, 19, 20, 21, 22, 23, 24]⟩,
    ⟨some 68, .faddr 4 (.t 7), some (67, true), [], [0, 1, 2, 3, 4, 5, 6, 7, 8, 9, 10, 11, 12, 13, 14, 15, 16, 17, 18, 19, 20, 21, 22, 23, 24, 25]⟩,
    ⟨some 69, .load 1 false (.t 68), some (67, true), [101], [0, 1, 2, 3, 4, 5, 6, 7, 8, 9, 10, 11, 12, 13, 14, 15, 16, 17, 18, 19, 20, 21, 22, 23, 24, 25, 26]⟩,
    ⟨some 70, .mov (.t 10), some (67, true), [], [0, 1, 2, 3, 4, 5, 6, 7, 8, 9, 10, 11, 12, 13, 14, 15, 16, 17, 18, 19, 20, 21, 22, 23, 24, 25]⟩,
    ⟨some 71, .iaddr 4 (.t 69) (.t 70), some (67, true), [], [0, 1, 2, 3, 4, 5, 6, 7, 8, 9, 10, 11, 12, 13, 14, 15, 16, 17, 18, 19, 20, 21, 22, 23, 24, 25, 26, 27, 28]⟩,
    ⟨some 72, .faddr 3 (.t 71), some (67, true), [], [0, 1, 2, 3, 4, 5, 6, 7, 8, 9, 10, 11, 12, 13, 14, 15, 16, 17, 18, 19, 20, 21, 22, 23, 24, 25, 26, 27, 28, 29]⟩,
    ⟨some 73, .load 1 false (.t 72), some (67, true), [], [0, 1, 2, 3, 4, 5, 6, 7, 8, 9, 10, 11, 12, 13, 14, 15, 16, 17, 18, 19, 20, 21, 22, 23, 24, 25, 26, 27, 28, 29, 30]⟩,
    ⟨some 74, .mov (.t 8), some (67, true), [], [0, 1, 2, 3, 4, 5, 6, 7, 8, 9, 10, 11, 12, 13, 14, 15, 16, 17, 18, 19, 20, 21, 22, 23, 24, 25]⟩,
    ⟨some 75, .mov (.t 9), some (67, true), [], [0, 1, 2, 3, 4, 5, 6, 7, 8, 9, 10, 11, 12, 13, 14, 15, 16, 17, 18, 19, 20, 21, 22, 23, 24, 25]⟩,
    ⟨some 76, .bin .sub (.t 75) (.c (.int .i64 1)), some (67, true), [], [0, 1, 2, 3, 4, 5, 6, 7, 8, 9, 10, 11, 12, 13, 14, 15, 16, 17, 18, 19, 20, 21, 22, 23, 24, 25, 33]⟩,
    ⟨some 77, .iaddr 1 (.t 74) (.t 76), some (67, true), [], [0, 1, 2, 3, 4, 5, 6, 7, 8, 9, 10, 11, 12, 13, 14, 15, 16, 17, 18, 19, 20, 21, 22, 23, 24, 25, 32, 33, 34]⟩,
    ⟨some 78, .load 1 false (.t 77), some (67, true), [], [0, 1, 2, 3, 4, 5, 6, 7, 8, 9, 10, 11, 12, 13, 14, 15, 16, 17, 18, 19, 20, 21, 22, 23, 24, 25, 32, 33, 34, 35]⟩,
    ⟨some 79, .bin .neq (.t 73) (.t 78), some (67, true), [], [0, 1, 2, 3, 4, 5, 6, 7, 8, 9, 10, 11, 12, 13, 14, 15, 16, 17, 18, 19, 20, 21, 22, 23, 24, 25, 26, 27, 28, 29, 30, 31, 32, 33, 34, 35, 36]⟩,
    ⟨some 80, .pick (.t 67) (.t 79) (.c (.bool false)), some (64, false), [], [0, 1, 2, 3, 4, 5, 6, 7, 8, 9, 10, 11, 12, 13, 14, 15, 16, 17, 18, 19, 20, 21, 22, 23, 24, 25, 26, 27, 28, 29, 30, 31, 32, 33, 34, 35, 36, 37]⟩,
    ⟨some 81, .pick (.t 64) (.c (.bool true)) (.t 80), none, [], [0, 1, 2, 3, 4, 5, 6, 7, 8, 9, 10, 11, 12, 13, 14, 15, 16, 17, 18, 19, 20, 21, 22, 23, 24, 25, 26, 27, 28, 29, 30, 31, 32, 33, 34, 35, 36, 37, 38]⟩] true)
  (.cond (.t 81) (.seq (.region [
    ⟨some 6, .mov (.c (.bool false)), none, [], []⟩] false)
  (.gmask [6] [] .ret))
  .skip))))
  (.region [
    ⟨some 82, .bin .add (.t 37) (.c (.int .i64 1)), none, [], []⟩,
    ⟨some 37, .mov (.t 82), none, [], []⟩] false))))
def ic9_0 : IC := .loop [1, 2, 7, 8, 35, 36, 37] [101] ic9_0_b
/-- corpora/corporalaw29.TreerelChains -/
def ic9 : IC :=
  (.seq (.region [
    ⟨some 6, .mov (.c (.bool false)), none, [], []⟩] false)
  (.seq (.region [
    ⟨some 12, .mov (.t 0), none, [], []⟩,
    ⟨some 13, .call (some 100) 11 [.t 12], none, [100], []⟩,
    ⟨some 14, .call none 12 [.t 13, .c (.int .i64 7)], none, [100], []⟩,
    ⟨some 7, .alloc 101 [.nil, .nil, .nil, .nil, .nil, .nil, .nil], none, [101], []⟩,
    ⟨none, .store 7 (.t 7) (.t 14), none, [101], []⟩] false)
  (.seq (.region [
    ⟨some 15, .mov (.t 1), none, [], []⟩,
    ⟨some 16, .faddr 1 (.t 7), none, [], []⟩,
    ⟨some 17, .load 1 false (.t 16), none, [101], [1]⟩,
    ⟨some 18, .len false (.t 17), none, [], [1, 2]⟩,
    ⟨some 19, .call none 13 [.t 15, .t 18], none, [], [0, 1, 2, 3]⟩,
    ⟨some 20, .mov (.t 2), none, [], []⟩,
    ⟨some 21, .faddr 1 (.t 7), none, [], []⟩,
    ⟨some 22, .load 1 false (.t 21), none, [101], [6]⟩,
    ⟨some 23, .len false (.t 22), none, [], [6, 7]⟩,
    ⟨some 24, .call none 13 [.t 20, .t 23], none, [], [0, 1, 2, 3, 4, 5, 6, 7, 8]⟩,
    ⟨some 1, .mov (.t 19), none, [], [0, 1, 2, 3, 4, 5, 6, 7, 8, 9]⟩,
    ⟨some 2, .mov (.t 24), none, [], [0, 1, 2, 3, 4, 5, 6, 7, 8, 9, 10]⟩] true)
  (.seq (.region [
    ⟨some 25, .load 7 true (.t 7), none, [101], []⟩,
    ⟨some 26, .mov (.t 1), none, [], []⟩,
    ⟨some 27, .mov (.t 2), none, [], []⟩,
    ⟨some 28, .mm false (.t 26) (.t 27), none, [], []⟩,
    ⟨some 29, .mov (.t 1), none, [], []⟩,
    ⟨some 30, .mov (.t 2), none, [], []⟩,
    ⟨some 31, .mm true (.t 29) (.t 30), none, [], []⟩,
    ⟨some 32, .bin .add (.t 31) (.c (.int .i64 1)), none, [], []⟩,
    ⟨some 33, .build [.int .i64 0, .int .i64 0] [(0, 1, .t 28), (1, 1, .t 32)], none, [], []⟩,
    ⟨some 34, .call none 28 [.t 25, .t 33], none, [], []⟩,
    ⟨some 8, .mov (.t 34), none, [], []⟩] false)
  (.seq (.seq (.region [
    ⟨some 35, .mov (.t 8), none, [], []⟩,
    ⟨some 36, .len false (.t 35), none, [], []⟩,
    ⟨some 37, .mov (.c (.int .i64 0)), none, [], []⟩] false)
  (.block 0 (.gmask [1, 2, 7, 8, 35, 36, 37] [101] ic9_0)))
  (.seq (.region [
    ⟨some 11, .mov (.c (.int .i64 (-1))), none, [], []⟩] false)
  (.seq (.seq (.region [
    ⟨some 83, .mov (.t 8), none, [], []⟩,
    ⟨some 84, .len false (.t 83), none, [], []⟩,
    ⟨some 85, .bin .gtr (.t 84) (.c (.int .i64 0)), none, [], []⟩] false)
  (.gpost [1, 2, 7, 11] [101] (.cond (.t 85) (.region [
    ⟨some 86, .mov (.t 8), none, [], []⟩,
    ⟨some 87, .mov (.t 8), none, [], []⟩,
    ⟨some 88, .len false (.t 87), none, [], []⟩,
    ⟨some 89, .bin .sub (.t 88) (.c (.int .i64 1)), none, [], []⟩,
    ⟨some 90, .iaddr 1 (.t 86) (.t 89), none, [], []⟩,
    ⟨some 91, .load 1 false (.t 90), none, [], []⟩,
    ⟨some 11, .mov (.t 91), none, [], []⟩] false)
  .skip)))
  (.seq (.region [
    ⟨some 92, .load 7 true (.t 7), none, [101], []⟩,
    ⟨some 93, .mov (.t 1), none, [], []⟩,
    ⟨some 94, .mov (.t 2), none, [], []⟩,
    ⟨some 95, .call none 29 [.t 92, .t 93, .t 94], none, [], []⟩,
    ⟨some 96, .mov (.t 11), none, [], []⟩,
    ⟨some 97, .bin .eql (.t 95) (.t 96), none, [], []⟩,
    ⟨some 98, .mov (.t 97), none, [], []⟩,
    ⟨some 99, .load 7 true (.t 7), some (98, true), [101], []⟩,
    ⟨some 100, .mov (.t 2), some (98, true), [], []⟩,
    ⟨some 101, .mov (.t 1), some (98, true), [], []⟩,
    ⟨some 102, .call none 29 [.t 99, .t 100, .t 101], some (98, true), [], []⟩,
    ⟨some 103, .mov (.t 11), some (98, true), [], []⟩,
    ⟨some 104, .bin .eql (.t 102) (.t 103), some (98, true), [], []⟩,
    ⟨some 105, .pick (.t 98) (.t 104) (.c (.bool false)), none, [], []⟩,
    ⟨some 106, .mov (.t 105), none, [], []⟩,
    ⟨some 107, .call none 21 [], some (106, true), [], []⟩,
    ⟨some 108, .pick (.t 106) (.t 107) (.c (.bool false)), none, [], []⟩,
    ⟨some 6, .mov (.t 108), none, [], []⟩] false)
  (.gmask [6] [] .ret)))))))))
def F9 : IFunc := ⟨3, 109, [.tmp 6], ic9⟩

/-- corpora/corporalaw29.TreerelNodes -/
def ic10 : IC :=
  (.seq (.region [
    ⟨some 6, .mov (.c (.bool false)), none, [], []⟩] false)
  (.seq (.region [
    ⟨some 11, .mov (.t 0), none, [], []⟩,
    ⟨some 12, .call (some 100) 11 [.t 11], none, [100], []⟩,
    ⟨some 13, .call none 12 [.t 12, .c (.int .i64 7)], none, [100], []⟩,
    ⟨some 7, .alloc 101 [.nil, .nil, .nil, .nil, .nil, .nil, .nil], none, [101], []⟩,
    ⟨none, .store 7 (.t 7) (.t 13), none, [101], []⟩] false)
  (.seq (.region [
    ⟨some 14, .faddr 1 (.t 7), none, [], []⟩,
    ⟨some 15, .load 1 false (.t 14), none, [101], []⟩,
    ⟨some 16, .len false (.t 15), none, [], []⟩,
    ⟨some 8, .mov (.t 16), none, [], []⟩] false)
  (.seq (.region [
    ⟨some 17, .mov (.t 1), none, [], []⟩,
    ⟨some 18, .mov (.t 8), none, [], []⟩,
    ⟨some 19, .bin .add (.t 18) (.c (.int .i64 3)), none, [], []⟩,
    ⟨some 20, .call none 13 [.t 17, .t 19], none, [], []⟩,
    ⟨some 21, .bin .sub (.t 20) (.c (.int .i64 1)), none, [], []⟩,
    ⟨some 22, .mov (.t 2), none, [], []⟩,
    ⟨some 23, .mov (.t 8), none, [], []⟩,
    ⟨some 24, .bin .add (.t 23) (.c (.int .i64 3)), none, [], []⟩,
    ⟨some 25, .call none 13 [.t 22, .t 24], none, [], []⟩,
    ⟨some 26, .bin .sub (.t 25) (.c (.int .i64 1)), none, [], []⟩,
    ⟨some 1, .mov (.t 21), none, [], []⟩,
    ⟨some 2, .mov (.t 26), none, [], []⟩] false)
  (.seq (.region [
    ⟨some 27, .mov (.t 1), none, [], []⟩,
    ⟨some 28, .mov (.t 2), none, [], []⟩,
    ⟨some 29, .build [.int .i64 0, .int .i64 0] [(0, 1, .t 27), (1, 1, .t 28)], none, [], []⟩,
    ⟨some 9, .alloc 102 [.int .i64 0, .int .i64 0], none, [102], []⟩,
    ⟨none, .store 2 (.t 9) (.t 29), none, [102], []⟩] false)
  (.seq (.region [
    ⟨some 30, .mov (.t 1), none, [], []⟩,
    ⟨some 31, .mov (.t 2), none, [], []⟩,
    ⟨some 32, .bin .add (.t 30) (.t 31), none, [], []⟩,
    ⟨some 33, .faddr 4 (.t 7), none, [], []⟩,
    ⟨some 34, .load 1 false (.t 33), none, [101], []⟩,
    ⟨some 35, .len false (.t 34), none, [], []⟩,
    ⟨some 36, .bin .add (.t 35) (.c (.int .i64 3)), none, [], []⟩,
    ⟨some 37, .call none 13 [.t 32, .t 36], none, [], []⟩,
    ⟨some 38, .bin .sub (.t 37) (.c (.int .i64 2)), none, [], []⟩,
    ⟨some 10, .mov (.t 38), none, [], []⟩] false)
  (.seq (.region [
    ⟨some 39, .load 7 true (.t 7), none, [101], []⟩,
    ⟨some 40, .load 2 true (.t 9), none, [102], []⟩,
    ⟨some 41, .call none 28 [.t 39, .t 40], none, [], [0, 1]⟩,
    ⟨some 42, .load 7 true (.t 7), none, [101], []⟩,
    ⟨some 43, .load 2 true (.t 9), none, [102], []⟩,
    ⟨some 44, .call none 30 [.t 42, .t 43], none, [], [0, 1, 2, 3, 4]⟩,
    ⟨some 45, .call none 14 [.t 41, .t 44], none, [], [0, 1, 2, 3, 4, 5]⟩,
    ⟨some 46, .mov (.t 45), none, [], [0, 1, 2, 3, 4, 5, 6]⟩,
    ⟨some 47, .load 7 true (.t 7), some (46, true), [101], [0, 1, 2, 3, 4, 5, 6, 7]⟩,
    ⟨some 48, .mov (.t 1), some (46, true), [], [0, 1, 2, 3, 4, 5, 6, 7]⟩,
    ⟨some 49, .mov (.t 2), some (46, true), [], [0, 1, 2, 3, 4, 5, 6, 7]⟩,
    ⟨some 50, .call none 29 [.t 47, .t 48, .t 49], some (46, true), [], [0, 1, 2, 3, 4, 5, 6, 7, 8, 9, 10]⟩,
    ⟨some 51, .load 7 true (.t 7), some (46, true), [101], [0, 1, 2, 3, 4, 5, 6, 7]⟩,
    ⟨some 52, .mov (.t 1), some (46, true), [], [0, 1, 2, 3, 4, 5, 6, 7]⟩,
    ⟨some 53, .mov (.t 2), some (46, true), [], [0, 1, 2, 3, 4, 5, 6, 7]⟩,
    ⟨some 54, .call none 31 [.t 51, .t 52, .t 53], some (46, true), [], [0, 1, 2, 3, 4, 5, 6, 7, 8, 9, 10, 11, 12, 13, 14]⟩,
    ⟨some 55, .bin .eql (.t 50) (.t 54), some (46, true), [], [0, 1, 2, 3, 4, 5, 6, 7, 8, 9, 10, 11, 12, 13, 14, 15]⟩,
    ⟨some 56, .pick (.t 46) (.t 55) (.c (.bool false)), none, [], [0, 1, 2, 3, 4, 5, 6, 7, 8, 9, 10, 11, 12, 13, 14, 15, 16]⟩,
    ⟨some 57, .mov (.t 56), none, [], [0, 1, 2, 3, 4, 5, 6, 7, 8, 9, 10, 11, 12, 13, 14, 15, 16, 17]⟩,
    ⟨some 58, .load 7 true (.t 7), some (57, true), [101], [0, 1, 2, 3, 4, 5, 6, 7, 8, 9, 10, 11, 12, 13, 14, 15, 16, 17, 18]⟩,
    ⟨some 59, .mov (.t 10), some (57, true), [], [0, 1, 2, 3, 4, 5, 6, 7, 8, 9, 10, 11, 12, 13, 14, 15, 16, 17, 18]⟩,
    ⟨some 60, .call none 22 [.t 58, .t 59], some (57, true), [], [0, 1, 2, 3, 4, 5, 6, 7, 8, 9, 10, 11, 12, 13, 14, 15, 16, 17, 18, 19, 20]⟩,
    ⟨some 61, .load 7 true (.t 7), some (57, true), [101], [0, 1, 2, 3, 4, 5, 6, 7, 8, 9, 10, 11, 12, 13, 14, 15, 16, 17, 18]⟩,
    ⟨some 62, .mov (.t 10), some (57, true), [], [0, 1, 2, 3, 4, 5, 6, 7, 8, 9, 10, 11, 12, 13, 14, 15, 16, 17, 18]⟩,
    ⟨some 63, .call none 32 [.t 61, .t 62], some (57, true), [], [0, 1, 2, 3, 4, 5, 6, 7, 8, 9, 10, 11, 12, 13, 14, 15, 16, 17, 18, 19, 20, 21, 22, 23]⟩,
    ⟨some 64, .call none 14 [.t 60, .t 63], some (57, true), [], [0, 1, 2, 3, 4, 5, 6, 7, 8, 9, 10, 11, 12, 13, 14, 15, 16, 17, 18, 19, 20, 21, 22, 23, 24]⟩,
    ⟨some 65, .pick (.t 57) (.t 64) (.c (.bool false)), none, [], [0, 1, 2, 3, 4, 5, 6, 7, 8, 9, 10, 11, 12, 13, 14, 15, 16, 17, 18, 19, 20, 21, 22, 23, 24, 25]⟩,
    ⟨some 66, .mov (.t 65), none, [], [0, 1, 2, 3, 4, 5, 6, 7, 8, 9, 10, 11, 12, 13, 14, 15, 16, 17, 18, 19, 20, 21, 22, 23, 24, 25, 26]⟩,
    ⟨some 67, .call none 21 [], some (66, true), [], [0, 1, 2, 3, 4, 5, 6, 7, 8, 9, 10, 11, 12, 13, 14, 15, 16, 17, 18, 19, 20, 21, 22, 23, 24, 25, 26, 27]⟩,
    ⟨some 68, .pick (.t 66) (.t 67) (.c (.bool false)), none, [], [0, 1, 2, 3, 4, 5, 6, 7, 8, 9, 10, 11, 12, 13, 14, 15, 16, 17, 18, 19, 20, 21, 22, 23, 24, 25, 26, 27, 28]⟩,
    ⟨some 6, .mov (.t 68), none, [], [0, 1, 2, 3, 4, 5, 6, 7, 8, 9, 10, 11, 12, 13, 14, 15, 16, 17, 18, 19, 20, 21, 22, 23, 24, 25, 26, 27, 28, 29]⟩] true)
  (.gmask [6] [] .ret))))))))
def F10 : IFunc := ⟨3, 69, [.tmp 6], ic10⟩

/-- corpora/corporamade.New -/
def ic11 : IC :=
  (.seq (.region [
    ⟨some 2, .mov (.c (.nilp)), none, [], []⟩] false)
  (.seq (.seq (.region [
    ⟨some 3, .mov (.t 0), none, [], []⟩,
    ⟨some 4, .len false (.t 3), none, [], []⟩,
    ⟨some 5, .bin .gtr (.t 4) (.c (.int .i64 120)), none, [], []⟩] false)
  (.gpost [0] [] (.cond (.t 5) (.region [
    ⟨some 6, .mov (.t 0), none, [], []⟩,
    ⟨some 7, .slice false 1 (.t 6) none (some (.c (.int .i64 120))), none, [], []⟩,
    ⟨some 0, .mov (.t 7), none, [], []⟩] false)
  .skip)))
  (.seq (.region [
    ⟨some 8, .mov (.t 0), none, [], []⟩,
    ⟨some 9, .build [.nil, .int .i64 0] [(0, 1, .t 8)], none, [], []⟩,
    ⟨some 10, .box 100 2 (.t 9), none, [100], []⟩,
    ⟨some 2, .mov (.t 10), none, [], []⟩] false)
  (.gmask [2] [100] .ret))))
def F11 : IFunc := ⟨1, 11, [.tmp 2], ic11⟩

def ic12_0_b : IC :=
  (.seq (.seq (.region [
    ⟨some 15, .mov (.t 6), none, [], []⟩,
    ⟨some 16, .bin .gtr (.t 15) (.c (.int .i64 0)), none, [], []⟩] false)
  (.cond (.t 16) .skip
  (.gmask [4, 5] [0, 100, 101] (.exit 0))))
  (.seq (.block 1 (.seq (.region [
    ⟨some 19, .mov (.t 0), none, [], []⟩,
    ⟨some 20, .buildSl none 1 (.str ⟨#[]⟩) 3 [(0, .c (.str ⟨#[116, 48]⟩)), (1, .c (.str ⟨#[116, 49]⟩)), (2, .c (.str ⟨#[116, 50]⟩))], none, [], []⟩,
    ⟨some 21, .mov (.t 6), none, [], []⟩,
    ⟨some 22, .iaddr 1 (.t 20) (.t 21), none, [], []⟩,
    ⟨some 23, .load 1 false (.t 22), none, [], []⟩,
    ⟨some 24, .mov (.t 1), none, [], []⟩,
    ⟨some 25, .call none 33 [.t 19, .t 23, .t 24], none, [0], []⟩,
    ⟨some 7, .alloc 102 [.nil, .nil, .nil, .nil, .nil, .nil, .nil], none, [102], []⟩,
    ⟨none, .store 7 (.t 7) (.t 25), none, [102], []⟩] false)
  (.seq (.region [
    ⟨some 27, .load 7 true (.t 5), none, [101], []⟩,
    ⟨some 28, .load 7 true (.t 7), none, [102], []⟩,
    ⟨some 29, .call none 35 [.t 27, .t 28], none, [], []⟩,
    ⟨some 26, .mov (.t 29), none, [], []⟩,
    ⟨some 30, .extract (.t 26) 0, none, [], []⟩,
    ⟨some 31, .extract (.t 26) 1, none, [], []⟩,
    ⟨some 8, .alloc 103 [.nil, .nil, .nil, .nil, .nil, .nil, .nil], none, [103], []⟩,
    ⟨none, .store 7 (.t 8) (.t 30), none, [103], []⟩,
    ⟨some 9, .mov (.t 31), none, [], []⟩] false)
  (.seq (.region [
    ⟨some 32, .mov (.t 9), none, [], []⟩,
    ⟨some 33, .bin .eql (.t 32) (.c (.int .i64 0)), none, [], []⟩] false)
  (.gpost [0, 1, 4, 5, 6] [0, 100, 101] (.cond (.t 33) (.region [
    ⟨some 34, .load 7 true (.t 8), none, [103], []⟩,
    ⟨none, .store 7 (.t 5) (.t 34), none, [101], []⟩] false)
  .skip))))))
  (.region [
    ⟨some 17, .mov (.t 6), none, [], []⟩,
    ⟨some 18, .bin .sub (.t 17) (.c (.int .i64 1)), none, [], []⟩,
    ⟨some 6, .mov (.t 18), none, [], []⟩] false)))
def ic12_0 : IC := .loop [0, 1, 4, 5, 6] [0, 100, 101] ic12_0_b
/-- (*corpora/corporamade.Tape).Corpus -/
def ic12 : IC :=
  (.seq (.region [
    ⟨some 4, .alloc 100 [.nil, .nil, .nil, .nil, .nil, .nil, .nil], none, [100], []⟩] false)
  (.seq (.region [
    ⟨some 10, .mov (.t 0), none, [], []⟩,
    ⟨some 11, .mov (.t 1), none, [], []⟩,
    ⟨some 12, .call none 33 [.t 10, .c (.str ⟨#[116, 48]⟩), .t 11], none, [0], []⟩,
    ⟨some 5, .alloc 101 [.nil, .nil, .nil, .nil, .nil, .nil, .nil], none, [101], []⟩,
    ⟨none, .store 7 (.t 5) (.t 12), none, [101], []⟩] false)
  (.seq (.seq (.region [
    ⟨some 13, .mov (.t 0), none, [], []⟩,
    ⟨some 14, .call none 34 [.t 13, .c (.int .i64 3)], none, [0], []⟩,
    ⟨some 6, .mov (.t 14), none, [], []⟩] false)
  (.block 0 (.gmask [0, 1, 4, 5, 6] [0, 100, 101] ic12_0)))
  (.seq (.region [
    ⟨some 35, .load 7 true (.t 5), none, [101], []⟩,
    ⟨none, .store 7 (.t 4) (.t 35), none, [100], []⟩] false)
  (.gmask [4] [0, 100] .ret)))))
def F12 : IFunc := ⟨2, 36, [.cell 4 7 true], ic12⟩

/-- corpora/corporamade.Mod -/
def ic13 : IC :=
  (.seq (.region [
    ⟨some 4, .mov (.c (.int .i64 0)), none, [], []⟩] false)
  (.seq (.seq (.region [
    ⟨some 5, .mov (.t 1), none, [], []⟩,
    ⟨some 6, .bin .lss (.t 5) (.c (.int .i64 1)), none, [], []⟩] false)
  (.cond (.t 6) (.seq (.region [
    ⟨some 4, .mov (.c (.int .i64 0)), none, [], []⟩] false)
  (.gmask [4] [] .ret))
  .skip))
  (.seq (.region [
    ⟨some 7, .mov (.t 0), none, [], []⟩,
    ⟨some 8, .mov (.t 1), none, [], []⟩,
    ⟨some 9, .bin .rem (.t 7) (.t 8), none, [], []⟩,
    ⟨some 0, .mov (.t 9), none, [], []⟩] false)
  (.seq (.seq (.region [
    ⟨some 10, .mov (.t 0), none, [], []⟩,
    ⟨some 11, .bin .lss (.t 10) (.c (.int .i64 0)), none, [], []⟩] false)
  (.gpost [0] [] (.cond (.t 11) (.region [
    ⟨some 12, .mov (.t 0), none, [], []⟩,
    ⟨some 13, .mov (.t 1), none, [], []⟩,
    ⟨some 14, .bin .add (.t 12) (.t 13), none, [], []⟩,
    ⟨some 0, .mov (.t 14), none, [], []⟩] false)
  .skip)))
  (.seq (.region [
    ⟨some 15, .mov (.t 0), none, [], []⟩,
    ⟨some 4, .mov (.t 15), none, [], []⟩] false)
  (.gmask [4] [] .ret))))))
def F13 : IFunc := ⟨2, 16, [.tmp 4], ic13⟩

def ic14_0_b : IC :=
  (.seq (.region [
    ⟨some 14, .bin .lss (.t 13) (.t 12), none, [], []⟩] false)
  (.seq (.cond (.t 14) .skip
  (.gmask [] [] (.exit 0)))
  (.seq (.block 1 (.seq (.region [
    ⟨some 15, .mov (.t 13), none, [], []⟩,
    ⟨some 5, .mov (.t 15), none, [], []⟩] false)
  (.seq (.region [
    ⟨some 16, .mov (.t 0), none, [], []⟩,
    ⟨some 17, .mov (.t 5), none, [], []⟩,
    ⟨some 18, .iaddr 1 (.t 16) (.t 17), none, [], [0, 1]⟩,
    ⟨some 19, .load 1 false (.t 18), none, [], [0, 1, 2]⟩,
    ⟨some 20, .mov (.t 1), none, [], []⟩,
    ⟨some 21, .mov (.t 5), none, [], []⟩,
    ⟨some 22, .iaddr 1 (.t 20) (.t 21), none, [], [4, 5]⟩,
    ⟨some 23, .load 1 false (.t 22), none, [], [4, 5, 6]⟩,
    ⟨some 24, .bin .neq (.t 19) (.t 23), none, [], [0, 1, 2, 3, 4, 5, 6, 7]⟩] true)
  (.cond (.t 24) (.seq (.region [
    ⟨some 4, .mov (.c (.bool false)), none, [], []⟩] false)
  (.gmask [4] [] .ret))
  .skip))))
  (.region [
    ⟨some 25, .bin .add (.t 13) (.c (.int .i64 1)), none, [], []⟩,
    ⟨some 13, .mov (.t 25), none, [], []⟩] false))))
def ic14_0 : IC := .loop [0, 1, 12, 13] [] ic14_0_b
/-- corpora/corporaref22.Ints -/
def ic14 : IC :=
  (.seq (.region [
    ⟨some 4, .mov (.c (.bool false)), none, [], []⟩] false)
  (.seq (.seq (.region [
    ⟨some 6, .mov (.t 0), none, [], []⟩,
    ⟨some 7, .len false (.t 6), none, [], []⟩,
    ⟨some 8, .mov (.t 1), none, [], []⟩,
    ⟨some 9, .len false (.t 8), none, [], []⟩,
    ⟨some 10, .bin .neq (.t 7) (.t 9), none, [], []⟩] false)
  (.cond (.t 10) (.seq (.region [
    ⟨some 4, .mov (.c (.bool false)), none, [], []⟩] false)
  (.gmask [4] [] .ret))
  .skip))
  (.seq (.seq (.region [
    ⟨some 11, .mov (.t 0), none, [], []⟩,
    ⟨some 12, .len false (.t 11), none, [], []⟩,
    ⟨some 13, .mov (.c (.int .i64 0)), none, [], []⟩] false)
  (.block 0 (.gmask [0, 1, 12, 13] [] ic14_0)))
  (.seq (.region [
    ⟨some 4, .mov (.c (.bool true)), none, [], []⟩] false)
  (.gmask [4] [] .ret)))))
def F14 : IFunc := ⟨2, 26, [.tmp 4], ic14⟩

def ic15_0_b : IC :=
  (.seq (.seq (.region [
    ⟨some 13, .mov (.t 1), none, [], []⟩,
    ⟨some 14, .bin .geq (.t 13) (.c (.int .i64 0)), none, [], []⟩,
    ⟨some 15, .mov (.t 14), none, [], []⟩,
    ⟨some 16, .mov (.t 5), some (15, true), [], []⟩,
    ⟨some 17, .len false (.t 16), some (15, true), [100], []⟩,
    ⟨some 18, .faddr 1 (.t 2), some (15, true), [], []⟩,
    ⟨some 19, .load 1 false (.t 18), some (15, true), [101], []⟩,
    ⟨some 20, .len false (.t 19), some (15, true), [], []⟩,
    ⟨some 21, .bin .lss (.t 17) (.t 20), some (15, true), [], []⟩,
    ⟨some 22, .pick (.t 15) (.t 21) (.c (.bool false)), none, [], []⟩] false)
  (.cond (.t 22) .skip
  (.gmask [5] [100] (.exit 0))))
  (.seq (.block 1 (.region [
    ⟨some 26, .mov (.t 5), none, [], []⟩,
    ⟨some 27, .mov (.t 1), none, [], []⟩,
    ⟨some 28, .buildSl none 1 (.int .i64 0) 1 [(0, .t 27)], none, [], []⟩,
    ⟨some 29, .app none 1 8 (.t 26) (.t 28), none, [100], []⟩,
    ⟨some 5, .mov (.t 29), none, [], []⟩] false))
  (.region [
    ⟨some 23, .load 7 true (.t 2), none, [101], []⟩,
    ⟨some 24, .mov (.t 1), none, [], []⟩,
    ⟨some 25, .call none 37 [.t 23, .t 24], none, [], []⟩,
    ⟨some 1, .mov (.t 25), none, [], []⟩] false)))
def ic15_0 : IC := .loop [1, 2, 5] [100, 101] ic15_0_b
/-- corpora/treerel.Up -/
def ic15 : IC :=
  (.seq (.region [
    ⟨some 2, .box 101 7 (.t 0), none, [101], []⟩,
    ⟨some 4, .movp (.c (.nil)), none, [], []⟩] false)
  (.seq (.seq (.region [
    ⟨some 6, .load 7 true (.t 2), none, [101], []⟩,
    ⟨some 7, .mov (.t 1), none, [], []⟩,
    ⟨some 8, .call none 36 [.t 6, .t 7], none, [], []⟩,
    ⟨some 9, .un .not (.t 8), none, [], []⟩] false)
  (.cond (.t 9) (.seq (.region [
    ⟨some 4, .movp (.c (.nil)), none, [], []⟩] false)
  (.gmask [4] [100] .ret))
  .skip))
  (.seq (.region [
    ⟨some 5, .nilarr 100 1, none, [100], []⟩] false)
  (.seq (.seq (.region [
    ⟨some 10, .load 7 true (.t 2), none, [101], []⟩,
    ⟨some 11, .mov (.t 1), none, [], []⟩,
    ⟨some 12, .call none 37 [.t 10, .t 11], none, [], []⟩,
    ⟨some 1, .mov (.t 12), none, [], []⟩] false)
  (.block 0 (.gmask [1, 2, 5] [100, 101] ic15_0)))
  (.seq (.region [
    ⟨some 30, .mov (.t 5), none, [], []⟩,
    ⟨some 4, .mov (.t 30), none, [], []⟩] false)
  (.gmask [4] [100] .ret))))))
def F15 : IFunc := ⟨2, 31, [.tmp 4], ic15⟩

def ic16_0_b : IC :=
  (.seq (.seq (.region [
    ⟨some 18, .mov (.t 6), none, [], []⟩,
    ⟨some 19, .bin .neq (.t 18) (.c (.int .i64 (-1))), none, [], []⟩] false)
  (.cond (.t 19) .skip
  (.gmask [5] [100] (.exit 0))))
  (.seq (.block 1 (.region [
    ⟨some 26, .mov (.t 5), none, [], []⟩,
    ⟨some 27, .mov (.t 6), none, [], []⟩,
    ⟨some 28, .buildSl none 1 (.int .i64 0) 1 [(0, .t 27)], none, [], []⟩,
    ⟨some 29, .app none 1 8 (.t 26) (.t 28), none, [100], []⟩,
    ⟨some 5, .mov (.t 29), none, [], []⟩] false))
  (.region [
    ⟨some 21, .load 7 true (.t 2), none, [101], []⟩,
    ⟨some 22, .mov (.t 6), none, [], []⟩,
    ⟨some 23, .call none 39 [.t 21, .t 22], none, [], []⟩,
    ⟨some 20, .mov (.t 23), none, [], []⟩,
    ⟨some 24, .extract (.t 20) 0, none, [], []⟩,
    ⟨some 25, .extract (.t 20) 1, none, [], []⟩,
    ⟨some 6, .mov (.t 24), none, [], []⟩] false)))
def ic16_0 : IC := .loop [2, 5, 6] [100, 101] ic16_0_b
/-- corpora/corporaref29.Up -/
def ic16 : IC :=
  (.seq (.region [
    ⟨some 2, .box 101 7 (.t 0), none, [101], []⟩,
    ⟨some 4, .movp (.c (.nil)), none, [], []⟩] false)
  (.seq (.seq (.region [
    ⟨some 8, .load 7 true (.t 2), none, [101], []⟩,
    ⟨some 9, .mov (.t 1), none, [], []⟩,
    ⟨some 10, .call none 38 [.t 8, .t 9], none, [], []⟩,
    ⟨some 11, .un .not (.t 10), none, [], []⟩] false)
  (.cond (.t 11) (.seq (.region [
    ⟨some 4, .movp (.c (.nil)), none, [], []⟩] false)
  (.gmask [4] [100] .ret))
  .skip))
  (.seq (.region [
    ⟨some 5, .nilarr 100 1, none, [100], []⟩] false)
  (.seq (.seq (.region [
    ⟨some 13, .load 7 true (.t 2), none, [101], []⟩,
    ⟨some 14, .mov (.t 1), none, [], []⟩,
    ⟨some 15, .call none 39 [.t 13, .t 14], none, [], []⟩,
    ⟨some 12, .mov (.t 15), none, [], []⟩,
    ⟨some 16, .extract (.t 12) 0, none, [], []⟩,
    ⟨some 17, .extract (.t 12) 1, none, [], []⟩,
    ⟨some 6, .mov (.t 16), none, [], []⟩,
    ⟨some 7, .mov (.t 17), none, [], []⟩] false)
  (.block 0 (.gmask [2, 5, 6] [100, 101] ic16_0)))
  (.seq (.region [
    ⟨some 30, .mov (.t 5), none, [], []⟩,
    ⟨some 4, .mov (.t 30), none, [], []⟩] false)
  (.gmask [4] [100] .ret))))))
def F16 : IFunc := ⟨2, 31, [.tmp 4], ic16⟩

def ic17_0_b : IC :=
  (.seq (.region [
    ⟨some 15, .bin .lss (.t 14) (.t 13), none, [], []⟩] false)
  (.seq (.cond (.t 15) .skip
  (.gmask [5] [100] (.exit 0)))
  (.seq (.block 1 (.seq (.region [
    ⟨some 16, .mov (.t 14), none, [], []⟩,
    ⟨some 6, .mov (.t 16), none, [], []⟩] false)
  (.seq (.region [
    ⟨some 17, .load 7 true (.t 2), none, [101], []⟩,
    ⟨some 18, .mov (.t 6), none, [], []⟩,
    ⟨some 19, .call none 37 [.t 17, .t 18], none, [], []⟩,
    ⟨some 20, .mov (.t 1), none, [], []⟩,
    ⟨some 21, .bin .eql (.t 19) (.t 20), none, [], []⟩] false)
  (.gpost [1, 2, 5, 13, 14] [100, 101] (.cond (.t 21) (.region [
    ⟨some 22, .mov (.t 5), none, [], []⟩,
    ⟨some 23, .mov (.t 6), none, [], []⟩,
    ⟨some 24, .buildSl none 1 (.int .i64 0) 1 [(0, .t 23)], none, [], []⟩,
    ⟨some 25, .app none 1 8 (.t 22) (.t 24), none, [100], []⟩,
    ⟨some 5, .mov (.t 25), none, [], []⟩] false)
  .skip)))))
  (.region [
    ⟨some 26, .bin .add (.t 14) (.c (.int .i64 1)), none, [], []⟩,
    ⟨some 14, .mov (.t 26), none, [], []⟩] false))))
def ic17_0 : IC := .loop [1, 2, 5, 13, 14] [100, 101] ic17_0_b
/-- corpora/treerel.Down -/
def ic17 : IC :=
  (.seq (.region [
    ⟨some 2, .box 101 7 (.t 0), none, [101], []⟩,
    ⟨some 4, .movp (.c (.nil)), none, [], []⟩] false)
  (.seq (.seq (.region [
    ⟨some 7, .load 7 true (.t 2), none, [101], []⟩,
    ⟨some 8, .mov (.t 1), none, [], []⟩,
    ⟨some 9, .call none 36 [.t 7, .t 8], none, [], []⟩,
    ⟨some 10, .un .not (.t 9), none, [], []⟩] false)
  (.cond (.t 10) (.seq (.region [
    ⟨some 4, .movp (.c (.nil)), none, [], []⟩] false)
  (.gmask [4] [100] .ret))
  .skip))
  (.seq (.region [
    ⟨some 5, .nilarr 100 1, none, [100], []⟩] false)
  (.seq (.seq (.region [
    ⟨some 11, .faddr 1 (.t 2), none, [], []⟩,
    ⟨some 12, .load 1 false (.t 11), none, [101], []⟩,
    ⟨some 13, .len false (.t 12), none, [], []⟩,
    ⟨some 14, .mov (.c (.int .i64 0)), none, [], []⟩] false)
  (.block 0 (.gmask [1, 2, 5, 13, 14] [100, 101] ic17_0)))
  (.seq (.region [
    ⟨some 27, .mov (.t 5), none, [], []⟩,
    ⟨some 4, .mov (.t 27), none, [], []⟩] false)
  (.gmask [4] [100] .ret))))))
def F17 : IFunc := ⟨2, 28, [.tmp 4], ic17⟩

def ic18_0_b : IC :=
  (.seq (.region [
    ⟨some 17, .bin .lss (.t 16) (.t 15), none, [], []⟩] false)
  (.seq (.cond (.t 17) .skip
  (.gmask [5] [100] (.exit 0)))
  (.seq (.block 1 (.seq (.region [
    ⟨some 18, .mov (.t 16), none, [], []⟩,
    ⟨some 6, .mov (.t 18), none, [], []⟩] false)
  (.seq (.region [
    ⟨some 20, .load 7 true (.t 2), none, [101], []⟩,
    ⟨some 21, .mov (.t 6), none, [], []⟩,
    ⟨some 22, .call none 39 [.t 20, .t 21], none, [], []⟩,
    ⟨some 19, .mov (.t 22), none, [], []⟩,
    ⟨some 23, .extract (.t 19) 0, none, [], []⟩,
    ⟨some 24, .extract (.t 19) 1, none, [], []⟩,
    ⟨some 7, .mov (.t 23), none, [], []⟩,
    ⟨some 8, .mov (.t 24), none, [], []⟩] false)
  (.seq (.region [
    ⟨some 25, .mov (.t 7), none, [], []⟩,
    ⟨some 26, .mov (.t 1), none, [], []⟩,
    ⟨some 27, .bin .eql (.t 25) (.t 26), none, [], []⟩] false)
  (.gpost [1, 2, 5, 15, 16] [100, 101] (.cond (.t 27) (.region [
    ⟨some 28, .mov (.t 5), none, [], []⟩,
    ⟨some 29, .mov (.t 6), none, [], []⟩,
    ⟨some 30, .buildSl none 1 (.int .i64 0) 1 [(0, .t 29)], none, [], []⟩,
    ⟨some 31, .app none 1 8 (.t 28) (.t 30), none, [100], []⟩,
    ⟨some 5, .mov (.t 31), none, [], []⟩] false)
  .skip))))))
  (.region [
    ⟨some 32, .bin .add (.t 16) (.c (.int .i64 1)), none, [], []⟩,
    ⟨some 16, .mov (.t 32), none, [], []⟩] false))))
def ic18_0 : IC := .loop [1, 2, 5, 15, 16] [100, 101] ic18_0_b
/-- corpora/corporaref29.Down -/
def ic18 : IC :=
  (.seq (.region [
    ⟨some 2, .box 101 7 (.t 0), none, [101], []⟩,
    ⟨some 4, .movp (.c (.nil)), none, [], []⟩] false)
  (.seq (.seq (.region [
    ⟨some 9, .load 7 true (.t 2), none, [101], []⟩,
    ⟨some 10, .mov (.t 1), none, [], []⟩,
    ⟨some 11, .call none 38 [.t 9, .t 10], none, [], []⟩,
    ⟨some 12, .un .not (.t 11), none, [], []⟩] false)
  (.cond (.t 12) (.seq (.region [
    ⟨some 4, .movp (.c (.nil)), none, [], []⟩] false)
  (.gmask [4] [100] .ret))
  .skip))
  (.seq (.region [
    ⟨some 5, .nilarr 100 1, none, [100], []⟩] false)
  (.seq (.seq (.region [
    ⟨some 13, .faddr 1 (.t 2), none, [], []⟩,
    ⟨some 14, .load 1 false (.t 13), none, [101], []⟩,
    ⟨some 15, .len false (.t 14), none, [], []⟩,
    ⟨some 16, .mov (.c (.int .i64 0)), none, [], []⟩] false)
  (.block 0 (.gmask [1, 2, 5, 15, 16] [100, 101] ic18_0)))
  (.seq (.region [
    ⟨some 33, .mov (.t 5), none, [], []⟩,
    ⟨some 4, .mov (.t 33), none, [], []⟩] false)
  (.gmask [4] [100] .ret))))))
def F18 : IFunc := ⟨2, 34, [.tmp 4], ic18⟩

def ic19_0_b : IC :=
  (.seq (.region [
    ⟨some 15, .bin .lss (.t 14) (.t 13), none, [], []⟩] false)
  (.seq (.cond (.t 15) .skip
  (.gmask [5] [100] (.exit 0)))
  (.seq (.block 1 (.seq (.region [
    ⟨some 16, .mov (.t 14), none, [], []⟩,
    ⟨some 6, .mov (.t 16), none, [], []⟩] false)
  (.seq (.region [
    ⟨some 17, .mov (.t 6), none, [], []⟩,
    ⟨some 18, .mov (.t 1), none, [], []⟩,
    ⟨some 19, .bin .eql (.t 17) (.t 18), none, [], []⟩,
    ⟨some 20, .mov (.t 19), none, [], []⟩,
    ⟨some 21, .load 7 true (.t 2), some (20, false), [101], []⟩,
    ⟨some 22, .mov (.t 6), some (20, false), [], []⟩,
    ⟨some 23, .call none 15 [.t 21, .t 22], some (20, false), [], []⟩,
    ⟨some 24, .mov (.t 1), some (20, false), [], []⟩,
    ⟨some 25, .call none 40 [.t 23, .t 24], some (20, false), [], []⟩,
    ⟨some 26, .pick (.t 20) (.c (.bool true)) (.t 25), none, [], []⟩] false)
  (.gpost [1, 2, 5, 13, 14] [100, 101] (.cond (.t 26) (.region [
    ⟨some 27, .mov (.t 5), none, [], []⟩,
    ⟨some 28, .mov (.t 6), none, [], []⟩,
    ⟨some 29, .buildSl none 1 (.int .i64 0) 1 [(0, .t 28)], none, [], []⟩,
    ⟨some 30, .app none 1 8 (.t 27) (.t 29), none, [100], []⟩,
    ⟨some 5, .mov (.t 30), none, [], []⟩] false)
  .skip)))))
  (.region [
    ⟨some 31, .bin .add (.t 14) (.c (.int .i64 1)), none, [], []⟩,
    ⟨some 14, .mov (.t 31), none, [], []⟩] false))))
def ic19_0 : IC := .loop [1, 2, 5, 13, 14] [100, 101] ic19_0_b
/-- corpora/treerel.Under -/
def ic19 : IC :=
  (.seq (.region [
    ⟨some 2, .box 101 7 (.t 0), none, [101], []⟩,
    ⟨some 4, .movp (.c (.nil)), none, [], []⟩] false)
  (.seq (.seq (.region [
    ⟨some 7, .load 7 true (.t 2), none, [101], []⟩,
    ⟨some 8, .mov (.t 1), none, [], []⟩,
    ⟨some 9, .call none 36 [.t 7, .t 8], none, [], []⟩,
    ⟨some 10, .un .not (.t 9), none, [], []⟩] false)
  (.cond (.t 10) (.seq (.region [
    ⟨some 4, .movp (.c (.nil)), none, [], []⟩] false)
  (.gmask [4] [100] .ret))
  .skip))
  (.seq (.region [
    ⟨some 5, .nilarr 100 1, none, [100], []⟩] false)
  (.seq (.seq (.region [
    ⟨some 11, .faddr 1 (.t 2), none, [], []⟩,
    ⟨some 12, .load 1 false (.t 11), none, [101], []⟩,
    ⟨some 13, .len false (.t 12), none, [], []⟩,
    ⟨some 14, .mov (.c (.int .i64 0)), none, [], []⟩] false)
  (.block 0 (.gmask [1, 2, 5, 13, 14] [100, 101] ic19_0)))
  (.seq (.region [
    ⟨some 32, .mov (.t 5), none, [], []⟩,
    ⟨some 4, .mov (.t 32), none, [], []⟩] false)
  (.gmask [4] [100] .ret))))))
def F19 : IFunc := ⟨2, 33, [.tmp 4], ic19⟩

def ic20_0_b : IC :=
  (.seq (.region [
    ⟨some 15, .bin .lss (.t 14) (.t 13), none, [], []⟩] false)
  (.seq (.cond (.t 15) .skip
  (.gmask [5] [100] (.exit 0)))
  (.seq (.block 1 (.seq (.region [
    ⟨some 16, .mov (.t 14), none, [], []⟩,
    ⟨some 6, .mov (.t 16), none, [], []⟩] false)
  (.seq (.region [
    ⟨some 17, .mov (.t 6), none, [], []⟩,
    ⟨some 18, .mov (.t 1), none, [], []⟩,
    ⟨some 19, .bin .eql (.t 17) (.t 18), none, [], []⟩,
    ⟨some 20, .mov (.t 19), none, [], []⟩,
    ⟨some 21, .load 7 true (.t 2), some (20, false), [101], []⟩,
    ⟨some 22, .mov (.t 6), some (20, false), [], []⟩,
    ⟨some 23, .call none 16 [.t 21, .t 22], some (20, false), [], []⟩,
    ⟨some 24, .mov (.t 1), some (20, false), [], []⟩,
    ⟨some 25, .call none 41 [.t 23, .t 24], some (20, false), [], []⟩,
    ⟨some 26, .pick (.t 20) (.c (.bool true)) (.t 25), none, [], []⟩] false)
  (.gpost [1, 2, 5, 13, 14] [100, 101] (.cond (.t 26) (.region [
    ⟨some 27, .mov (.t 5), none, [], []⟩,
    ⟨some 28, .mov (.t 6), none, [], []⟩,
    ⟨some 29, .buildSl none 1 (.int .i64 0) 1 [(0, .t 28)], none, [], []⟩,
    ⟨some 30, .app none 1 8 (.t 27) (.t 29), none, [100], []⟩,
    ⟨some 5, .mov (.t 30), none, [], []⟩] false)
  .skip)))))
  (.region [
    ⟨some 31, .bin .add (.t 14) (.c (.int .i64 1)), none, [], []⟩,
    ⟨some 14, .mov (.t 31), none, [], []⟩] false))))
def ic20_0 : IC := .loop [1, 2, 5, 13, 14] [100, 101] ic20_0_b
/-- corpora/corporaref29.Under -/
def ic20 : IC :=
  (.seq (.region [
    ⟨some 2, .box 101 7 (.t 0), none, [101], []⟩,
    ⟨some 4, .movp (.c (.nil)), none, [], []⟩] false)
  (.seq (.seq (.region [
    ⟨some 7, .load 7 true (.t 2), none, [101], []⟩,
    ⟨some 8, .mov (.t 1), none, [], []⟩,
    ⟨some 9, .call none 38 [.t 7, .t 8], none, [], []⟩,
    ⟨some 10, .un .not (.t 9), none, [], []⟩] false)
  (.cond (.t 10) (.seq (.region [
    ⟨some 4, .movp (.c (.nil)), none, [], []⟩] false)
  (.gmask [4] [100] .ret))
  .skip))
  (.seq (.region [
    ⟨some 5, .nilarr 100 1, none, [100], []⟩] false)
  (.seq (.seq (.region [
    ⟨some 11, .faddr 1 (.t 2), none, [], []⟩,
    ⟨some 12, .load 1 false (.t 11), none, [101], []⟩,
    ⟨some 13, .len false (.t 12), none, [], []⟩,
    ⟨some 14, .mov (.c (.int .i64 0)), none, [], []⟩] false)
  (.block 0 (.gmask [1, 2, 5, 13, 14] [100, 101] ic20_0)))
  (.seq (.region [
    ⟨some 32, .mov (.t 5), none, [], []⟩,
    ⟨some 4, .mov (.t 32), none, [], []⟩] false)
  (.gmask [4] [100] .ret))))))
def F20 : IFunc := ⟨2, 33, [.tmp 4], ic20⟩

/-- corpora/corporalaw29.known -/
def ic21 : IC :=
  (.seq (.region [
    ⟨some 0, .mov (.c (.bool false)), none, [], []⟩] false)
  (.seq (.region [
    ⟨some 2, .build [.str ⟨#[]⟩, .bool false] [(0, 1, .c (.str ⟨#[119]⟩))], none, [], []⟩,
    ⟨some 3, .buildSl none 2 (.agg [.str ⟨#[]⟩, .bool false]) 1 [(0, .t 2)], none, [], []⟩,
    ⟨some 4, .buildSl none 1 (.str ⟨#[]⟩) 1 [(0, .c (.str ⟨#[97]⟩))], none, [], []⟩,
    ⟨some 5, .buildSl none 1 (.str ⟨#[]⟩) 1 [(0, .c (.str ⟨#[98]⟩))], none, [], []⟩,
    ⟨some 6, .buildSl none 1 (.str ⟨#[]⟩) 1 [(0, .c (.str ⟨#[99]⟩))], none, [], []⟩,
    ⟨some 7, .buildSl none 1 (.str ⟨#[]⟩) 1 [(0, .c (.str ⟨#[100]⟩))], none, [], []⟩,
    ⟨some 8, .buildSl none 1 (.nil) 4 [(0, .t 4), (1, .t 5), (2, .t 6), (3, .t 7)], none, [], []⟩,
    ⟨some 9, .build [.str ⟨#[]⟩, .int .i64 0, .int .i64 0, .nil] [(0, 1, .c (.str ⟨#[116]⟩)), (2, 1, .c (.int .i64 4))], none, [], []⟩,
    ⟨some 10, .buildSl none 4 (.agg [.str ⟨#[]⟩, .int .i64 0, .int .i64 0, .nil]) 1 [(0, .t 9)], none, [], []⟩,
    ⟨some 11, .buildSl none 1 (.int .i64 0) 4 [(0, .c (.int .i64 1)), (1, .c (.int .i64 (-1))), (2, .c (.int .i64 1)), (3, .c (.int .i64 2))], none, [], []⟩,
    ⟨some 12, .buildSl none 1 (.str ⟨#[]⟩) 4 [(0, .c (.str ⟨#[120]⟩)), (1, .c (.str ⟨#[]⟩)), (2, .c (.str ⟨#[121]⟩)), (3, .c (.str ⟨#[122]⟩))], none, [], []⟩,
    ⟨some 13, .build [.nil, .nil, .nil, .nil, .nil, .nil, .nil] [(0, 1, .t 3), (1, 1, .t 8), (2, 1, .t 10), (5, 1, .t 11), (6, 1, .t 12)], none, [], []⟩,
    ⟨some 1, .alloc 100 [.nil, .nil, .nil, .nil, .nil, .nil, .nil], none, [100], []⟩,
    ⟨none, .store 7 (.t 1) (.t 13), none, [100], []⟩] false)
  (.seq (.region [
    ⟨some 14, .load 7 true (.t 1), none, [100], []⟩,
    ⟨some 15, .call none 15 [.t 14, .c (.int .i64 3)], none, [], []⟩,
    ⟨some 16, .buildSl none 1 (.int .i64 0) 2 [(0, .c (.int .i64 2)), (1, .c (.int .i64 1))], none, [], []⟩,
    ⟨some 17, .call none 14 [.t 15, .t 16], none, [], []⟩,
    ⟨some 18, .mov (.t 17), none, [], []⟩,
    ⟨some 19, .load 7 true (.t 1), some (18, true), [100], []⟩,
    ⟨some 20, .call none 17 [.t 19, .c (.int .i64 1)], some (18, true), [], []⟩,
    ⟨some 21, .buildSl none 1 (.int .i64 0) 2 [(0, .c (.int .i64 0)), (1, .c (.int .i64 2))], some (18, true), [], []⟩,
    ⟨some 22, .call none 14 [.t 20, .t 21], some (18, true), [], []⟩,
    ⟨some 23, .pick (.t 18) (.t 22) (.c (.bool false)), none, [], []⟩,
    ⟨some 24, .mov (.t 23), none, [], []⟩,
    ⟨some 25, .load 7 true (.t 1), some (24, true), [100], []⟩,
    ⟨some 26, .call none 19 [.t 25, .c (.int .i64 2)], some (24, true), [], []⟩,
    ⟨some 27, .buildSl none 1 (.int .i64 0) 2 [(0, .c (.int .i64 2)), (1, .c (.int .i64 3))], some (24, true), [], []⟩,
    ⟨some 28, .call none 14 [.t 26, .t 27], some (24, true), [], []⟩,
    ⟨some 29, .pick (.t 24) (.t 28) (.c (.bool false)), none, [], []⟩,
    ⟨some 30, .mov (.t 29), none, [], []⟩,
    ⟨some 31, .load 7 true (.t 1), some (30, true), [100], []⟩,
    ⟨some 32, .call none 26 [.t 31, .c (.int .i64 0), .c (.int .i64 3)], some (30, true), [], []⟩,
    ⟨some 33, .bin .eql (.t 32) (.c (.int .i64 1)), some (30, true), [], []⟩,
    ⟨some 34, .pick (.t 30) (.t 33) (.c (.bool false)), none, [], []⟩,
    ⟨some 0, .mov (.t 34), none, [], []⟩] false)
  (.gmask [0] [] .ret))))
def F21 : IFunc := ⟨0, 35, [.tmp 0], ic21⟩

def ic22_0_b : IC :=
  (.seq (.region [
    ⟨some 21, .bin .lss (.t 20) (.t 19), none, [], []⟩] false)
  (.seq (.cond (.t 21) .skip
  (.gmask [5] [100] (.exit 0)))
  (.seq (.block 1 (.seq (.region [
    ⟨some 22, .mov (.t 20), none, [], []⟩,
    ⟨some 23, .iaddr 4 (.t 18) (.t 20), none, [], []⟩,
    ⟨some 24, .load 4 true (.t 23), none, [], []⟩,
    ⟨some 7, .alloc 102 [.str ⟨#[]⟩, .int .i64 0, .int .i64 0, .int .i64 0], none, [102], []⟩,
    ⟨some 6, .mov (.t 22), none, [], []⟩,
    ⟨none, .store 4 (.t 7) (.t 24), none, [102], []⟩] false)
  (.seq (.region [
    ⟨some 25, .faddr 3 (.t 7), none, [], []⟩,
    ⟨some 26, .load 1 false (.t 25), none, [102], []⟩,
    ⟨some 27, .mov (.t 1), none, [], []⟩,
    ⟨some 28, .bin .eql (.t 26) (.t 27), none, [], []⟩] false)
  (.gpost [1, 5, 18, 19, 20] [100] (.cond (.t 28) (.region [
    ⟨some 29, .mov (.t 5), none, [], []⟩,
    ⟨some 30, .mov (.t 6), none, [], []⟩,
    ⟨some 31, .buildSl none 1 (.int .i64 0) 1 [(0, .t 30)], none, [], []⟩,
    ⟨some 32, .app none 1 8 (.t 29) (.t 31), none, [100], []⟩,
    ⟨some 5, .mov (.t 32), none, [], []⟩] false)
  .skip)))))
  (.region [
    ⟨some 33, .bin .add (.t 20) (.c (.int .i64 1)), none, [], []⟩,
    ⟨some 20, .mov (.t 33), none, [], []⟩] false))))
def ic22_0 : IC := .loop [1, 5, 18, 19, 20] [100] ic22_0_b
/-- corpora/treerel.Children -/
def ic22 : IC :=
  (.seq (.region [
    ⟨some 2, .box 101 7 (.t 0), none, [101], []⟩,
    ⟨some 4, .movp (.c (.nil)), none, [], []⟩] false)
  (.seq (.seq (.region [
    ⟨some 8, .mov (.t 1), none, [], []⟩,
    ⟨some 9, .bin .lss (.t 8) (.c (.int .i64 (-1))), none, [], []⟩,
    ⟨some 10, .mov (.t 9), none, [], []⟩,
    ⟨some 11, .mov (.t 1), some (10, false), [], []⟩,
    ⟨some 12, .faddr 4 (.t 2), some (10, false), [], []⟩,
    ⟨some 13, .load 1 false (.t 12), some (10, false), [101], []⟩,
    ⟨some 14, .len false (.t 13), some (10, false), [], []⟩,
    ⟨some 15, .bin .geq (.t 11) (.t 14), some (10, false), [], []⟩,
    ⟨some 16, .pick (.t 10) (.c (.bool true)) (.t 15), none, [], []⟩] false)
  (.cond (.t 16) (.seq (.region [
    ⟨some 4, .movp (.c (.nil)), none, [], []⟩] false)
  (.gmask [4] [100] .ret))
  .skip))
  (.seq (.region [
    ⟨some 5, .nilarr 100 1, none, [100], []⟩] false)
  (.seq (.seq (.region [
    ⟨some 17, .faddr 4 (.t 2), none, [], []⟩,
    ⟨some 18, .load 1 false (.t 17), none, [101], []⟩,
    ⟨some 19, .len false (.t 18), none, [], []⟩,
    ⟨some 20, .mov (.c (.int .i64 0)), none, [], []⟩] false)
  (.block 0 (.gmask [1, 5, 18, 19, 20] [100] ic22_0)))
  (.seq (.region [
    ⟨some 34, .mov (.t 5), none, [], []⟩,
    ⟨some 4, .mov (.t 34), none, [], []⟩] false)
  (.gmask [4] [100] .ret))))))
def F22 : IFunc := ⟨2, 35, [.tmp 4], ic22⟩

def ic23_0_b : IC :=
  (.seq (.region [
    ⟨some 32, .bin .lss (.t 31) (.t 30), none, [], []⟩] false)
  (.seq (.cond (.t 32) .skip
  (.gmask [] [] (.exit 0)))
  (.seq (.block 1 (.seq (.region [
    ⟨some 33, .iaddr 1 (.t 29) (.t 31), none, [], []⟩,
    ⟨some 34, .load 1 false (.t 33), none, [], []⟩,
    ⟨some 11, .mov (.t 34), none, [], []⟩] false)
  (.seq (.seq (.region [
    ⟨some 35, .mov (.t 11), none, [], []⟩,
    ⟨some 36, .mov (.t 2), none, [], []⟩,
    ⟨some 37, .bin .eql (.t 35) (.t 36), none, [], []⟩] false)
  (.cond (.t 37) (.seq (.region [
    ⟨some 38, .mov (.t 8), none, [], []⟩,
    ⟨some 6, .mov (.t 38), none, [], []⟩,
    ⟨some 7, .mov (.c (.bool true)), none, [], []⟩] false)
  (.gmask [6, 7] [100] .ret))
  .skip))
  (.seq (.region [
    ⟨some 12, .mov (.c (.str ⟨#[]⟩)), none, [], []⟩] false)
  (.seq (.seq (.region [
    ⟨some 39, .mov (.t 11), none, [], []⟩,
    ⟨some 40, .faddr 6 (.t 3), none, [], []⟩,
    ⟨some 41, .load 1 false (.t 40), none, [102], []⟩,
    ⟨some 42, .len false (.t 41), none, [], []⟩,
    ⟨some 43, .bin .lss (.t 39) (.t 42), none, [], []⟩] false)
  (.gpost [2, 3, 8, 12, 29, 30, 31] [100, 102] (.cond (.t 43) (.region [
    ⟨some 44, .faddr 6 (.t 3), none, [], []⟩,
    ⟨some 45, .load 1 false (.t 44), none, [102], []⟩,
    ⟨some 46, .mov (.t 11), none, [], []⟩,
    ⟨some 47, .iaddr 1 (.t 45) (.t 46), none, [], []⟩,
    ⟨some 48, .load 1 false (.t 47), none, [], []⟩,
    ⟨some 12, .mov (.t 48), none, [], []⟩] false)
  .skip)))
  (.region [
    ⟨some 49, .mov (.t 8), none, [], []⟩,
    ⟨some 50, .mov (.t 12), none, [], []⟩,
    ⟨some 51, .buildSl none 1 (.str ⟨#[]⟩) 1 [(0, .t 50)], none, [], []⟩,
    ⟨some 52, .app none 1 16 (.t 49) (.t 51), none, [100], []⟩,
    ⟨some 8, .mov (.t 52), none, [], []⟩] false))))))
  (.region [
    ⟨some 53, .bin .add (.t 31) (.c (.int .i64 1)), none, [], []⟩,
    ⟨some 31, .mov (.t 53), none, [], []⟩] false))))
def ic23_0 : IC := .loop [2, 3, 8, 29, 30, 31] [100, 102] ic23_0_b
/-- corpora/treerel.Route -/
def ic23 : IC :=
  (.seq (.region [
    ⟨some 3, .box 102 7 (.t 0), none, [102], []⟩,
    ⟨some 6, .movp (.c (.nil)), none, [], []⟩,
    ⟨some 7, .mov (.c (.bool false)), none, [], []⟩] false)
  (.seq (.seq (.region [
    ⟨some 13, .load 7 true (.t 3), none, [102], []⟩,
    ⟨some 14, .mov (.t 1), none, [], []⟩,
    ⟨some 15, .call none 36 [.t 13, .t 14], none, [], []⟩,
    ⟨some 16, .un .not (.t 15), none, [], []⟩,
    ⟨some 17, .mov (.t 16), none, [], []⟩,
    ⟨some 18, .load 7 true (.t 3), some (17, false), [102], []⟩,
    ⟨some 19, .mov (.t 2), some (17, false), [], []⟩,
    ⟨some 20, .call none 36 [.t 18, .t 19], some (17, false), [], []⟩,
    ⟨some 21, .un .not (.t 20), some (17, false), [], []⟩,
    ⟨some 22, .pick (.t 17) (.c (.bool true)) (.t 21), none, [], []⟩] false)
  (.cond (.t 22) (.seq (.region [
    ⟨some 6, .movp (.c (.nil)), none, [], []⟩,
    ⟨some 7, .mov (.c (.bool false)), none, [], []⟩] false)
  (.gmask [6, 7] [100] .ret))
  .skip))
  (.seq (.region [
    ⟨some 8, .nilarr 100 1, none, [100], []⟩] false)
  (.seq (.region [
    ⟨some 23, .mov (.t 1), none, [], []⟩,
    ⟨some 24, .buildSl (some 101) 1 (.int .i64 0) 1 [(0, .t 23)], none, [101], []⟩,
    ⟨some 25, .load 7 true (.t 3), none, [102], []⟩,
    ⟨some 26, .mov (.t 1), none, [], []⟩,
    ⟨some 27, .call none 15 [.t 25, .t 26], none, [], []⟩,
    ⟨some 28, .app none 1 8 (.t 24) (.t 27), none, [101], []⟩,
    ⟨some 9, .movp (.t 28), none, [101], []⟩] false)
  (.seq (.seq (.region [
    ⟨some 29, .mov (.t 9), none, [], []⟩,
    ⟨some 30, .len false (.t 29), none, [], []⟩,
    ⟨some 31, .mov (.c (.int .i64 0)), none, [], []⟩] false)
  (.block 0 (.gmask [2, 3, 8, 29, 30, 31] [100, 102] ic23_0)))
  (.seq (.region [
    ⟨some 6, .movp (.c (.nil)), none, [], []⟩,
    ⟨some 7, .mov (.c (.bool false)), none, [], []⟩] false)
  (.gmask [6, 7] [100] .ret)))))))
def F23 : IFunc := ⟨3, 54, [.tmp 6, .tmp 7], ic23⟩

def ic24_0_b : IC :=
  (.seq (.seq (.region [
    ⟨some 34, .mov (.t 1), none, [], []⟩,
    ⟨some 35, .mov (.t 2), none, [], []⟩,
    ⟨some 36, .bin .neq (.t 34) (.t 35), none, [], []⟩] false)
  (.cond (.t 36) .skip
  (.gmask [8] [100] (.exit 0))))
  (.block 1 (.seq (.region [
    ⟨some 38, .load 7 true (.t 3), none, [101], []⟩,
    ⟨some 39, .mov (.t 1), none, [], []⟩,
    ⟨some 40, .call none 39 [.t 38, .t 39], none, [], []⟩,
    ⟨some 37, .mov (.t 40), none, [], []⟩,
    ⟨some 41, .extract (.t 37) 0, none, [], []⟩,
    ⟨some 42, .extract (.t 37) 1, none, [], []⟩,
    ⟨some 9, .mov (.t 41), none, [], []⟩,
    ⟨some 10, .mov (.t 42), none, [], []⟩] false)
  (.region [
    ⟨some 43, .mov (.t 9), none, [], []⟩,
    ⟨some 44, .mov (.t 8), none, [], []⟩,
    ⟨some 45, .mov (.t 10), none, [], []⟩,
    ⟨some 46, .buildSl none 1 (.str ⟨#[]⟩) 1 [(0, .t 45)], none, [], []⟩,
    ⟨some 47, .app none 1 16 (.t 44) (.t 46), none, [100], []⟩,
    ⟨some 1, .mov (.t 43), none, [], []⟩,
    ⟨some 8, .mov (.t 47), none, [], []⟩] false))))
def ic24_0 : IC := .loop [1, 2, 3, 8] [100, 101] ic24_0_b
/-- corpora/corporaref29.Route -/
def ic24 : IC :=
  (.seq (.region [
    ⟨some 3, .box 101 7 (.t 0), none, [101], []⟩,
    ⟨some 6, .movp (.c (.nil)), none, [], []⟩,
    ⟨some 7, .mov (.c (.bool false)), none, [], []⟩] false)
  (.seq (.seq (.region [
    ⟨some 11, .load 7 true (.t 3), none, [101], []⟩,
    ⟨some 12, .mov (.t 1), none, [], []⟩,
    ⟨some 13, .call none 38 [.t 11, .t 12], none, [], []⟩,
    ⟨some 14, .un .not (.t 13), none, [], []⟩,
    ⟨some 15, .mov (.t 14), none, [], []⟩,
    ⟨some 16, .load 7 true (.t 3), some (15, false), [101], []⟩,
    ⟨some 17, .mov (.t 2), some (15, false), [], []⟩,
    ⟨some 18, .call none 38 [.t 16, .t 17], some (15, false), [], []⟩,
    ⟨some 19, .un .not (.t 18), some (15, false), [], []⟩,
    ⟨some 20, .pick (.t 15) (.c (.bool true)) (.t 19), none, [], []⟩,
    ⟨some 21, .mov (.t 20), none, [], []⟩,
    ⟨some 22, .mov (.t 1), some (21, false), [], []⟩,
    ⟨some 23, .mov (.t 2), some (21, false), [], []⟩,
    ⟨some 24, .bin .neq (.t 22) (.t 23), some (21, false), [], []⟩,
    ⟨some 25, .mov (.t 24), some (21, false), [], []⟩,
    ⟨some 26, .load 7 true (.t 3), some (25, true), [101], []⟩,
    ⟨some 27, .mov (.t 1), some (25, true), [], []⟩,
    ⟨some 28, .call none 16 [.t 26, .t 27], some (25, true), [], []⟩,
    ⟨some 29, .mov (.t 2), some (25, true), [], []⟩,
    ⟨some 30, .call none 41 [.t 28, .t 29], some (25, true), [], []⟩,
    ⟨some 31, .un .not (.t 30), some (25, true), [], []⟩,
    ⟨some 32, .pick (.t 25) (.t 31) (.c (.bool false)), some (21, false), [], []⟩,
    ⟨some 33, .pick (.t 21) (.c (.bool true)) (.t 32), none, [], []⟩] false)
  (.cond (.t 33) (.seq (.region [
    ⟨some 6, .movp (.c (.nil)), none, [], []⟩,
    ⟨some 7, .mov (.c (.bool false)), none, [], []⟩] false)
  (.gmask [6, 7] [100] .ret))
  .skip))
  (.seq (.region [
    ⟨some 8, .nilarr 100 1, none, [100], []⟩] false)
  (.seq (.block 0 (.gmask [1, 2, 3, 8] [100, 101] ic24_0))
  (.seq (.region [
    ⟨some 48, .mov (.t 8), none, [], []⟩,
    ⟨some 6, .mov (.t 48), none, [], []⟩,
    ⟨some 7, .mov (.c (.bool true)), none, [], []⟩] false)
  (.gmask [6, 7] [100] .ret))))))
def F24 : IFunc := ⟨3, 49, [.tmp 6, .tmp 7], ic24⟩

def ic25_0_b : IC :=
  (.seq (.region [
    ⟨some 14, .bin .lss (.t 13) (.t 12), none, [], []⟩] false)
  (.seq (.cond (.t 14) .skip
  (.gmask [] [] (.exit 0)))
  (.seq (.block 1 (.seq (.region [
    ⟨some 15, .mov (.t 13), none, [], []⟩,
    ⟨some 5, .mov (.t 15), none, [], []⟩] false)
  (.seq (.region [
    ⟨some 16, .mov (.t 0), none, [], []⟩,
    ⟨some 17, .mov (.t 5), none, [], []⟩,
    ⟨some 18, .iaddr 1 (.t 16) (.t 17), none, [], [0, 1]⟩,
    ⟨some 19, .load 1 false (.t 18), none, [], [0, 1, 2]⟩,
    ⟨some 20, .mov (.t 1), none, [], []⟩,
    ⟨some 21, .mov (.t 5), none, [], []⟩,
    ⟨some 22, .iaddr 1 (.t 20) (.t 21), none, [], [4, 5]⟩,
    ⟨some 23, .load 1 false (.t 22), none, [], [4, 5, 6]⟩,
    ⟨some 24, .bin .neq (.t 19) (.t 23), none, [], [0, 1, 2, 3, 4, 5, 6, 7]⟩] true)
  (.cond (.t 24) (.seq (.region [
    ⟨some 4, .mov (.c (.bool false)), none, [], []⟩] false)
  (.gmask [4] [] .ret))
  .skip))))
  (.region [
    ⟨some 25, .bin .add (.t 13) (.c (.int .i64 1)), none, [], []⟩,
    ⟨some 13, .mov (.t 25), none, [], []⟩] false))))
def ic25_0 : IC := .loop [0, 1, 12, 13] [] ic25_0_b
/-- corpora/corporaref22.Texts -/
def ic25 : IC :=
  (.seq (.region [
    ⟨some 4, .mov (.c (.bool false)), none, [], []⟩] false)
  (.seq (.seq (.region [
    ⟨some 6, .mov (.t 0), none, [], []⟩,
    ⟨some 7, .len false (.t 6), none, [], []⟩,
    ⟨some 8, .mov (.t 1), none, [], []⟩,
    ⟨some 9, .len false (.t 8), none, [], []⟩,
    ⟨some 10, .bin .neq (.t 7) (.t 9), none, [], []⟩] false)
  (.cond (.t 10) (.seq (.region [
    ⟨some 4, .mov (.c (.bool false)), none, [], []⟩] false)
  (.gmask [4] [] .ret))
  .skip))
  (.seq (.seq (.region [
    ⟨some 11, .mov (.t 0), none, [], []⟩,
    ⟨some 12, .len false (.t 11), none, [], []⟩,
    ⟨some 13, .mov (.c (.int .i64 0)), none, [], []⟩] false)
  (.block 0 (.gmask [0, 1, 12, 13] [] ic25_0)))
  (.seq (.region [
    ⟨some 4, .mov (.c (.bool true)), none, [], []⟩] false)
  (.gmask [4] [] .ret)))))
def F25 : IFunc := ⟨2, 26, [.tmp 4], ic25⟩

def ic26_0_b : IC :=
  (.seq (.region [
    ⟨some 43, .bin .lss (.t 42) (.t 41), none, [], []⟩] false)
  (.seq (.cond (.t 43) .skip
  (.gmask [7, 8, 34, 35, 36] [101] (.exit 2)))
  (.seq (.block 3 (.seq (.region [
    ⟨some 44, .iaddr 1 (.t 40) (.t 42), none, [], []⟩,
    ⟨some 45, .load 1 false (.t 44), none, [], []⟩,
    ⟨some 12, .mov (.t 45), none, [], []⟩] false)
  (.seq (.region [
    ⟨some 46, .mov (.t 10), none, [], []⟩,
    ⟨some 47, .mov (.t 12), none, [], []⟩,
    ⟨some 48, .bin .eql (.t 46) (.t 47), none, [], []⟩] false)
  (.cond (.t 48) (.seq (.region [
    ⟨some 49, .mov (.t 10), none, [], []⟩,
    ⟨some 7, .mov (.t 49), none, [], []⟩] false)
  (.gmask [7] [] (.exit 0)))
  .skip))))
  (.region [
    ⟨some 50, .bin .add (.t 42) (.c (.int .i64 1)), none, [], []⟩,
    ⟨some 42, .mov (.t 50), none, [], []⟩] false))))
def ic26_0 : IC := .loop [7, 8, 10, 34, 35, 36, 40, 41, 42] [101] ic26_0_b
def ic26_1_b : IC :=
  (.seq (.region [
    ⟨some 37, .bin .lss (.t 36) (.t 35), none, [], []⟩] false)
  (.seq (.cond (.t 37) .skip
  (.gmask [7] [] (.exit 0)))
  (.seq (.block 1 (.seq (.region [
    ⟨some 38, .iaddr 1 (.t 34) (.t 36), none, [101], []⟩,
    ⟨some 39, .load 1 false (.t 38), none, [101], []⟩,
    ⟨some 10, .mov (.t 39), none, [], []⟩] false)
  (.seq (.region [
    ⟨some 40, .mov (.t 8), none, [], []⟩,
    ⟨some 41, .len false (.t 40), none, [], []⟩,
    ⟨some 42, .mov (.c (.int .i64 0)), none, [], []⟩] false)
  (.block 2 (.gmask [7, 8, 10, 34, 35, 36, 40, 41, 42] [101] ic26_0)))))
  (.region [
    ⟨some 51, .bin .add (.t 36) (.c (.int .i64 1)), none, [], []⟩,
    ⟨some 36, .mov (.t 51), none, [], []⟩] false))))
def ic26_1 : IC := .loop [7, 8, 34, 35, 36] [101] ic26_1_b
/-- corpora/treerel.Meet -/
def ic26 : IC :=
  (.seq (.region [
    ⟨some 3, .box 102 7 (.t 0), none, [102], []⟩,
    ⟨some 6, .mov (.c (.int .i64 0)), none, [], []⟩] false)
  (.scope (.seq (.seq (.region [
    ⟨some 13, .load 7 true (.t 3), none, [102], []⟩,
    ⟨some 14, .mov (.t 1), none, [], []⟩,
    ⟨some 15, .call none 36 [.t 13, .t 14], none, [], []⟩,
    ⟨some 16, .un .not (.t 15), none, [], []⟩,
    ⟨some 17, .mov (.t 16), none, [], []⟩,
    ⟨some 18, .load 7 true (.t 3), some (17, false), [102], []⟩,
    ⟨some 19, .mov (.t 2), some (17, false), [], []⟩,
    ⟨some 20, .call none 36 [.t 18, .t 19], some (17, false), [], []⟩,
    ⟨some 21, .un .not (.t 20), some (17, false), [], []⟩,
    ⟨some 22, .pick (.t 17) (.c (.bool true)) (.t 21), none, [], []⟩] false)
  (.cond (.t 22) (.seq (.region [
    ⟨some 6, .mov (.c (.int .i64 (-1))), none, [], []⟩] false)
  (.gmask [6] [] .ret))
  .skip))
  (.seq (.region [
    ⟨some 7, .mov (.c (.int .i64 (-1))), none, [], []⟩] false)
  (.seq (.region [
    ⟨some 23, .mov (.t 2), none, [], []⟩,
    ⟨some 24, .buildSl (some 100) 1 (.int .i64 0) 1 [(0, .t 23)], none, [100], []⟩,
    ⟨some 25, .load 7 true (.t 3), none, [102], []⟩,
    ⟨some 26, .mov (.t 2), none, [], []⟩,
    ⟨some 27, .call none 15 [.t 25, .t 26], none, [], []⟩,
    ⟨some 28, .app none 1 8 (.t 24) (.t 27), none, [100], []⟩,
    ⟨some 8, .movp (.t 28), none, [100], []⟩] false)
  (.seq .skip
  (.seq (.seq (.region [
    ⟨some 29, .mov (.t 1), none, [], []⟩,
    ⟨some 30, .buildSl (some 101) 1 (.int .i64 0) 1 [(0, .t 29)], none, [101], []⟩,
    ⟨some 31, .load 7 true (.t 3), none, [102], []⟩,
    ⟨some 32, .mov (.t 1), none, [], []⟩,
    ⟨some 33, .call none 15 [.t 31, .t 32], none, [], []⟩,
    ⟨some 34, .app none 1 8 (.t 30) (.t 33), none, [101], []⟩,
    ⟨some 35, .len false (.t 34), none, [101], []⟩,
    ⟨some 36, .mov (.c (.int .i64 0)), none, [], []⟩] false)
  (.block 0 (.gmask [7, 8, 34, 35, 36] [101] ic26_1)))
  (.seq (.region [
    ⟨some 52, .mov (.t 7), none, [], []⟩,
    ⟨some 6, .mov (.t 52), none, [], []⟩] false)
  (.gmask [6] [] .ret)))))))))
def F26 : IFunc := ⟨3, 53, [.tmp 6], ic26⟩

def ic27_0_b : IC :=
  (.seq (.region [
    ⟨some 34, .bin .lss (.t 33) (.t 32), none, [], []⟩] false)
  (.seq (.cond (.t 34) .skip
  (.gmask [] [] (.exit 0)))
  (.seq (.block 1 (.seq (.region [
    ⟨some 35, .iaddr 1 (.t 31) (.t 33), none, [101], []⟩,
    ⟨some 36, .load 1 false (.t 35), none, [101], []⟩,
    ⟨some 9, .mov (.t 36), none, [], []⟩] false)
  (.seq (.region [
    ⟨some 37, .mov (.t 7), none, [], []⟩,
    ⟨some 38, .mov (.t 9), none, [], []⟩,
    ⟨some 39, .call none 41 [.t 37, .t 38], none, [], []⟩] false)
  (.cond (.t 39) (.seq (.region [
    ⟨some 40, .mov (.t 9), none, [], []⟩,
    ⟨some 6, .mov (.t 40), none, [], []⟩] false)
  (.gmask [6] [] .ret))
  .skip))))
  (.region [
    ⟨some 41, .bin .add (.t 33) (.c (.int .i64 1)), none, [], []⟩,
    ⟨some 33, .mov (.t 41), none, [], []⟩] false))))
def ic27_0 : IC := .loop [7, 31, 32, 33] [101] ic27_0_b
/-- corpora/corporaref29.Meet -/
def ic27 : IC :=
  (.seq (.region [
    ⟨some 3, .box 102 7 (.t 0), none, [102], []⟩,
    ⟨some 6, .mov (.c (.int .i64 0)), none, [], []⟩] false)
  (.seq (.seq (.region [
    ⟨some 10, .load 7 true (.t 3), none, [102], []⟩,
    ⟨some 11, .mov (.t 1), none, [], []⟩,
    ⟨some 12, .call none 38 [.t 10, .t 11], none, [], []⟩,
    ⟨some 13, .un .not (.t 12), none, [], []⟩,
    ⟨some 14, .mov (.t 13), none, [], []⟩,
    ⟨some 15, .load 7 true (.t 3), some (14, false), [102], []⟩,
    ⟨some 16, .mov (.t 2), some (14, false), [], []⟩,
    ⟨some 17, .call none 38 [.t 15, .t 16], some (14, false), [], []⟩,
    ⟨some 18, .un .not (.t 17), some (14, false), [], []⟩,
    ⟨some 19, .pick (.t 14) (.c (.bool true)) (.t 18), none, [], []⟩] false)
  (.cond (.t 19) (.seq (.region [
    ⟨some 6, .mov (.c (.int .i64 (-1))), none, [], []⟩] false)
  (.gmask [6] [] .ret))
  .skip))
  (.seq (.region [
    ⟨some 20, .mov (.t 2), none, [], []⟩,
    ⟨some 21, .buildSl (some 100) 1 (.int .i64 0) 1 [(0, .t 20)], none, [100], []⟩,
    ⟨some 22, .load 7 true (.t 3), none, [102], []⟩,
    ⟨some 23, .mov (.t 2), none, [], []⟩,
    ⟨some 24, .call none 16 [.t 22, .t 23], none, [], []⟩,
    ⟨some 25, .app none 1 8 (.t 21) (.t 24), none, [100], []⟩,
    ⟨some 7, .movp (.t 25), none, [100], []⟩] false)
  (.seq (.seq (.region [
    ⟨some 26, .mov (.t 1), none, [], []⟩,
    ⟨some 27, .buildSl (some 101) 1 (.int .i64 0) 1 [(0, .t 26)], none, [101], []⟩,
    ⟨some 28, .load 7 true (.t 3), none, [102], []⟩,
    ⟨some 29, .mov (.t 1), none, [], []⟩,
    ⟨some 30, .call none 16 [.t 28, .t 29], none, [], []⟩,
    ⟨some 31, .app none 1 8 (.t 27) (.t 30), none, [101], []⟩,
    ⟨some 32, .len false (.t 31), none, [101], []⟩,
    ⟨some 33, .mov (.c (.int .i64 0)), none, [], []⟩] false)
  (.block 0 (.gmask [7, 31, 32, 33] [101] ic27_0)))
  (.seq (.region [
    ⟨some 6, .mov (.c (.int .i64 (-1))), none, [], []⟩] false)
  (.gmask [6] [] .ret))))))
def F27 : IFunc := ⟨3, 42, [.tmp 6], ic27⟩

def ic28_0_b : IC :=
  (.seq (.region [
    ⟨some 30, .bin .lss (.t 29) (.t 28), none, [], []⟩] false)
  (.seq (.cond (.t 30) .skip
  (.gmask [5] [100] (.exit 0)))
  (.seq (.block 1 (.seq (.region [
    ⟨some 31, .mov (.t 29), none, [], []⟩,
    ⟨some 32, .iaddr 4 (.t 27) (.t 29), none, [], []⟩,
    ⟨some 33, .load 4 true (.t 32), none, [], []⟩,
    ⟨some 7, .alloc 103 [.str ⟨#[]⟩, .int .i64 0, .int .i64 0, .int .i64 0], none, [103], []⟩,
    ⟨some 6, .mov (.t 31), none, [], []⟩,
    ⟨none, .store 4 (.t 7) (.t 33), none, [103], []⟩] false)
  (.seq (.region [
    ⟨some 34, .faddr 1 (.t 7), none, [], []⟩,
    ⟨some 35, .load 1 false (.t 34), none, [103], []⟩,
    ⟨some 36, .faddr 0 (.t 3), none, [], []⟩,
    ⟨some 37, .load 1 false (.t 36), none, [102], []⟩,
    ⟨some 38, .bin .leq (.t 35) (.t 37), none, [], []⟩,
    ⟨some 39, .mov (.t 38), none, [], []⟩,
    ⟨some 40, .faddr 1 (.t 3), some (39, true), [], []⟩,
    ⟨some 41, .load 1 false (.t 40), some (39, true), [102], []⟩,
    ⟨some 42, .faddr 2 (.t 7), some (39, true), [], []⟩,
    ⟨some 43, .load 1 false (.t 42), some (39, true), [103], []⟩,
    ⟨some 44, .bin .leq (.t 41) (.t 43), some (39, true), [], []⟩,
    ⟨some 45, .pick (.t 39) (.t 44) (.c (.bool false)), none, [], []⟩] false)
  (.gpost [3, 5, 27, 28, 29] [100, 102] (.cond (.t 45) (.region [
    ⟨some 46, .mov (.t 5), none, [], []⟩,
    ⟨some 47, .mov (.t 6), none, [], []⟩,
    ⟨some 48, .buildSl none 1 (.int .i64 0) 1 [(0, .t 47)], none, [], []⟩,
    ⟨some 49, .app none 1 8 (.t 46) (.t 48), none, [100], []⟩,
    ⟨some 5, .mov (.t 49), none, [], []⟩] false)
  .skip)))))
  (.region [
    ⟨some 50, .bin .add (.t 29) (.c (.int .i64 1)), none, [], []⟩,
    ⟨some 29, .mov (.t 50), none, [], []⟩] false))))
def ic28_0 : IC := .loop [3, 5, 27, 28, 29] [100, 102] ic28_0_b
/-- corpora/treerel.Nodes -/
def ic28 : IC :=
  (.seq (.region [
    ⟨some 2, .box 101 7 (.t 0), none, [101], []⟩,
    ⟨some 3, .box 102 2 (.t 1), none, [102], []⟩,
    ⟨some 4, .movp (.c (.nil)), none, [], []⟩] false)
  (.seq (.seq (.region [
    ⟨some 8, .faddr 0 (.t 3), none, [], []⟩,
    ⟨some 9, .load 1 false (.t 8), none, [102], []⟩,
    ⟨some 10, .bin .lss (.t 9) (.c (.int .i64 0)), none, [], []⟩,
    ⟨some 11, .mov (.t 10), none, [], []⟩,
    ⟨some 12, .faddr 0 (.t 3), some (11, false), [], []⟩,
    ⟨some 13, .load 1 false (.t 12), some (11, false), [102], []⟩,
    ⟨some 14, .faddr 1 (.t 3), some (11, false), [], []⟩,
    ⟨some 15, .load 1 false (.t 14), some (11, false), [102], []⟩,
    ⟨some 16, .bin .geq (.t 13) (.t 15), some (11, false), [], []⟩,
    ⟨some 17, .pick (.t 11) (.c (.bool true)) (.t 16), none, [], []⟩,
    ⟨some 18, .mov (.t 17), none, [], []⟩,
    ⟨some 19, .faddr 1 (.t 3), some (18, false), [], []⟩,
    ⟨some 20, .load 1 false (.t 19), some (18, false), [102], []⟩,
    ⟨some 21, .faddr 1 (.t 2), some (18, false), [], []⟩,
    ⟨some 22, .load 1 false (.t 21), some (18, false), [101], []⟩,
    ⟨some 23, .len false (.t 22), some (18, false), [], []⟩,
    ⟨some 24, .bin .gtr (.t 20) (.t 23), some (18, false), [], []⟩,
    ⟨some 25, .pick (.t 18) (.c (.bool true)) (.t 24), none, [], []⟩] false)
  (.cond (.t 25) (.seq (.region [
    ⟨some 4, .movp (.c (.nil)), none, [], []⟩] false)
  (.gmask [4] [100] .ret))
  .skip))
  (.seq (.region [
    ⟨some 5, .nilarr 100 1, none, [100], []⟩] false)
  (.seq (.seq (.region [
    ⟨some 26, .faddr 4 (.t 2), none, [], []⟩,
    ⟨some 27, .load 1 false (.t 26), none, [101], []⟩,
    ⟨some 28, .len false (.t 27), none, [], []⟩,
    ⟨some 29, .mov (.c (.int .i64 0)), none, [], []⟩] false)
  (.block 0 (.gmask [3, 5, 27, 28, 29] [100, 102] ic28_0)))
  (.seq (.region [
    ⟨some 51, .mov (.t 5), none, [], []⟩,
    ⟨some 4, .mov (.t 51), none, [], []⟩] false)
  (.gmask [4] [100] .ret))))))
def F28 : IFunc := ⟨2, 52, [.tmp 4], ic28⟩

/-- corpora/treerel.Common -/
def ic29 : IC :=
  (.seq (.region [
    ⟨some 3, .box 100 7 (.t 0), none, [100], []⟩,
    ⟨some 6, .mov (.c (.int .i64 0)), none, [], []⟩] false)
  (.seq (.seq (.region [
    ⟨some 8, .load 7 true (.t 3), none, [100], []⟩,
    ⟨some 9, .mov (.t 1), none, [], []⟩,
    ⟨some 10, .call none 36 [.t 8, .t 9], none, [], []⟩,
    ⟨some 11, .un .not (.t 10), none, [], []⟩,
    ⟨some 12, .mov (.t 11), none, [], []⟩,
    ⟨some 13, .load 7 true (.t 3), some (12, false), [100], []⟩,
    ⟨some 14, .mov (.t 2), some (12, false), [], []⟩,
    ⟨some 15, .call none 36 [.t 13, .t 14], some (12, false), [], []⟩,
    ⟨some 16, .un .not (.t 15), some (12, false), [], []⟩,
    ⟨some 17, .pick (.t 12) (.c (.bool true)) (.t 16), none, [], []⟩] false)
  (.cond (.t 17) (.seq (.region [
    ⟨some 6, .mov (.c (.int .i64 (-1))), none, [], []⟩] false)
  (.gmask [6] [] .ret))
  .skip))
  (.seq (.region [
    ⟨some 18, .load 7 true (.t 3), none, [100], []⟩,
    ⟨some 19, .mov (.t 1), none, [], []⟩,
    ⟨some 20, .mov (.t 2), none, [], []⟩,
    ⟨some 21, .mm false (.t 19) (.t 20), none, [], []⟩,
    ⟨some 22, .mov (.t 1), none, [], []⟩,
    ⟨some 23, .mov (.t 2), none, [], []⟩,
    ⟨some 24, .mm true (.t 22) (.t 23), none, [], []⟩,
    ⟨some 25, .bin .add (.t 24) (.c (.int .i64 1)), none, [], []⟩,
    ⟨some 26, .build [.int .i64 0, .int .i64 0] [(0, 1, .t 21), (1, 1, .t 25)], none, [], []⟩,
    ⟨some 27, .call none 28 [.t 18, .t 26], none, [], []⟩,
    ⟨some 7, .mov (.t 27), none, [], []⟩] false)
  (.seq (.seq (.region [
    ⟨some 28, .mov (.t 7), none, [], []⟩,
    ⟨some 29, .len false (.t 28), none, [], []⟩,
    ⟨some 30, .bin .eql (.t 29) (.c (.int .i64 0)), none, [], []⟩] false)
  (.cond (.t 30) (.seq (.region [
    ⟨some 6, .mov (.c (.int .i64 (-1))), none, [], []⟩] false)
  (.gmask [6] [] .ret))
  .skip))
  (.seq (.region [
    ⟨some 31, .mov (.t 7), none, [], []⟩,
    ⟨some 32, .mov (.t 7), none, [], []⟩,
    ⟨some 33, .len false (.t 32), none, [], []⟩,
    ⟨some 34, .bin .sub (.t 33) (.c (.int .i64 1)), none, [], []⟩,
    ⟨some 35, .iaddr 1 (.t 31) (.t 34), none, [], []⟩,
    ⟨some 36, .load 1 false (.t 35), none, [], []⟩,
    ⟨some 6, .mov (.t 36), none, [], []⟩] false)
  (.gmask [6] [] .ret))))))
def F29 : IFunc := ⟨3, 37, [.tmp 6], ic29⟩

def ic30_0_b : IC :=
  (.seq (.region [
    ⟨some 30, .bin .lss (.t 29) (.t 28), none, [], []⟩] false)
  (.seq (.cond (.t 30) .skip
  (.gmask [5] [100] (.exit 0)))
  (.seq (.block 1 (.seq (.region [
    ⟨some 31, .mov (.t 29), none, [], []⟩,
    ⟨some 32, .iaddr 4 (.t 27) (.t 29), none, [], []⟩,
    ⟨some 33, .load 4 true (.t 32), none, [], []⟩,
    ⟨some 7, .alloc 103 [.str ⟨#[]⟩, .int .i64 0, .int .i64 0, .int .i64 0], none, [103], []⟩,
    ⟨some 6, .mov (.t 31), none, [], []⟩,
    ⟨none, .store 4 (.t 7) (.t 33), none, [103], []⟩] false)
  (.seq (.region [
    ⟨some 34, .faddr 1 (.t 7), none, [], []⟩,
    ⟨some 35, .load 1 false (.t 34), none, [103], []⟩,
    ⟨some 36, .faddr 0 (.t 3), none, [], []⟩,
    ⟨some 37, .load 1 false (.t 36), none, [102], []⟩,
    ⟨some 38, .bin .leq (.t 35) (.t 37), none, [], []⟩,
    ⟨some 39, .mov (.t 38), none, [], []⟩,
    ⟨some 40, .faddr 1 (.t 3), some (39, true), [], []⟩,
    ⟨some 41, .load 1 false (.t 40), some (39, true), [102], []⟩,
    ⟨some 42, .faddr 2 (.t 7), some (39, true), [], []⟩,
    ⟨some 43, .load 1 false (.t 42), some (39, true), [103], []⟩,
    ⟨some 44, .bin .leq (.t 41) (.t 43), some (39, true), [], []⟩,
    ⟨some 45, .pick (.t 39) (.t 44) (.c (.bool false)), none, [], []⟩] false)
  (.gpost [3, 5, 27, 28, 29] [100, 102] (.cond (.t 45) (.region [
    ⟨some 46, .mov (.t 5), none, [], []⟩,
    ⟨some 47, .mov (.t 6), none, [], []⟩,
    ⟨some 48, .buildSl none 1 (.int .i64 0) 1 [(0, .t 47)], none, [], []⟩,
    ⟨some 49, .app none 1 8 (.t 46) (.t 48), none, [100], []⟩,
    ⟨some 5, .mov (.t 49), none, [], []⟩] false)
  .skip)))))
  (.region [
    ⟨some 50, .bin .add (.t 29) (.c (.int .i64 1)), none, [], []⟩,
    ⟨some 29, .mov (.t 50), none, [], []⟩] false))))
def ic30_0 : IC := .loop [3, 5, 27, 28, 29] [100, 102] ic30_0_b
/-- corpora/corporaref29.Nodes -/
def ic30 : IC :=
  (.seq (.region [
    ⟨some 2, .box 101 7 (.t 0), none, [101], []⟩,
    ⟨some 3, .box 102 2 (.t 1), none, [102], []⟩,
    ⟨some 4, .movp (.c (.nil)), none, [], []⟩] false)
  (.seq (.seq (.region [
    ⟨some 8, .faddr 0 (.t 3), none, [], []⟩,
    ⟨some 9, .load 1 false (.t 8), none, [102], []⟩,
    ⟨some 10, .bin .lss (.t 9) (.c (.int .i64 0)), none, [], []⟩,
    ⟨some 11, .mov (.t 10), none, [], []⟩,
    ⟨some 12, .faddr 0 (.t 3), some (11, false), [], []⟩,
    ⟨some 13, .load 1 false (.t 12), some (11, false), [102], []⟩,
    ⟨some 14, .faddr 1 (.t 3), some (11, false), [], []⟩,
    ⟨some 15, .load 1 false (.t 14), some (11, false), [102], []⟩,
    ⟨some 16, .bin .geq (.t 13) (.t 15), some (11, false), [], []⟩,
    ⟨some 17, .pick (.t 11) (.c (.bool true)) (.t 16), none, [], []⟩,
    ⟨some 18, .mov (.t 17), none, [], []⟩,
    ⟨some 19, .faddr 1 (.t 3), some (18, false), [], []⟩,
    ⟨some 20, .load 1 false (.t 19), some (18, false), [102], []⟩,
    ⟨some 21, .faddr 1 (.t 2), some (18, false), [], []⟩,
    ⟨some 22, .load 1 false (.t 21), some (18, false), [101], []⟩,
    ⟨some 23, .len false (.t 22), some (18, false), [], []⟩,
    ⟨some 24, .bin .gtr (.t 20) (.t 23), some (18, false), [], []⟩,
    ⟨some 25, .pick (.t 18) (.c (.bool true)) (.t 24), none, [], []⟩] false)
  (.cond (.t 25) (.seq (.region [
    ⟨some 4, .movp (.c (.nil)), none, [], []⟩] false)
  (.gmask [4] [100] .ret))
  .skip))
  (.seq (.region [
    ⟨some 5, .nilarr 100 1, none, [100], []⟩] false)
  (.seq (.seq (.region [
    ⟨some 26, .faddr 4 (.t 2), none, [], []⟩,
    ⟨some 27, .load 1 false (.t 26), none, [101], []⟩,
    ⟨some 28, .len false (.t 27), none, [], []⟩,
    ⟨some 29, .mov (.c (.int .i64 0)), none, [], []⟩] false)
  (.block 0 (.gmask [3, 5, 27, 28, 29] [100, 102] ic30_0)))
  (.seq (.region [
    ⟨some 51, .mov (.t 5), none, [], []⟩,
    ⟨some 4, .mov (.t 51), none, [], []⟩] false)
  (.gmask [4] [100] .ret))))))
def F30 : IFunc := ⟨2, 52, [.tmp 4], ic30⟩

/-- corpora/corporaref29.Common -/
def ic31 : IC :=
  (.seq (.region [
    ⟨some 3, .box 100 7 (.t 0), none, [100], []⟩,
    ⟨some 6, .mov (.c (.int .i64 0)), none, [], []⟩] false)
  (.seq (.seq (.region [
    ⟨some 8, .load 7 true (.t 3), none, [100], []⟩,
    ⟨some 9, .mov (.t 1), none, [], []⟩,
    ⟨some 10, .call none 38 [.t 8, .t 9], none, [], []⟩,
    ⟨some 11, .un .not (.t 10), none, [], []⟩,
    ⟨some 12, .mov (.t 11), none, [], []⟩,
    ⟨some 13, .load 7 true (.t 3), some (12, false), [100], []⟩,
    ⟨some 14, .mov (.t 2), some (12, false), [], []⟩,
    ⟨some 15, .call none 38 [.t 13, .t 14], some (12, false), [], []⟩,
    ⟨some 16, .un .not (.t 15), some (12, false), [], []⟩,
    ⟨some 17, .pick (.t 12) (.c (.bool true)) (.t 16), none, [], []⟩] false)
  (.cond (.t 17) (.seq (.region [
    ⟨some 6, .mov (.c (.int .i64 (-1))), none, [], []⟩] false)
  (.gmask [6] [] .ret))
  .skip))
  (.seq (.region [
    ⟨some 18, .load 7 true (.t 3), none, [100], []⟩,
    ⟨some 19, .mov (.t 1), none, [], []⟩,
    ⟨some 20, .mov (.t 2), none, [], []⟩,
    ⟨some 21, .mm false (.t 19) (.t 20), none, [], []⟩,
    ⟨some 22, .mov (.t 1), none, [], []⟩,
    ⟨some 23, .mov (.t 2), none, [], []⟩,
    ⟨some 24, .mm true (.t 22) (.t 23), none, [], []⟩,
    ⟨some 25, .bin .add (.t 24) (.c (.int .i64 1)), none, [], []⟩,
    ⟨some 26, .build [.int .i64 0, .int .i64 0] [(0, 1, .t 21), (1, 1, .t 25)], none, [], []⟩,
    ⟨some 27, .call none 30 [.t 18, .t 26], none, [], []⟩,
    ⟨some 7, .mov (.t 27), none, [], []⟩] false)
  (.seq (.seq (.region [
    ⟨some 28, .mov (.t 7), none, [], []⟩,
    ⟨some 29, .len false (.t 28), none, [], []⟩,
    ⟨some 30, .bin .eql (.t 29) (.c (.int .i64 0)), none, [], []⟩] false)
  (.cond (.t 30) (.seq (.region [
    ⟨some 6, .mov (.c (.int .i64 (-1))), none, [], []⟩] false)
  (.gmask [6] [] .ret))
  .skip))
  (.seq (.region [
    ⟨some 31, .mov (.t 7), none, [], []⟩,
    ⟨some 32, .mov (.t 7), none, [], []⟩,
    ⟨some 33, .len false (.t 32), none, [], []⟩,
    ⟨some 34, .bin .sub (.t 33) (.c (.int .i64 1)), none, [], []⟩,
    ⟨some 35, .iaddr 1 (.t 31) (.t 34), none, [], []⟩,
    ⟨some 36, .load 1 false (.t 35), none, [], []⟩,
    ⟨some 6, .mov (.t 36), none, [], []⟩] false)
  (.gmask [6] [] .ret))))))
def F31 : IFunc := ⟨3, 37, [.tmp 6], ic31⟩

def ic32_0_b : IC :=
  (.seq (.region [
    ⟨some 21, .bin .lss (.t 20) (.t 19), none, [], []⟩] false)
  (.seq (.cond (.t 21) .skip
  (.gmask [5] [100] (.exit 0)))
  (.seq (.block 1 (.seq (.region [
    ⟨some 22, .mov (.t 20), none, [], []⟩,
    ⟨some 23, .iaddr 4 (.t 18) (.t 20), none, [], []⟩,
    ⟨some 24, .load 4 true (.t 23), none, [], []⟩,
    ⟨some 7, .alloc 102 [.str ⟨#[]⟩, .int .i64 0, .int .i64 0, .int .i64 0], none, [102], []⟩,
    ⟨some 6, .mov (.t 22), none, [], []⟩,
    ⟨none, .store 4 (.t 7) (.t 24), none, [102], []⟩] false)
  (.seq (.region [
    ⟨some 25, .faddr 3 (.t 7), none, [], []⟩,
    ⟨some 26, .load 1 false (.t 25), none, [102], []⟩,
    ⟨some 27, .mov (.t 1), none, [], []⟩,
    ⟨some 28, .bin .eql (.t 26) (.t 27), none, [], []⟩] false)
  (.gpost [1, 5, 18, 19, 20] [100] (.cond (.t 28) (.region [
    ⟨some 29, .mov (.t 5), none, [], []⟩,
    ⟨some 30, .mov (.t 6), none, [], []⟩,
    ⟨some 31, .buildSl none 1 (.int .i64 0) 1 [(0, .t 30)], none, [], []⟩,
    ⟨some 32, .app none 1 8 (.t 29) (.t 31), none, [100], []⟩,
    ⟨some 5, .mov (.t 32), none, [], []⟩] false)
  .skip)))))
  (.region [
    ⟨some 33, .bin .add (.t 20) (.c (.int .i64 1)), none, [], []⟩,
    ⟨some 20, .mov (.t 33), none, [], []⟩] false))))
def ic32_0 : IC := .loop [1, 5, 18, 19, 20] [100] ic32_0_b
/-- corpora/corporaref29.Children -/
def ic32 : IC :=
  (.seq (.region [
    ⟨some 2, .box 101 7 (.t 0), none, [101], []⟩,
    ⟨some 4, .movp (.c (.nil)), none, [], []⟩] false)
  (.seq (.seq (.region [
    ⟨some 8, .mov (.t 1), none, [], []⟩,
    ⟨some 9, .bin .lss (.t 8) (.c (.int .i64 (-1))), none, [], []⟩,
    ⟨some 10, .mov (.t 9), none, [], []⟩,
    ⟨some 11, .mov (.t 1), some (10, false), [], []⟩,
    ⟨some 12, .faddr 4 (.t 2), some (10, false), [], []⟩,
    ⟨some 13, .load 1 false (.t 12), some (10, false), [101], []⟩,
    ⟨some 14, .len false (.t 13), some (10, false), [], []⟩,
    ⟨some 15, .bin .geq (.t 11) (.t 14), some (10, false), [], []⟩,
    ⟨some 16, .pick (.t 10) (.c (.bool true)) (.t 15), none, [], []⟩] false)
  (.cond (.t 16) (.seq (.region [
    ⟨some 4, .movp (.c (.nil)), none, [], []⟩] false)
  (.gmask [4] [100] .ret))
  .skip))
  (.seq (.region [
    ⟨some 5, .nilarr 100 1, none, [100], []⟩] false)
  (.seq (.seq (.region [
    ⟨some 17, .faddr 4 (.t 2), none, [], []⟩,
    ⟨some 18, .load 1 false (.t 17), none, [101], []⟩,
    ⟨some 19, .len false (.t 18), none, [], []⟩,
    ⟨some 20, .mov (.c (.int .i64 0)), none, [], []⟩] false)
  (.block 0 (.gmask [1, 5, 18, 19, 20] [100] ic32_0)))
  (.seq (.region [
    ⟨some 34, .mov (.t 5), none, [], []⟩,
    ⟨some 4, .mov (.t 34), none, [], []⟩] false)
  (.gmask [4] [100] .ret))))))
def F32 : IFunc := ⟨2, 35, [.tmp 4], ic32⟩

def ic33_0_b : IC :=
  (.seq (.seq (.region [
    ⟨some 42, .mov (.t 9), none, [], []⟩,
    ⟨some 43, .mov (.t 7), none, [], []⟩,
    ⟨some 44, .bin .lss (.t 42) (.t 43), none, [], []⟩] false)
  (.cond (.t 44) .skip
  (.gmask [0, 6, 7, 8] [0, 100, 103, 104, 105] (.exit 0))))
  (.seq (.block 1 (.seq (.region [
    ⟨some 47, .mov (.t 0), none, [], []⟩,
    ⟨some 48, .call none 34 [.t 47, .c (.int .i64 48)], none, [0], []⟩,
    ⟨some 10, .mov (.t 48), none, [], []⟩] false)
  (.region [
    ⟨some 49, .faddr 1 (.t 8), none, [], []⟩,
    ⟨some 50, .load 1 false (.t 49), none, [104], [0]⟩,
    ⟨some 51, .buildSl none 1 (.int .i64 0) 8 [(0, .c (.int .i64 0)), (1, .c (.int .i64 1)), (2, .c (.int .i64 0)), (3, .c (.int .i64 2)), (4, .c (.int .i64 3)), (5, .c (.int .i64 4)), (6, .c (.int .i64 1)), (7, .c (.int .i64 5))], none, [], []⟩,
    ⟨some 52, .mov (.t 10), none, [], []⟩,
    ⟨some 53, .bin .rem (.t 52) (.c (.int .i64 8)), none, [], [3]⟩,
    ⟨some 54, .iaddr 1 (.t 51) (.t 53), none, [], [2, 3, 4]⟩,
    ⟨some 55, .load 1 false (.t 54), none, [], [2, 3, 4, 5]⟩,
    ⟨some 56, .call none 43 [.t 55], none, [], [2, 3, 4, 5, 6]⟩,
    ⟨some 57, .mov (.t 10), none, [], []⟩,
    ⟨some 58, .bin .quo (.t 57) (.c (.int .i64 8)), none, [], [8]⟩,
    ⟨some 59, .bin .rem (.t 58) (.c (.int .i64 2)), none, [], [8, 9]⟩,
    ⟨some 60, .call none 44 [.t 59], none, [], [2, 3, 4, 5, 6, 7, 8, 9, 10]⟩,
    ⟨some 61, .mov (.t 10), none, [], []⟩,
    ⟨some 62, .bin .quo (.t 61) (.c (.int .i64 12)), none, [], [12]⟩,
    ⟨some 63, .call none 45 [.t 62], none, [], [2, 3, 4, 5, 6, 7, 8, 9, 10, 11, 12, 13]⟩,
    ⟨some 64, .buildSl none 1 (.str ⟨#[]⟩) 3 [(0, .t 56), (1, .t 60), (2, .t 63)], none, [], [2, 3, 4, 5, 6, 7, 8, 9, 10, 11, 12, 13, 14]⟩,
    ⟨some 65, .buildSl none 1 (.nil) 1 [(0, .t 64)], none, [], [2, 3, 4, 5, 6, 7, 8, 9, 10, 11, 12, 13, 14, 15]⟩,
    ⟨some 66, .app none 1 24 (.t 50) (.t 65), none, [100], [0, 1, 2, 3, 4, 5, 6, 7, 8, 9, 10, 11, 12, 13, 14, 15, 16]⟩,
    ⟨some 67, .faddr 1 (.t 8), none, [], [0, 1, 2, 3, 4, 5, 6, 7, 8, 9, 10, 11, 12, 13, 14, 15, 16, 17]⟩,
    ⟨none, .store 1 (.t 67) (.t 66), none, [104], [0, 1, 2, 3, 4, 5, 6, 7, 8, 9, 10, 11, 12, 13, 14, 15, 16, 17, 18]⟩] true)))
  (.region [
    ⟨some 45, .mov (.t 9), none, [], []⟩,
    ⟨some 46, .bin .add (.t 45) (.c (.int .i64 1)), none, [], []⟩,
    ⟨some 9, .mov (.t 46), none, [], []⟩] false)))
def ic33_0 : IC := .loop [0, 6, 7, 8, 9] [0, 100, 103, 104, 105] ic33_0_b
def ic33_1_b : IC :=
  (.seq (.region [
    ⟨some 104, .bin .lss (.t 103) (.t 102), none, [], []⟩] false)
  (.seq (.cond (.t 104) .skip
  (.gmask [0, 6, 7, 8, 11, 12, 14, 15] [0, 100, 102, 103, 104, 105, 106] (.exit 4)))
  (.seq (.block 5 (.seq (.region [
    ⟨some 105, .iaddr 4 (.t 101) (.t 103), none, [102], []⟩,
    ⟨some 106, .load 4 true (.t 105), none, [102], []⟩,
    ⟨some 17, .alloc 107 [.str ⟨#[]⟩, .int .i64 0, .int .i64 0, .nil], none, [107], []⟩,
    ⟨none, .store 4 (.t 17) (.t 106), none, [107], []⟩] false)
  (.region [
    ⟨some 107, .mov (.t 15), none, [], []⟩,
    ⟨some 108, .mov (.t 107), none, [], []⟩,
    ⟨some 109, .faddr 0 (.t 17), some (108, false), [], []⟩,
    ⟨some 110, .load 1 false (.t 109), some (108, false), [107], []⟩,
    ⟨some 111, .faddr 0 (.t 14), some (108, false), [], []⟩,
    ⟨some 112, .load 1 false (.t 111), some (108, false), [106], []⟩,
    ⟨some 113, .bin .eql (.t 110) (.t 112), some (108, false), [], []⟩,
    ⟨some 114, .mov (.t 113), some (108, false), [], []⟩,
    ⟨some 115, .faddr 1 (.t 17), some (114, true), [], []⟩,
    ⟨some 116, .load 1 false (.t 115), some (114, true), [107], []⟩,
    ⟨some 117, .faddr 2 (.t 14), some (114, true), [], []⟩,
    ⟨some 118, .load 1 false (.t 117), some (114, true), [106], []⟩,
    ⟨some 119, .bin .lss (.t 116) (.t 118), some (114, true), [], []⟩,
    ⟨some 120, .pick (.t 114) (.t 119) (.c (.bool false)), some (108, false), [], []⟩,
    ⟨some 121, .mov (.t 120), some (108, false), [], []⟩,
    ⟨some 122, .faddr 1 (.t 14), some (121, true), [], []⟩,
    ⟨some 123, .load 1 false (.t 122), some (121, true), [106], []⟩,
    ⟨some 124, .faddr 2 (.t 17), some (121, true), [], []⟩,
    ⟨some 125, .load 1 false (.t 124), some (121, true), [107], []⟩,
    ⟨some 126, .bin .lss (.t 123) (.t 125), some (121, true), [], []⟩,
    ⟨some 127, .pick (.t 121) (.t 126) (.c (.bool false)), some (108, false), [], []⟩,
    ⟨some 128, .mov (.t 127), some (108, false), [], []⟩,
    ⟨some 129, .faddr 1 (.t 17), some (128, true), [], []⟩,
    ⟨some 130, .load 1 false (.t 129), some (128, true), [107], []⟩,
    ⟨some 131, .faddr 1 (.t 14), some (128, true), [], []⟩,
    ⟨some 132, .load 1 false (.t 131), some (128, true), [106], []⟩,
    ⟨some 133, .bin .leq (.t 130) (.t 132), some (128, true), [], []⟩,
    ⟨some 134, .mov (.t 133), some (128, true), [], []⟩,
    ⟨some 135, .faddr 2 (.t 14), some (134, true), [], []⟩,
    ⟨some 136, .load 1 false (.t 135), some (134, true), [106], []⟩,
    ⟨some 137, .faddr 2 (.t 17), some (134, true), [], []⟩,
    ⟨some 138, .load 1 false (.t 137), some (134, true), [107], []⟩,
    ⟨some 139, .bin .leq (.t 136) (.t 138), some (134, true), [], []⟩,
    ⟨some 140, .pick (.t 134) (.t 139) (.c (.bool false)), some (128, true), [], []⟩,
    ⟨some 141, .un .not (.t 140), some (128, true), [], []⟩,
    ⟨some 142, .pick (.t 128) (.t 141) (.c (.bool false)), some (108, false), [], []⟩,
    ⟨some 143, .mov (.t 142), some (108, false), [], []⟩,
    ⟨some 144, .faddr 1 (.t 14), some (143, true), [], []⟩,
    ⟨some 145, .load 1 false (.t 144), some (143, true), [106], []⟩,
    ⟨some 146, .faddr 1 (.t 17), some (143, true), [], []⟩,
    ⟨some 147, .load 1 false (.t 146), some (143, true), [107], []⟩,
    ⟨some 148, .bin .leq (.t 145) (.t 147), some (143, true), [], []⟩,
    ⟨some 149, .mov (.t 148), some (143, true), [], []⟩,
    ⟨some 150, .faddr 2 (.t 17), some (149, true), [], []⟩,
    ⟨some 151, .load 1 false (.t 150), some (149, true), [107], []⟩,
    ⟨some 152, .faddr 2 (.t 14), some (149, true), [], []⟩,
    ⟨some 153, .load 1 false (.t 152), some (149, true), [106], []⟩,
    ⟨some 154, .bin .leq (.t 151) (.t 153), some (149, true), [], []⟩,
    ⟨some 155, .pick (.t 149) (.t 154) (.c (.bool false)), some (143, true), [], []⟩,
    ⟨some 156, .un .not (.t 155), some (143, true), [], []⟩,
    ⟨some 157, .pick (.t 143) (.t 156) (.c (.bool false)), some (108, false), [], []⟩,
    ⟨some 158, .pick (.t 108) (.c (.bool true)) (.t 157), none, [], []⟩,
    ⟨some 15, .mov (.t 158), none, [], []⟩] false)))
  (.region [
    ⟨some 159, .bin .add (.t 103) (.c (.int .i64 1)), none, [], []⟩,
    ⟨some 103, .mov (.t 159), none, [], []⟩] false))))
def ic33_1 : IC := .loop [0, 6, 7, 8, 11, 12, 14, 15, 101, 102, 103] [0, 100, 102, 103, 104, 105, 106] ic33_1_b
def ic33_2_b : IC :=
  (.seq (.seq (.region [
    ⟨some 70, .mov (.t 12), none, [], []⟩,
    ⟨some 71, .bin .gtr (.t 70) (.c (.int .i64 0)), none, [], []⟩] false)
  (.cond (.t 71) .skip
  (.gmask [0, 6, 8, 11] [0, 100, 102, 103, 104, 105] (.exit 2))))
  (.seq (.block 3 (.seq (.region [
    ⟨some 74, .mov (.t 0), none, [], []⟩,
    ⟨some 75, .mov (.t 7), none, [], []⟩,
    ⟨some 76, .call none 34 [.t 74, .t 75], none, [0], []⟩,
    ⟨some 13, .mov (.t 76), none, [], []⟩] false)
  (.seq (.region [
    ⟨some 77, .mov (.t 0), none, [], []⟩,
    ⟨some 78, .call none 34 [.t 77, .c (.int .i64 2)], none, [0], []⟩,
    ⟨some 79, .call none 46 [.t 78], none, [], []⟩,
    ⟨some 80, .mov (.t 13), none, [], []⟩,
    ⟨some 81, .mov (.t 13), none, [], []⟩,
    ⟨some 82, .bin .add (.t 81) (.c (.int .i64 1)), none, [], []⟩,
    ⟨some 83, .mov (.t 0), none, [], []⟩,
    ⟨some 84, .mov (.t 7), none, [], []⟩,
    ⟨some 85, .mov (.t 13), none, [], []⟩,
    ⟨some 86, .bin .sub (.t 84) (.t 85), none, [], []⟩,
    ⟨some 87, .call none 34 [.t 83, .t 86], none, [0], []⟩,
    ⟨some 88, .bin .add (.t 82) (.t 87), none, [], []⟩,
    ⟨some 89, .build [.str ⟨#[]⟩, .int .i64 0, .int .i64 0, .nil] [(0, 1, .t 79), (1, 1, .t 80), (2, 1, .t 88)], none, [], []⟩,
    ⟨some 14, .alloc 106 [.str ⟨#[]⟩, .int .i64 0, .int .i64 0, .nil], none, [106], []⟩,
    ⟨none, .store 4 (.t 14) (.t 89), none, [106], []⟩] false)
  (.seq (.seq (.region [
    ⟨some 90, .mov (.t 0), none, [], []⟩,
    ⟨some 91, .call none 34 [.t 90, .c (.int .i64 2)], none, [0], []⟩,
    ⟨some 92, .bin .eql (.t 91) (.c (.int .i64 1)), none, [], []⟩] false)
  (.gpost [0, 6, 7, 8, 11, 12, 14] [0, 100, 102, 103, 104, 105, 106] (.cond (.t 92) (.region [
    ⟨some 93, .buildSl none 1 (.str ⟨#[]⟩) 2 [(0, .c (.str ⟨#[49]⟩)), (1, .c (.str ⟨#[50]⟩))], none, [], []⟩,
    ⟨some 94, .mov (.t 0), none, [], []⟩,
    ⟨some 95, .call none 34 [.t 94, .c (.int .i64 2)], none, [0], []⟩,
    ⟨some 96, .iaddr 1 (.t 93) (.t 95), none, [], []⟩,
    ⟨some 97, .load 1 false (.t 96), none, [], []⟩,
    ⟨some 98, .build [.str ⟨#[]⟩, .str ⟨#[]⟩] [(0, 1, .c (.str ⟨#[110]⟩)), (1, 1, .t 97)], none, [], []⟩,
    ⟨some 99, .buildSl none 2 (.agg [.str ⟨#[]⟩, .str ⟨#[]⟩]) 1 [(0, .t 98)], none, [], []⟩,
    ⟨some 100, .faddr 3 (.t 14), none, [], []⟩,
    ⟨none, .store 1 (.t 100) (.t 99), none, [106], []⟩] false)
  .skip)))
  (.seq (.region [
    ⟨some 15, .mov (.c (.bool false)), none, [], []⟩] false)
  (.seq (.seq (.region [
    ⟨some 101, .mov (.t 11), none, [], []⟩,
    ⟨some 102, .len false (.t 101), none, [102], []⟩,
    ⟨some 103, .mov (.c (.int .i64 0)), none, [], []⟩] false)
  (.block 4 (.gmask [0, 6, 7, 8, 11, 12, 14, 15, 101, 102, 103] [0, 100, 102, 103, 104, 105, 106] ic33_1)))
  (.seq (.region [
    ⟨some 160, .mov (.t 15), none, [], []⟩,
    ⟨some 161, .un .not (.t 160), none, [], []⟩] false)
  (.gpost [0, 6, 7, 8, 11, 12] [0, 100, 102, 103, 104, 105] (.cond (.t 161) (.region [
    ⟨some 162, .mov (.t 11), none, [], []⟩,
    ⟨some 163, .load 4 true (.t 14), none, [106], []⟩,
    ⟨some 164, .buildSl none 4 (.agg [.str ⟨#[]⟩, .int .i64 0, .int .i64 0, .nil]) 1 [(0, .t 163)], none, [], []⟩,
    ⟨some 165, .app none 4 56 (.t 162) (.t 164), none, [102], []⟩,
    ⟨some 11, .mov (.t 165), none, [], []⟩] false)
  .skip)))))))))
  (.region [
    ⟨some 72, .mov (.t 12), none, [], []⟩,
    ⟨some 73, .bin .sub (.t 72) (.c (.int .i64 1)), none, [], []⟩,
    ⟨some 12, .mov (.t 73), none, [], []⟩] false)))
def ic33_2 : IC := .loop [0, 6, 7, 8, 11, 12] [0, 100, 102, 103, 104, 105] ic33_2_b
/-- (*corpora/corporamade.Tape).Document -/
def ic33 : IC :=
  (.seq (.region [
    ⟨some 6, .alloc 105 [.nil, .nil, .nil, .nil, .nil, .nil, .nil], none, [105], []⟩] false)
  (.seq (.region [
    ⟨some 18, .mov (.t 0), none, [], []⟩,
    ⟨some 19, .mov (.t 2), none, [], []⟩,
    ⟨some 20, .call none 34 [.t 18, .t 19], none, [0], []⟩,
    ⟨some 21, .bin .add (.c (.int .i64 1)) (.t 20), none, [], []⟩,
    ⟨some 7, .mov (.t 21), none, [], []⟩] false)
  (.seq (.region [
    ⟨some 22, .call none 42 [], none, [], []⟩,
    ⟨some 23, .mov (.t 1), none, [], []⟩,
    ⟨some 24, .mov (.t 7), none, [], []⟩,
    ⟨some 25, .build [.str ⟨#[]⟩, .int .i64 0, .int .i64 0, .nil] [(0, 1, .t 23), (2, 1, .t 24)], none, [], []⟩,
    ⟨some 26, .buildSl (some 103) 4 (.agg [.str ⟨#[]⟩, .int .i64 0, .int .i64 0, .nil]) 1 [(0, .t 25)], none, [103], []⟩,
    ⟨some 27, .build [.nil, .nil, .nil, .nil, .nil, .nil, .nil] [(0, 1, .t 22), (2, 1, .t 26)], none, [], []⟩,
    ⟨some 8, .alloc 104 [.nil, .nil, .nil, .nil, .nil, .nil, .nil], none, [104], []⟩,
    ⟨none, .store 7 (.t 8) (.t 27), none, [104], []⟩] false)
  (.seq (.seq (.region [
    ⟨some 28, .mov (.t 0), none, [], []⟩,
    ⟨some 29, .call none 34 [.t 28, .c (.int .i64 3)], none, [0], []⟩,
    ⟨some 30, .bin .eql (.t 29) (.c (.int .i64 2)), none, [], []⟩] false)
  (.gpost [0, 6, 7, 8] [0, 100, 103, 104, 105] (.cond (.t 30) (.region [
    ⟨some 31, .faddr 2 (.t 8), none, [], []⟩,
    ⟨some 32, .load 1 false (.t 31), none, [104], [0]⟩,
    ⟨some 33, .buildSl none 1 (.str ⟨#[]⟩) 3 [(0, .c (.str ⟨#[49]⟩)), (1, .c (.str ⟨#[50]⟩)), (2, .c (.str ⟨#[]⟩))], none, [], []⟩,
    ⟨some 34, .mov (.t 0), none, [], []⟩,
    ⟨some 35, .call none 34 [.t 34, .c (.int .i64 3)], none, [0], [3]⟩,
    ⟨some 36, .iaddr 1 (.t 33) (.t 35), none, [], [2, 3, 4]⟩,
    ⟨some 37, .load 1 false (.t 36), none, [], [2, 3, 4, 5]⟩,
    ⟨some 38, .build [.str ⟨#[]⟩, .str ⟨#[]⟩] [(0, 1, .c (.str ⟨#[121, 101, 97, 114]⟩)), (1, 1, .t 37)], none, [], [2, 3, 4, 5, 6]⟩,
    ⟨some 39, .buildSl none 2 (.agg [.str ⟨#[]⟩, .str ⟨#[]⟩]) 1 [(0, .t 38)], none, [], [2, 3, 4, 5, 6, 7]⟩,
    ⟨some 40, .iaddr 4 (.t 32) (.c (.int .i64 0)), none, [103], [0, 1, 2, 3, 4, 5, 6, 7, 8]⟩,
    ⟨some 41, .faddr 3 (.t 40), none, [103], [0, 1, 2, 3, 4, 5, 6, 7, 8, 9]⟩,
    ⟨none, .store 1 (.t 41) (.t 39), none, [103], [0, 1, 2, 3, 4, 5, 6, 7, 8, 9, 10]⟩] true)
  .skip)))
  (.seq (.seq (.gadopt 104 1 100 1 (.region [
    ⟨some 9, .mov (.c (.int .i64 0)), none, [], []⟩] false))
  (.block 0 (.gmask [0, 6, 7, 8, 9] [0, 100, 103, 104, 105] ic33_0)))
  (.seq (.region [
    ⟨some 11, .nilarr 102 4, none, [102], []⟩] false)
  (.seq (.seq (.region [
    ⟨some 68, .mov (.t 0), none, [], []⟩,
    ⟨some 69, .call none 34 [.t 68, .c (.int .i64 5)], none, [0], []⟩,
    ⟨some 12, .mov (.t 69), none, [], []⟩] false)
  (.block 2 (.gmask [0, 6, 7, 8, 11, 12] [0, 100, 102, 103, 104, 105] ic33_2)))
  (.seq (.region [
    ⟨some 166, .mov (.t 11), none, [], []⟩,
    ⟨some 167, .call none 47 [.t 166], none, [102], []⟩,
    ⟨some 168, .faddr 3 (.t 8), none, [], []⟩,
    ⟨none, .store 1 (.t 168) (.t 167), none, [104], []⟩] false)
  (.seq (.region [
    ⟨some 169, .mov (.t 0), none, [], []⟩,
    ⟨some 170, .call none 48 [.t 169, .t 8], none, [0, 100, 103, 104], []⟩] false)
  (.seq (.seq (.region [
    ⟨some 171, .mov (.t 0), none, [], []⟩,
    ⟨some 172, .call none 34 [.t 171, .c (.int .i64 2)], none, [0], []⟩,
    ⟨some 173, .bin .eql (.t 172) (.c (.int .i64 1)), none, [], []⟩] false)
  (.gpost [6, 8] [0, 100, 103, 104, 105] (.cond (.t 173) (.region [
    ⟨some 174, .mov (.t 0), none, [], []⟩,
    ⟨some 175, .call none 49 [.t 174, .t 8], none, [0, 100, 103, 104], []⟩] false)
  .skip)))
  (.seq (.region [
    ⟨some 176, .load 7 true (.t 8), none, [104], []⟩,
    ⟨none, .store 7 (.t 6) (.t 176), none, [105], []⟩] false)
  (.gmask [6] [0, 100, 103, 105] .ret))))))))))))
def F33 : IFunc := ⟨3, 177, [.cell 6 7 true], ic33⟩

/-- (*corpora/corporamade.Tape).Next -/
def ic34 : IC :=
  (.seq (.region [
    ⟨some 4, .mov (.c (.int .i64 0)), none, [], []⟩] false)
  (.seq (.seq (.region [
    ⟨some 5, .mov (.t 0), none, [], []⟩,
    ⟨some 6, .nilChk (.t 5), none, [0], [0]⟩,
    ⟨some 7, .faddr 1 (.t 6), none, [], [0, 1]⟩,
    ⟨some 8, .load 1 false (.t 7), none, [0], [0, 1, 2]⟩,
    ⟨some 9, .mov (.t 0), none, [], []⟩,
    ⟨some 10, .nilChk (.t 9), none, [0], [4]⟩,
    ⟨some 11, .faddr 0 (.t 10), none, [], [4, 5]⟩,
    ⟨some 12, .load 1 false (.t 11), none, [0], [4, 5, 6]⟩,
    ⟨some 13, .len false (.t 12), none, [], [4, 5, 6, 7]⟩,
    ⟨some 14, .bin .geq (.t 8) (.t 13), none, [], [0, 1, 2, 3, 4, 5, 6, 7, 8]⟩] true)
  (.cond (.t 14) (.seq (.region [
    ⟨some 4, .mov (.c (.int .i64 0)), none, [], []⟩] false)
  (.gmask [4] [0] .ret))
  .skip))
  (.seq (.region [
    ⟨some 15, .mov (.t 0), none, [], []⟩,
    ⟨some 16, .nilChk (.t 15), none, [0], []⟩,
    ⟨some 17, .faddr 1 (.t 16), none, [], []⟩,
    ⟨some 18, .load 1 false (.t 17), none, [0], []⟩,
    ⟨some 19, .bin .add (.t 18) (.c (.int .i64 1)), none, [], []⟩,
    ⟨some 20, .nilChk (.t 15), none, [0], []⟩,
    ⟨some 21, .faddr 1 (.t 20), none, [], []⟩,
    ⟨none, .store 1 (.t 21) (.t 19), none, [0], []⟩] false)
  (.seq (.region [
    ⟨some 22, .mov (.t 0), none, [], []⟩,
    ⟨some 23, .nilChk (.t 22), none, [0], [0]⟩,
    ⟨some 24, .faddr 0 (.t 23), none, [], [0, 1]⟩,
    ⟨some 25, .load 1 false (.t 24), none, [0], [0, 1, 2]⟩,
    ⟨some 26, .mov (.t 0), none, [], []⟩,
    ⟨some 27, .nilChk (.t 26), none, [0], [4]⟩,
    ⟨some 28, .faddr 1 (.t 27), none, [], [4, 5]⟩,
    ⟨some 29, .load 1 false (.t 28), none, [0], [4, 5, 6]⟩,
    ⟨some 30, .bin .sub (.t 29) (.c (.int .i64 1)), none, [], [4, 5, 6, 7]⟩,
    ⟨some 31, .iaddr 1 (.t 25) (.t 30), none, [], [0, 1, 2, 3, 4, 5, 6, 7, 8]⟩,
    ⟨some 32, .load 1 false (.t 31), none, [], [0, 1, 2, 3, 4, 5, 6, 7, 8, 9]⟩,
    ⟨some 33, .mov (.t 1), none, [], []⟩,
    ⟨some 34, .call none 13 [.t 32, .t 33], none, [], [0, 1, 2, 3, 4, 5, 6, 7, 8, 9, 10, 11]⟩,
    ⟨some 4, .mov (.t 34), none, [], [0, 1, 2, 3, 4, 5, 6, 7, 8, 9, 10, 11, 12]⟩] true)
  (.gmask [4] [0] .ret)))))
def F34 : IFunc := ⟨2, 35, [.tmp 4], ic34⟩

def ic35_0_b : IC :=
  (.seq (.region [
    ⟨some 40, .bin .lss (.t 39) (.t 38), none, [], []⟩] false)
  (.seq (.cond (.t 40) .skip
  (.gmask [2, 3, 4] [104, 105, 106, 107, 108, 109, 110, 111, 112, 113] (.exit 0)))
  (.seq (.block 1 (.seq (.region [
    ⟨some 41, .iaddr 4 (.t 37) (.t 39), none, [], []⟩,
    ⟨some 42, .load 4 true (.t 41), none, [], []⟩,
    ⟨some 7, .alloc 114 [.str ⟨#[]⟩, .int .i64 0, .int .i64 0, .nil], none, [114], []⟩,
    ⟨none, .store 4 (.t 7) (.t 42), none, [114], []⟩] false)
  (.seq (.region [
    ⟨some 43, .load 7 true (.t 2), none, [111], []⟩,
    ⟨some 44, .faddr 0 (.t 7), none, [], []⟩,
    ⟨some 45, .load 1 false (.t 44), none, [114], []⟩,
    ⟨some 46, .call none 52 [.t 43, .t 45], none, [], []⟩,
    ⟨some 47, .bin .geq (.t 46) (.c (.int .i64 0)), none, [], []⟩] false)
  (.cond (.t 47) (.seq (.region [
    ⟨some 48, .build [.nil, .nil, .nil, .nil, .nil, .nil, .nil] [], none, [], []⟩,
    ⟨none, .store 7 (.t 4) (.t 48), none, [113], []⟩,
    ⟨some 5, .mov (.c (.int .i64 5)), none, [], []⟩] false)
  (.gmask [4, 5] [104, 105, 106, 107, 108, 109, 110, 113] .ret))
  .skip))))
  (.region [
    ⟨some 49, .bin .add (.t 39) (.c (.int .i64 1)), none, [], []⟩,
    ⟨some 39, .mov (.t 49), none, [], []⟩] false))))
def ic35_0 : IC := .loop [2, 3, 4, 37, 38, 39] [104, 105, 106, 107, 108, 109, 110, 111, 112, 113] ic35_0_b
def ic35_1_b : IC :=
  (.seq (.seq (.region [
    ⟨some 112, .mov (.t 11), none, [], []⟩,
    ⟨some 113, .faddr 2 (.t 10), none, [], []⟩,
    ⟨some 114, .load 1 false (.t 113), none, [115], []⟩,
    ⟨some 115, .len false (.t 114), none, [106], []⟩,
    ⟨some 116, .bin .lss (.t 112) (.t 115), none, [], []⟩] false)
  (.cond (.t 116) .skip
  (.gmask [2, 3, 4, 8, 9, 10] [104, 105, 106, 107, 108, 109, 110, 111, 112, 113, 115] (.exit 2))))
  (.seq (.block 3 (.seq (.region [
    ⟨some 119, .faddr 2 (.t 10), none, [], []⟩,
    ⟨some 120, .load 1 false (.t 119), none, [115], []⟩,
    ⟨some 121, .mov (.t 11), none, [], []⟩,
    ⟨some 122, .iaddr 4 (.t 120) (.t 121), none, [106], []⟩,
    ⟨some 123, .faddr 1 (.t 122), none, [106], []⟩,
    ⟨some 124, .load 1 false (.t 123), none, [106], []⟩,
    ⟨some 125, .mov (.t 8), none, [], []⟩,
    ⟨some 126, .bin .add (.t 124) (.t 125), none, [], []⟩,
    ⟨some 127, .iaddr 4 (.t 120) (.t 121), none, [106], []⟩,
    ⟨some 128, .faddr 1 (.t 127), none, [106], []⟩,
    ⟨none, .store 1 (.t 128) (.t 126), none, [106], []⟩] false)
  (.region [
    ⟨some 129, .faddr 2 (.t 10), none, [], []⟩,
    ⟨some 130, .load 1 false (.t 129), none, [115], []⟩,
    ⟨some 131, .mov (.t 11), none, [], []⟩,
    ⟨some 132, .iaddr 4 (.t 130) (.t 131), none, [106], []⟩,
    ⟨some 133, .faddr 2 (.t 132), none, [106], []⟩,
    ⟨some 134, .load 1 false (.t 133), none, [106], []⟩,
    ⟨some 135, .mov (.t 8), none, [], []⟩,
    ⟨some 136, .bin .add (.t 134) (.t 135), none, [], []⟩,
    ⟨some 137, .iaddr 4 (.t 130) (.t 131), none, [106], []⟩,
    ⟨some 138, .faddr 2 (.t 137), none, [106], []⟩,
    ⟨none, .store 1 (.t 138) (.t 136), none, [106], []⟩] false)))
  (.region [
    ⟨some 117, .mov (.t 11), none, [], []⟩,
    ⟨some 118, .bin .add (.t 117) (.c (.int .i64 1)), none, [], []⟩,
    ⟨some 11, .mov (.t 118), none, [], []⟩] false)))
def ic35_1 : IC := .loop [2, 3, 4, 8, 9, 10, 11] [104, 105, 106, 107, 108, 109, 110, 111, 112, 113, 115] ic35_1_b
def ic35_2_b : IC :=
  (.seq (.seq (.region [
    ⟨some 149, .mov (.t 12), none, [], []⟩,
    ⟨some 150, .faddr 3 (.t 10), none, [], []⟩,
    ⟨some 151, .load 1 false (.t 150), none, [115], []⟩,
    ⟨some 152, .len false (.t 151), none, [107], []⟩,
    ⟨some 153, .bin .lss (.t 149) (.t 152), none, [], []⟩] false)
  (.cond (.t 153) .skip
  (.gmask [2, 3, 4, 8, 9, 10] [104, 105, 106, 107, 108, 109, 110, 111, 112, 113, 115] (.exit 4))))
  (.seq (.block 5 (.seq (.region [
    ⟨some 156, .faddr 3 (.t 10), none, [], []⟩,
    ⟨some 157, .load 1 false (.t 156), none, [115], []⟩,
    ⟨some 158, .mov (.t 12), none, [], []⟩,
    ⟨some 159, .iaddr 4 (.t 157) (.t 158), none, [107], []⟩,
    ⟨some 160, .faddr 1 (.t 159), none, [107], []⟩,
    ⟨some 161, .load 1 false (.t 160), none, [107], []⟩,
    ⟨some 162, .mov (.t 8), none, [], []⟩,
    ⟨some 163, .bin .add (.t 161) (.t 162), none, [], []⟩,
    ⟨some 164, .iaddr 4 (.t 157) (.t 158), none, [107], []⟩,
    ⟨some 165, .faddr 1 (.t 164), none, [107], []⟩,
    ⟨none, .store 1 (.t 165) (.t 163), none, [107], []⟩] false)
  (.region [
    ⟨some 166, .faddr 3 (.t 10), none, [], []⟩,
    ⟨some 167, .load 1 false (.t 166), none, [115], []⟩,
    ⟨some 168, .mov (.t 12), none, [], []⟩,
    ⟨some 169, .iaddr 4 (.t 167) (.t 168), none, [107], []⟩,
    ⟨some 170, .faddr 2 (.t 169), none, [107], []⟩,
    ⟨some 171, .load 1 false (.t 170), none, [107], []⟩,
    ⟨some 172, .mov (.t 8), none, [], []⟩,
    ⟨some 173, .bin .add (.t 171) (.t 172), none, [], []⟩,
    ⟨some 174, .iaddr 4 (.t 167) (.t 168), none, [107], []⟩,
    ⟨some 175, .faddr 2 (.t 174), none, [107], []⟩,
    ⟨none, .store 1 (.t 175) (.t 173), none, [107], []⟩] false)))
  (.region [
    ⟨some 154, .mov (.t 12), none, [], []⟩,
    ⟨some 155, .bin .add (.t 154) (.c (.int .i64 1)), none, [], []⟩,
    ⟨some 12, .mov (.t 155), none, [], []⟩] false)))
def ic35_2 : IC := .loop [2, 3, 4, 8, 9, 10, 12] [104, 105, 106, 107, 108, 109, 110, 111, 112, 113, 115] ic35_2_b
def ic35_3_b : IC :=
  (.seq (.seq (.region [
    ⟨some 184, .mov (.t 13), none, [], []⟩,
    ⟨some 185, .faddr 4 (.t 10), none, [], []⟩,
    ⟨some 186, .load 1 false (.t 185), none, [115], []⟩,
    ⟨some 187, .len false (.t 186), none, [108], []⟩,
    ⟨some 188, .bin .lss (.t 184) (.t 187), none, [], []⟩] false)
  (.cond (.t 188) .skip
  (.gmask [2, 3, 4, 8, 10] [104, 105, 106, 107, 108, 109, 110, 111, 112, 113, 115] (.exit 6))))
  (.seq (.block 7 (.seq (.region [
    ⟨some 191, .faddr 4 (.t 10), none, [], []⟩,
    ⟨some 192, .load 1 false (.t 191), none, [115], []⟩,
    ⟨some 193, .mov (.t 13), none, [], []⟩,
    ⟨some 194, .iaddr 4 (.t 192) (.t 193), none, [108], []⟩,
    ⟨some 195, .faddr 1 (.t 194), none, [108], []⟩,
    ⟨some 196, .load 1 false (.t 195), none, [108], []⟩,
    ⟨some 197, .mov (.t 8), none, [], []⟩,
    ⟨some 198, .bin .add (.t 196) (.t 197), none, [], []⟩,
    ⟨some 199, .iaddr 4 (.t 192) (.t 193), none, [108], []⟩,
    ⟨some 200, .faddr 1 (.t 199), none, [108], []⟩,
    ⟨none, .store 1 (.t 200) (.t 198), none, [108], []⟩] false)
  (.seq (.region [
    ⟨some 201, .faddr 4 (.t 10), none, [], []⟩,
    ⟨some 202, .load 1 false (.t 201), none, [115], []⟩,
    ⟨some 203, .mov (.t 13), none, [], []⟩,
    ⟨some 204, .iaddr 4 (.t 202) (.t 203), none, [108], []⟩,
    ⟨some 205, .faddr 2 (.t 204), none, [108], []⟩,
    ⟨some 206, .load 1 false (.t 205), none, [108], []⟩,
    ⟨some 207, .mov (.t 8), none, [], []⟩,
    ⟨some 208, .bin .add (.t 206) (.t 207), none, [], []⟩,
    ⟨some 209, .iaddr 4 (.t 202) (.t 203), none, [108], []⟩,
    ⟨some 210, .faddr 2 (.t 209), none, [108], []⟩,
    ⟨none, .store 1 (.t 210) (.t 208), none, [108], []⟩] false)
  (.seq (.region [
    ⟨some 211, .faddr 4 (.t 10), none, [], []⟩,
    ⟨some 212, .load 1 false (.t 211), none, [115], []⟩,
    ⟨some 213, .mov (.t 13), none, [], []⟩,
    ⟨some 214, .iaddr 4 (.t 212) (.t 213), none, [108], []⟩,
    ⟨some 215, .faddr 3 (.t 214), none, [108], []⟩,
    ⟨some 216, .load 1 false (.t 215), none, [108], []⟩,
    ⟨some 217, .bin .geq (.t 216) (.c (.int .i64 0)), none, [], []⟩] false)
  (.gpost [2, 3, 4, 8, 9, 10, 13] [104, 105, 106, 107, 108, 109, 110, 111, 112, 113, 115] (.cond (.t 217) (.region [
    ⟨some 218, .faddr 4 (.t 10), none, [], []⟩,
    ⟨some 219, .load 1 false (.t 218), none, [115], []⟩,
    ⟨some 220, .mov (.t 13), none, [], []⟩,
    ⟨some 221, .iaddr 4 (.t 219) (.t 220), none, [108], []⟩,
    ⟨some 222, .faddr 3 (.t 221), none, [108], []⟩,
    ⟨some 223, .load 1 false (.t 222), none, [108], []⟩,
    ⟨some 224, .mov (.t 9), none, [], []⟩,
    ⟨some 225, .bin .add (.t 223) (.t 224), none, [], []⟩,
    ⟨some 226, .iaddr 4 (.t 219) (.t 220), none, [108], []⟩,
    ⟨some 227, .faddr 3 (.t 226), none, [108], []⟩,
    ⟨none, .store 1 (.t 227) (.t 225), none, [108], []⟩] false)
  .skip))))))
  (.region [
    ⟨some 189, .mov (.t 13), none, [], []⟩,
    ⟨some 190, .bin .add (.t 189) (.c (.int .i64 1)), none, [], []⟩,
    ⟨some 13, .mov (.t 190), none, [], []⟩] false)))
def ic35_3 : IC := .loop [2, 3, 4, 8, 9, 10, 13] [104, 105, 106, 107, 108, 109, 110, 111, 112, 113, 115] ic35_3_b
def ic35_4_b : IC :=
  (.seq (.region [
    ⟨some 257, .bin .lss (.t 256) (.t 255), none, [], []⟩] false)
  (.seq (.cond (.t 257) .skip
  (.gmask [4, 10] [104, 105, 106, 107, 108, 109, 110, 113, 115] (.exit 8)))
  (.seq (.block 9 (.seq (.region [
    ⟨some 258, .iaddr 1 (.t 254) (.t 256), none, [], []⟩,
    ⟨some 259, .load 1 false (.t 258), none, [], []⟩,
    ⟨some 19, .mov (.t 259), none, [], []⟩] false)
  (.seq (.seq (.region [
    ⟨some 260, .mov (.t 19), none, [], []⟩,
    ⟨some 261, .bin .geq (.t 260) (.c (.int .i64 0)), none, [], []⟩] false)
  (.gpost [4, 8, 10, 19, 254, 255, 256] [104, 105, 106, 107, 108, 109, 110, 113, 115] (.cond (.t 261) (.region [
    ⟨some 262, .mov (.t 19), none, [], []⟩,
    ⟨some 263, .mov (.t 8), none, [], []⟩,
    ⟨some 264, .bin .add (.t 262) (.t 263), none, [], []⟩,
    ⟨some 19, .mov (.t 264), none, [], []⟩] false)
  .skip)))
  (.region [
    ⟨some 265, .faddr 5 (.t 10), none, [], []⟩,
    ⟨some 266, .load 1 false (.t 265), none, [115], []⟩,
    ⟨some 267, .mov (.t 19), none, [], []⟩,
    ⟨some 268, .buildSl none 1 (.int .i64 0) 1 [(0, .t 267)], none, [], []⟩,
    ⟨some 269, .app none 1 8 (.t 266) (.t 268), none, [109], []⟩,
    ⟨some 270, .faddr 5 (.t 10), none, [], []⟩,
    ⟨none, .store 1 (.t 270) (.t 269), none, [115], []⟩] false))))
  (.region [
    ⟨some 271, .bin .add (.t 256) (.c (.int .i64 1)), none, [], []⟩,
    ⟨some 256, .mov (.t 271), none, [], []⟩] false))))
def ic35_4 : IC := .loop [4, 8, 10, 254, 255, 256] [104, 105, 106, 107, 108, 109, 110, 113, 115] ic35_4_b
/-- corpora/corporaref06.Concat -/
def ic35 : IC :=
  (.seq (.region [
    ⟨some 2, .box 111 7 (.t 0), none, [111], []⟩,
    ⟨some 3, .box 112 7 (.t 1), none, [112], []⟩,
    ⟨some 4, .alloc 113 [.nil, .nil, .nil, .nil, .nil, .nil, .nil], none, [113], []⟩,
    ⟨some 5, .mov (.c (.int .i64 0)), none, [], []⟩] false)
  (.seq (.seq (.region [
    ⟨some 20, .load 7 true (.t 2), none, [111], []⟩,
    ⟨some 21, .call none 50 [.t 20], none, [], []⟩,
    ⟨some 22, .un .not (.t 21), none, [], []⟩,
    ⟨some 23, .mov (.t 22), none, [], []⟩,
    ⟨some 24, .load 7 true (.t 3), some (23, false), [112], []⟩,
    ⟨some 25, .call none 50 [.t 24], some (23, false), [], []⟩,
    ⟨some 26, .un .not (.t 25), some (23, false), [], []⟩,
    ⟨some 27, .pick (.t 23) (.c (.bool true)) (.t 26), none, [], []⟩] false)
  (.cond (.t 27) (.seq (.region [
    ⟨some 28, .build [.nil, .nil, .nil, .nil, .nil, .nil, .nil] [], none, [], []⟩,
    ⟨none, .store 7 (.t 4) (.t 28), none, [113], []⟩,
    ⟨some 5, .mov (.c (.int .i64 1)), none, [], []⟩] false)
  (.gmask [4, 5] [104, 105, 106, 107, 108, 109, 110, 113] .ret))
  .skip))
  (.seq (.seq (.region [
    ⟨some 29, .faddr 0 (.t 2), none, [], []⟩,
    ⟨some 30, .load 1 false (.t 29), none, [111], []⟩,
    ⟨some 31, .faddr 0 (.t 3), none, [], []⟩,
    ⟨some 32, .load 1 false (.t 31), none, [112], []⟩,
    ⟨some 33, .call none 51 [.t 30, .t 32], none, [], []⟩,
    ⟨some 34, .un .not (.t 33), none, [], []⟩] false)
  (.cond (.t 34) (.seq (.region [
    ⟨some 35, .build [.nil, .nil, .nil, .nil, .nil, .nil, .nil] [], none, [], []⟩,
    ⟨none, .store 7 (.t 4) (.t 35), none, [113], []⟩,
    ⟨some 5, .mov (.c (.int .i64 17)), none, [], []⟩] false)
  (.gmask [4, 5] [104, 105, 106, 107, 108, 109, 110, 113] .ret))
  .skip))
  (.seq (.seq (.region [
    ⟨some 36, .faddr 2 (.t 3), none, [], []⟩,
    ⟨some 37, .load 1 false (.t 36), none, [112], []⟩,
    ⟨some 38, .len false (.t 37), none, [], []⟩,
    ⟨some 39, .mov (.c (.int .i64 0)), none, [], []⟩] false)
  (.block 0 (.gmask [2, 3, 4, 37, 38, 39] [104, 105, 106, 107, 108, 109, 110, 111, 112, 113] ic35_0)))
  (.seq (.region [
    ⟨some 50, .faddr 1 (.t 2), none, [], []⟩,
    ⟨some 51, .load 1 false (.t 50), none, [111], [0]⟩,
    ⟨some 52, .len false (.t 51), none, [], [0, 1]⟩,
    ⟨some 53, .faddr 4 (.t 2), none, [], []⟩,
    ⟨some 54, .load 1 false (.t 53), none, [111], [3]⟩,
    ⟨some 55, .len false (.t 54), none, [], [3, 4]⟩,
    ⟨some 8, .mov (.t 52), none, [], [0, 1, 2]⟩,
    ⟨some 9, .mov (.t 55), none, [], [0, 1, 2, 3, 4, 5, 6]⟩] true)
  (.seq (.seq (.region [
    ⟨some 56, .mov (.t 8), none, [], []⟩,
    ⟨some 57, .faddr 1 (.t 3), none, [], []⟩,
    ⟨some 58, .load 1 false (.t 57), none, [112], []⟩,
    ⟨some 59, .len false (.t 58), none, [], []⟩,
    ⟨some 60, .bin .add (.t 56) (.t 59), none, [], []⟩,
    ⟨some 61, .bin .gtr (.t 60) (.c (.int .i64 4096)), none, [], []⟩,
    ⟨some 62, .mov (.t 61), none, [], []⟩,
    ⟨some 63, .faddr 2 (.t 2), some (62, false), [], []⟩,
    ⟨some 64, .load 1 false (.t 63), some (62, false), [111], []⟩,
    ⟨some 65, .len false (.t 64), some (62, false), [], []⟩,
    ⟨some 66, .faddr 2 (.t 3), some (62, false), [], []⟩,
    ⟨some 67, .load 1 false (.t 66), some (62, false), [112], []⟩,
    ⟨some 68, .len false (.t 67), some (62, false), [], []⟩,
    ⟨some 69, .bin .add (.t 65) (.t 68), some (62, false), [], []⟩,
    ⟨some 70, .bin .gtr (.t 69) (.c (.int .i64 64)), some (62, false), [], []⟩,
    ⟨some 71, .pick (.t 62) (.c (.bool true)) (.t 70), none, [], []⟩,
    ⟨some 72, .mov (.t 71), none, [], []⟩,
    ⟨some 73, .faddr 3 (.t 2), some (72, false), [], []⟩,
    ⟨some 74, .load 1 false (.t 73), some (72, false), [111], []⟩,
    ⟨some 75, .len false (.t 74), some (72, false), [], []⟩,
    ⟨some 76, .faddr 3 (.t 3), some (72, false), [], []⟩,
    ⟨some 77, .load 1 false (.t 76), some (72, false), [112], []⟩,
    ⟨some 78, .len false (.t 77), some (72, false), [], []⟩,
    ⟨some 79, .bin .add (.t 75) (.t 78), some (72, false), [], []⟩,
    ⟨some 80, .bin .gtr (.t 79) (.c (.int .i64 1024)), some (72, false), [], []⟩,
    ⟨some 81, .pick (.t 72) (.c (.bool true)) (.t 80), none, [], []⟩,
    ⟨some 82, .mov (.t 81), none, [], []⟩,
    ⟨some 83, .mov (.t 9), some (82, false), [], []⟩,
    ⟨some 84, .faddr 4 (.t 3), some (82, false), [], []⟩,
    ⟨some 85, .load 1 false (.t 84), some (82, false), [112], []⟩,
    ⟨some 86, .len false (.t 85), some (82, false), [], []⟩,
    ⟨some 87, .bin .add (.t 83) (.t 86), some (82, false), [], []⟩,
    ⟨some 88, .bin .gtr (.t 87) (.c (.int .i64 2048)), some (82, false), [], []⟩,
    ⟨some 89, .pick (.t 82) (.c (.bool true)) (.t 88), none, [], []⟩] false)
  (.cond (.t 89) (.seq (.region [
    ⟨some 90, .build [.nil, .nil, .nil, .nil, .nil, .nil, .nil] [], none, [], []⟩,
    ⟨none, .store 7 (.t 4) (.t 90), none, [113], []⟩,
    ⟨some 5, .mov (.c (.int .i64 2)), none, [], []⟩] false)
  (.gmask [4, 5] [104, 105, 106, 107, 108, 109, 110, 113] .ret))
  .skip))
  (.seq (.region [
    ⟨some 91, .faddr 0 (.t 2), none, [], []⟩,
    ⟨some 92, .load 1 false (.t 91), none, [111], []⟩,
    ⟨some 93, .app (some 104) 2 24 (.c (.nil)) (.t 92), none, [104], []⟩,
    ⟨some 94, .build [.nil, .nil, .nil, .nil, .nil, .nil, .nil] [(0, 1, .t 93)], none, [], []⟩,
    ⟨some 10, .alloc 115 [.nil, .nil, .nil, .nil, .nil, .nil, .nil], none, [115], []⟩,
    ⟨none, .store 7 (.t 10) (.t 94), none, [115], []⟩] false)
  (.seq (.region [
    ⟨some 95, .faddr 1 (.t 2), none, [], []⟩,
    ⟨some 96, .load 1 false (.t 95), none, [111], [0]⟩,
    ⟨some 97, .app (some 105) 1 24 (.c (.nil)) (.t 96), none, [105], [0, 1]⟩,
    ⟨some 98, .faddr 1 (.t 3), none, [], []⟩,
    ⟨some 99, .load 1 false (.t 98), none, [112], [3]⟩,
    ⟨some 100, .app none 1 24 (.t 97) (.t 99), none, [105], [0, 1, 2, 3, 4]⟩,
    ⟨some 101, .faddr 1 (.t 10), none, [], [0, 1, 2, 3, 4, 5]⟩,
    ⟨none, .store 1 (.t 101) (.t 100), none, [115], [0, 1, 2, 3, 4, 5, 6]⟩] true)
  (.seq (.region [
    ⟨some 102, .faddr 2 (.t 2), none, [], []⟩,
    ⟨some 103, .load 1 false (.t 102), none, [111], [0]⟩,
    ⟨some 104, .app (some 106) 4 56 (.c (.nil)) (.t 103), none, [106], [0, 1]⟩,
    ⟨some 105, .faddr 2 (.t 3), none, [], []⟩,
    ⟨some 106, .load 1 false (.t 105), none, [112], [3]⟩,
    ⟨some 107, .app none 4 56 (.t 104) (.t 106), none, [106], [0, 1, 2, 3, 4]⟩,
    ⟨some 108, .faddr 2 (.t 10), none, [], [0, 1, 2, 3, 4, 5]⟩,
    ⟨none, .store 1 (.t 108) (.t 107), none, [115], [0, 1, 2, 3, 4, 5, 6]⟩] true)
  (.seq (.seq (.region [
    ⟨some 109, .faddr 2 (.t 2), none, [], []⟩,
    ⟨some 110, .load 1 false (.t 109), none, [111], []⟩,
    ⟨some 111, .len false (.t 110), none, [], []⟩,
    ⟨some 11, .mov (.t 111), none, [], []⟩] false)
  (.block 2 (.gmask [2, 3, 4, 8, 9, 10, 11] [104, 105, 106, 107, 108, 109, 110, 111, 112, 113, 115] ic35_1)))
  (.seq (.region [
    ⟨some 139, .faddr 3 (.t 2), none, [], []⟩,
    ⟨some 140, .load 1 false (.t 139), none, [111], [0]⟩,
    ⟨some 141, .app (some 107) 4 56 (.c (.nil)) (.t 140), none, [107], [0, 1]⟩,
    ⟨some 142, .faddr 3 (.t 3), none, [], []⟩,
    ⟨some 143, .load 1 false (.t 142), none, [112], [3]⟩,
    ⟨some 144, .app none 4 56 (.t 141) (.t 143), none, [107], [0, 1, 2, 3, 4]⟩,
    ⟨some 145, .faddr 3 (.t 10), none, [], [0, 1, 2, 3, 4, 5]⟩,
    ⟨none, .store 1 (.t 145) (.t 144), none, [115], [0, 1, 2, 3, 4, 5, 6]⟩] true)
  (.seq (.seq (.region [
    ⟨some 146, .faddr 3 (.t 2), none, [], []⟩,
    ⟨some 147, .load 1 false (.t 146), none, [111], []⟩,
    ⟨some 148, .len false (.t 147), none, [], []⟩,
    ⟨some 12, .mov (.t 148), none, [], []⟩] false)
  (.block 4 (.gmask [2, 3, 4, 8, 9, 10, 12] [104, 105, 106, 107, 108, 109, 110, 111, 112, 113, 115] ic35_2)))
  (.seq (.region [
    ⟨some 176, .faddr 4 (.t 2), none, [], []⟩,
    ⟨some 177, .load 1 false (.t 176), none, [111], [0]⟩,
    ⟨some 178, .app (some 108) 4 40 (.c (.nil)) (.t 177), none, [108], [0, 1]⟩,
    ⟨some 179, .faddr 4 (.t 3), none, [], []⟩,
    ⟨some 180, .load 1 false (.t 179), none, [112], [3]⟩,
    ⟨some 181, .app none 4 40 (.t 178) (.t 180), none, [108], [0, 1, 2, 3, 4]⟩,
    ⟨some 182, .faddr 4 (.t 10), none, [], [0, 1, 2, 3, 4, 5]⟩,
    ⟨none, .store 1 (.t 182) (.t 181), none, [115], [0, 1, 2, 3, 4, 5, 6]⟩] true)
  (.seq (.seq (.region [
    ⟨some 183, .mov (.t 9), none, [], []⟩,
    ⟨some 13, .mov (.t 183), none, [], []⟩] false)
  (.block 6 (.gmask [2, 3, 4, 8, 9, 10, 13] [104, 105, 106, 107, 108, 109, 110, 111, 112, 113, 115] ic35_3)))
  (.seq (.seq (.region [
    ⟨some 228, .faddr 5 (.t 2), none, [], []⟩,
    ⟨some 229, .load 1 false (.t 228), none, [111], []⟩,
    ⟨some 230, .len false (.t 229), none, [], []⟩,
    ⟨some 231, .faddr 5 (.t 3), none, [], []⟩,
    ⟨some 232, .load 1 false (.t 231), none, [112], []⟩,
    ⟨some 233, .len false (.t 232), none, [], []⟩,
    ⟨some 234, .bin .add (.t 230) (.t 233), none, [], []⟩,
    ⟨some 235, .bin .gtr (.t 234) (.c (.int .i64 0)), none, [], []⟩] false)
  (.gpost [4, 10] [104, 105, 106, 107, 108, 109, 110, 113, 115] (.cond (.t 235) (.seq (.region [
    ⟨some 237, .load 7 true (.t 2), none, [111], []⟩,
    ⟨some 238, .call none 53 [.t 237], none, [], []⟩,
    ⟨some 236, .mov (.t 238), none, [], []⟩,
    ⟨some 239, .extract (.t 236) 0, none, [], []⟩,
    ⟨some 240, .extract (.t 236) 1, none, [], []⟩,
    ⟨some 14, .mov (.t 239), none, [], []⟩,
    ⟨some 15, .mov (.t 240), none, [], []⟩] false)
  (.seq (.region [
    ⟨some 242, .load 7 true (.t 3), none, [112], []⟩,
    ⟨some 243, .call none 53 [.t 242], none, [], []⟩,
    ⟨some 241, .mov (.t 243), none, [], []⟩,
    ⟨some 244, .extract (.t 241) 0, none, [], []⟩,
    ⟨some 245, .extract (.t 241) 1, none, [], []⟩,
    ⟨some 16, .mov (.t 244), none, [], []⟩,
    ⟨some 17, .mov (.t 245), none, [], []⟩] false)
  (.seq (.region [
    ⟨some 246, .mov (.t 14), none, [], []⟩,
    ⟨some 247, .app (some 109) 1 8 (.c (.nil)) (.t 246), none, [109], []⟩,
    ⟨some 248, .mov (.t 15), none, [], []⟩,
    ⟨some 249, .app (some 110) 1 16 (.c (.nil)) (.t 248), none, [110], []⟩,
    ⟨some 250, .mov (.t 17), none, [], []⟩,
    ⟨some 251, .app none 1 16 (.t 249) (.t 250), none, [110], []⟩,
    ⟨some 252, .faddr 5 (.t 10), none, [], []⟩,
    ⟨none, .store 1 (.t 252) (.t 247), none, [115], []⟩,
    ⟨some 253, .faddr 6 (.t 10), none, [], []⟩,
    ⟨none, .store 1 (.t 253) (.t 251), none, [115], []⟩] false)
  (.seq (.region [
    ⟨some 254, .mov (.t 16), none, [], []⟩,
    ⟨some 255, .len false (.t 254), none, [], []⟩,
    ⟨some 256, .mov (.c (.int .i64 0)), none, [], []⟩] false)
  (.block 8 (.gmask [4, 8, 10, 254, 255, 256] [104, 105, 106, 107, 108, 109, 110, 113, 115] ic35_4))))))
  .skip)))
  (.seq (.region [
    ⟨some 272, .load 7 true (.t 10), none, [115], []⟩,
    ⟨none, .store 7 (.t 4) (.t 272), none, [113], []⟩,
    ⟨some 5, .mov (.c (.int .i64 0)), none, [], []⟩] false)
  (.gmask [4, 5] [104, 105, 106, 107, 108, 109, 110, 113] .ret)))))))))))))))))
def F35 : IFunc := ⟨2, 273, [.cell 4 7 true, .tmp 5], ic35⟩

/-- corpora/treerel.token -/
def ic36 : IC :=
  (.seq (.region [
    ⟨some 2, .box 100 7 (.t 0), none, [100], []⟩,
    ⟨some 4, .mov (.c (.bool false)), none, [], []⟩] false)
  (.seq (.region [
    ⟨some 5, .mov (.t 1), none, [], []⟩,
    ⟨some 6, .bin .geq (.t 5) (.c (.int .i64 0)), none, [], []⟩,
    ⟨some 7, .mov (.t 6), none, [], []⟩,
    ⟨some 8, .mov (.t 1), some (7, true), [], []⟩,
    ⟨some 9, .faddr 1 (.t 2), some (7, true), [], []⟩,
    ⟨some 10, .load 1 false (.t 9), some (7, true), [100], []⟩,
    ⟨some 11, .len false (.t 10), some (7, true), [], []⟩,
    ⟨some 12, .bin .lss (.t 8) (.t 11), some (7, true), [], []⟩,
    ⟨some 13, .pick (.t 7) (.t 12) (.c (.bool false)), none, [], []⟩,
    ⟨some 4, .mov (.t 13), none, [], []⟩] false)
  (.gmask [4] [] .ret)))
def F36 : IFunc := ⟨2, 14, [.tmp 4], ic36⟩

/-- corpora/treerel.head -/
def ic37 : IC :=
  (.seq (.region [
    ⟨some 2, .box 100 7 (.t 0), none, [100], []⟩,
    ⟨some 4, .mov (.c (.int .i64 0)), none, [], []⟩] false)
  (.seq (.seq (.region [
    ⟨some 5, .mov (.t 1), none, [], []⟩,
    ⟨some 6, .faddr 5 (.t 2), none, [], []⟩,
    ⟨some 7, .load 1 false (.t 6), none, [100], [1]⟩,
    ⟨some 8, .len false (.t 7), none, [], [1, 2]⟩,
    ⟨some 9, .bin .lss (.t 5) (.t 8), none, [], [0, 1, 2, 3]⟩,
    ⟨some 10, .mov (.t 9), none, [], [0, 1, 2, 3, 4]⟩,
    ⟨some 11, .load 7 true (.t 2), some (10, true), [100], [0, 1, 2, 3, 4, 5]⟩,
    ⟨some 12, .faddr 5 (.t 2), some (10, true), [], [0, 1, 2, 3, 4, 5]⟩,
    ⟨some 13, .load 1 false (.t 12), some (10, true), [100], [0, 1, 2, 3, 4, 5, 7]⟩,
    ⟨some 14, .mov (.t 1), some (10, true), [], [0, 1, 2, 3, 4, 5]⟩,
    ⟨some 15, .iaddr 1 (.t 13) (.t 14), some (10, true), [], [0, 1, 2, 3, 4, 5, 7, 8, 9]⟩,
    ⟨some 16, .load 1 false (.t 15), some (10, true), [], [0, 1, 2, 3, 4, 5, 7, 8, 9, 10]⟩,
    ⟨some 17, .call none 36 [.t 11, .t 16], some (10, true), [], [0, 1, 2, 3, 4, 5, 6, 7, 8, 9, 10, 11]⟩,
    ⟨some 18, .pick (.t 10) (.t 17) (.c (.bool false)), none, [], [0, 1, 2, 3, 4, 5, 6, 7, 8, 9, 10, 11, 12]⟩] true)
  (.cond (.t 18) (.seq (.region [
    ⟨some 19, .faddr 5 (.t 2), none, [], []⟩,
    ⟨some 20, .load 1 false (.t 19), none, [100], []⟩,
    ⟨some 21, .mov (.t 1), none, [], []⟩,
    ⟨some 22, .iaddr 1 (.t 20) (.t 21), none, [], []⟩,
    ⟨some 23, .load 1 false (.t 22), none, [], []⟩,
    ⟨some 4, .mov (.t 23), none, [], []⟩] false)
  (.gmask [4] [] .ret))
  .skip))
  (.seq (.region [
    ⟨some 4, .mov (.c (.int .i64 (-1))), none, [], []⟩] false)
  (.gmask [4] [] .ret))))
def F37 : IFunc := ⟨2, 24, [.tmp 4], ic37⟩

/-- corpora/corporaref29.token -/
def ic38 : IC :=
  (.seq (.region [
    ⟨some 2, .box 100 7 (.t 0), none, [100], []⟩,
    ⟨some 4, .mov (.c (.bool false)), none, [], []⟩] false)
  (.seq (.region [
    ⟨some 5, .mov (.t 1), none, [], []⟩,
    ⟨some 6, .bin .geq (.t 5) (.c (.int .i64 0)), none, [], []⟩,
    ⟨some 7, .mov (.t 6), none, [], []⟩,
    ⟨some 8, .mov (.t 1), some (7, true), [], []⟩,
    ⟨some 9, .faddr 1 (.t 2), some (7, true), [], []⟩,
    ⟨some 10, .load 1 false (.t 9), some (7, true), [100], []⟩,
    ⟨some 11, .len false (.t 10), some (7, true), [], []⟩,
    ⟨some 12, .bin .lss (.t 8) (.t 11), some (7, true), [], []⟩,
    ⟨some 13, .pick (.t 7) (.t 12) (.c (.bool false)), none, [], []⟩,
    ⟨some 4, .mov (.t 13), none, [], []⟩] false)
  (.gmask [4] [] .ret)))
def F38 : IFunc := ⟨2, 14, [.tmp 4], ic38⟩

/-- corpora/corporaref29.Head -/
def ic39 : IC :=
  (.seq (.region [
    ⟨some 2, .box 100 7 (.t 0), none, [100], []⟩,
    ⟨some 4, .mov (.c (.int .i64 0)), none, [], []⟩,
    ⟨some 5, .mov (.c (.str ⟨#[]⟩)), none, [], []⟩] false)
  (.seq (.seq (.region [
    ⟨some 6, .faddr 5 (.t 2), none, [], []⟩,
    ⟨some 7, .load 1 false (.t 6), none, [100], []⟩,
    ⟨some 8, .len false (.t 7), none, [], []⟩,
    ⟨some 9, .bin .eql (.t 8) (.c (.int .i64 0)), none, [], []⟩] false)
  (.cond (.t 9) (.seq (.region [
    ⟨some 4, .mov (.c (.int .i64 (-1))), none, [], []⟩,
    ⟨some 5, .mov (.c (.str ⟨#[]⟩)), none, [], []⟩] false)
  (.gmask [4, 5] [] .ret))
  .skip))
  (.seq (.region [
    ⟨some 10, .faddr 5 (.t 2), none, [], []⟩,
    ⟨some 11, .load 1 false (.t 10), none, [100], [0]⟩,
    ⟨some 12, .mov (.t 1), none, [], []⟩,
    ⟨some 13, .iaddr 1 (.t 11) (.t 12), none, [], [0, 1, 2]⟩,
    ⟨some 14, .load 1 false (.t 13), none, [], [0, 1, 2, 3]⟩,
    ⟨some 15, .faddr 6 (.t 2), none, [], []⟩,
    ⟨some 16, .load 1 false (.t 15), none, [100], [5]⟩,
    ⟨some 17, .mov (.t 1), none, [], []⟩,
    ⟨some 18, .iaddr 1 (.t 16) (.t 17), none, [], [5, 6, 7]⟩,
    ⟨some 19, .load 1 false (.t 18), none, [], [5, 6, 7, 8]⟩,
    ⟨some 4, .mov (.t 14), none, [], [0, 1, 2, 3, 4]⟩,
    ⟨some 5, .mov (.t 19), none, [], [0, 1, 2, 3, 4, 5, 6, 7, 8, 9, 10]⟩] true)
  (.gmask [4, 5] [] .ret))))
def F39 : IFunc := ⟨2, 20, [.tmp 4, .tmp 5], ic39⟩

/-- slices.Contains[[]int,int] -/
def ic40 : IC :=
  (.seq (.region [
    ⟨some 4, .mov (.c (.bool false)), none, [], []⟩] false)
  (.seq (.region [
    ⟨some 5, .mov (.t 0), none, [], []⟩,
    ⟨some 6, .mov (.t 1), none, [], []⟩,
    ⟨some 7, .call none 54 [.t 5, .t 6], none, [], []⟩,
    ⟨some 8, .bin .geq (.t 7) (.c (.int .i64 0)), none, [], []⟩,
    ⟨some 4, .mov (.t 8), none, [], []⟩] false)
  (.gmask [4] [] .ret)))
def F40 : IFunc := ⟨2, 9, [.tmp 4], ic40⟩

def ic41_0_b : IC :=
  (.seq (.region [
    ⟨some 10, .bin .lss (.t 9) (.t 8), none, [], []⟩] false)
  (.seq (.cond (.t 10) .skip
  (.gmask [] [] (.exit 0)))
  (.seq (.block 1 (.seq (.region [
    ⟨some 11, .iaddr 1 (.t 7) (.t 9), none, [], []⟩,
    ⟨some 12, .load 1 false (.t 11), none, [], []⟩,
    ⟨some 6, .mov (.t 12), none, [], []⟩] false)
  (.seq (.region [
    ⟨some 13, .mov (.t 1), none, [], []⟩,
    ⟨some 14, .mov (.t 6), none, [], []⟩,
    ⟨some 15, .bin .eql (.t 13) (.t 14), none, [], []⟩] false)
  (.cond (.t 15) (.seq (.region [
    ⟨some 4, .mov (.c (.bool true)), none, [], []⟩] false)
  (.gmask [4] [] .ret))
  .skip))))
  (.region [
    ⟨some 16, .bin .add (.t 9) (.c (.int .i64 1)), none, [], []⟩,
    ⟨some 9, .mov (.t 16), none, [], []⟩] false))))
def ic41_0 : IC := .loop [1, 7, 8, 9] [] ic41_0_b
/-- corpora/corporaref29.in -/
def ic41 : IC :=
  (.seq (.region [
    ⟨some 4, .mov (.c (.bool false)), none, [], []⟩] false)
  (.seq (.seq (.region [
    ⟨some 7, .mov (.t 0), none, [], []⟩,
    ⟨some 8, .len false (.t 7), none, [], []⟩,
    ⟨some 9, .mov (.c (.int .i64 0)), none, [], []⟩] false)
  (.block 0 (.gmask [1, 7, 8, 9] [] ic41_0)))
  (.seq (.region [
    ⟨some 4, .mov (.c (.bool false)), none, [], []⟩] false)
  (.gmask [4] [] .ret))))
def F41 : IFunc := ⟨2, 17, [.tmp 4], ic41⟩

/-- corpora/corporamade.Attributes -/
def ic42 : IC :=
  (.seq (.region [
    ⟨some 0, .movp (.c (.nil)), none, [], []⟩] false)
  (.seq (.region [
    ⟨some 1, .build [.str ⟨#[]⟩, .bool false] [(0, 1, .c (.str ⟨#[119, 111, 114, 100]⟩))], none, [], []⟩,
    ⟨some 2, .build [.str ⟨#[]⟩, .bool false] [(0, 1, .c (.str ⟨#[116, 97, 103]⟩))], none, [], []⟩,
    ⟨some 3, .build [.str ⟨#[]⟩, .bool false] [(0, 1, .c (.str ⟨#[102, 101, 97, 116]⟩)), (1, 1, .c (.bool true))], none, [], []⟩,
    ⟨some 4, .buildSl none 2 (.agg [.str ⟨#[]⟩, .bool false]) 3 [(0, .t 1), (1, .t 2), (2, .t 3)], none, [], []⟩,
    ⟨some 0, .mov (.t 4), none, [], []⟩] false)
  (.gmask [0] [] .ret)))
def F42 : IFunc := ⟨0, 5, [.tmp 0], ic42⟩

/-- corpora/corporamade.word -/
def ic43 : IC :=
  (.seq (.region [
    ⟨some 2, .mov (.c (.str ⟨#[]⟩)), none, [], []⟩] false)
  (.seq (.region [
    ⟨some 3, .buildSl none 1 (.str ⟨#[]⟩) 6 [(0, .c (.str ⟨#[97]⟩)), (1, .c (.str ⟨#[98]⟩)), (2, .c (.str ⟨#[99]⟩)), (3, .c (.str ⟨#[65]⟩)), (4, .c (.str ⟨#[97, 98]⟩)), (5, .c (.str ⟨#[]⟩))], none, [], []⟩,
    ⟨some 4, .mov (.t 0), none, [], []⟩,
    ⟨some 5, .iaddr 1 (.t 3) (.t 4), none, [], []⟩,
    ⟨some 6, .load 1 false (.t 5), none, [], []⟩,
    ⟨some 2, .mov (.t 6), none, [], []⟩] false)
  (.gmask [2] [] .ret)))
def F43 : IFunc := ⟨1, 7, [.tmp 2], ic43⟩

/-- corpora/corporamade.tag -/
def ic44 : IC :=
  (.seq (.region [
    ⟨some 2, .mov (.c (.str ⟨#[]⟩)), none, [], []⟩] false)
  (.seq (.region [
    ⟨some 3, .buildSl none 1 (.str ⟨#[]⟩) 2 [(0, .c (.str ⟨#[88]⟩)), (1, .c (.str ⟨#[89]⟩))], none, [], []⟩,
    ⟨some 4, .mov (.t 0), none, [], []⟩,
    ⟨some 5, .iaddr 1 (.t 3) (.t 4), none, [], []⟩,
    ⟨some 6, .load 1 false (.t 5), none, [], []⟩,
    ⟨some 2, .mov (.t 6), none, [], []⟩] false)
  (.gmask [2] [] .ret)))
def F44 : IFunc := ⟨1, 7, [.tmp 2], ic44⟩

/-- corpora/corporamade.features -/
def ic45 : IC :=
  (.seq (.region [
    ⟨some 2, .mov (.c (.str ⟨#[]⟩)), none, [], []⟩] false)
  (.seq (.region [
    ⟨some 3, .buildSl none 1 (.str ⟨#[]⟩) 4 [(0, .c (.str ⟨#[124]⟩)), (1, .c (.str ⟨#[124, 112, 124]⟩)), (2, .c (.str ⟨#[124, 112, 124, 113, 124]⟩)), (3, .c (.str ⟨#[124, 113, 124]⟩))], none, [], []⟩,
    ⟨some 4, .mov (.t 0), none, [], []⟩,
    ⟨some 5, .iaddr 1 (.t 3) (.t 4), none, [], []⟩,
    ⟨some 6, .load 1 false (.t 5), none, [], []⟩,
    ⟨some 2, .mov (.t 6), none, [], []⟩] false)
  (.gmask [2] [] .ret)))
def F45 : IFunc := ⟨1, 7, [.tmp 2], ic45⟩

/-- corpora/corporamade.Type -/
def ic46 : IC :=
  (.seq (.region [
    ⟨some 2, .mov (.c (.str ⟨#[]⟩)), none, [], []⟩] false)
  (.seq (.region [
    ⟨some 3, .buildSl none 1 (.str ⟨#[]⟩) 3 [(0, .c (.str ⟨#[115]⟩)), (1, .c (.str ⟨#[110, 112]⟩)), (2, .c (.str ⟨#[116]⟩))], none, [], []⟩,
    ⟨some 4, .mov (.t 0), none, [], []⟩,
    ⟨some 5, .call none 13 [.t 4, .c (.int .i64 3)], none, [], []⟩,
    ⟨some 6, .iaddr 1 (.t 3) (.t 5), none, [], []⟩,
    ⟨some 7, .load 1 false (.t 6), none, [], []⟩,
    ⟨some 2, .mov (.t 7), none, [], []⟩] false)
  (.gmask [2] [] .ret)))
def F46 : IFunc := ⟨1, 8, [.tmp 2], ic46⟩

def ic47_0_b : IC :=
  (.seq (.seq (.region [
    ⟨some 15, .mov (.t 6), none, [], []⟩,
    ⟨some 16, .bin .gtr (.t 15) (.c (.int .i64 0)), none, [], [0]⟩,
    ⟨some 17, .mov (.t 16), none, [], [0, 1]⟩,
    ⟨some 18, .mov (.t 3), some (17, true), [], [0, 1, 2]⟩,
    ⟨some 19, .mov (.t 6), some (17, true), [], [0, 1, 2]⟩,
    ⟨some 20, .bin .sub (.t 19) (.c (.int .i64 1)), some (17, true), [], [0, 1, 2, 4]⟩,
    ⟨some 21, .iaddr 4 (.t 18) (.t 20), some (17, true), [100], [0, 1, 2, 3, 4, 5]⟩,
    ⟨some 22, .load 4 true (.t 21), some (17, true), [100], [0, 1, 2, 3, 4, 5, 6]⟩,
    ⟨some 23, .load 4 true (.t 5), some (17, true), [101], [0, 1, 2]⟩,
    ⟨some 24, .call none 55 [.t 22, .t 23], some (17, true), [], [0, 1, 2, 3, 4, 5, 6, 7, 8]⟩,
    ⟨some 25, .bin .gtr (.t 24) (.c (.int .i64 0)), some (17, true), [], [0, 1, 2, 3, 4, 5, 6, 7, 8, 9]⟩,
    ⟨some 26, .pick (.t 17) (.t 25) (.c (.bool false)), none, [], [0, 1, 2, 3, 4, 5, 6, 7, 8, 9, 10]⟩] true)
  (.cond (.t 26) .skip
  (.gmask [3, 5, 6, 7, 8, 9] [100, 101] (.exit 2))))
  (.block 3 (.region [
    ⟨some 27, .mov (.t 6), none, [], []⟩,
    ⟨some 28, .bin .sub (.t 27) (.c (.int .i64 1)), none, [], []⟩,
    ⟨some 6, .mov (.t 28), none, [], []⟩] false)))
def ic47_0 : IC := .loop [3, 5, 6, 7, 8, 9] [100, 101] ic47_0_b
def ic47_1_b : IC :=
  (.seq (.region [
    ⟨some 10, .bin .lss (.t 9) (.t 8), none, [], []⟩] false)
  (.seq (.cond (.t 10) .skip
  (.gmask [3] [100] (.exit 0)))
  (.seq (.block 1 (.seq (.region [
    ⟨some 11, .iaddr 4 (.t 7) (.t 9), none, [], []⟩,
    ⟨some 12, .load 4 true (.t 11), none, [], []⟩,
    ⟨some 5, .alloc 101 [.str ⟨#[]⟩, .int .i64 0, .int .i64 0, .nil], none, [101], []⟩,
    ⟨none, .store 4 (.t 5) (.t 12), none, [101], []⟩] false)
  (.seq (.region [
    ⟨some 13, .mov (.t 3), none, [], []⟩,
    ⟨some 14, .len false (.t 13), none, [100], []⟩,
    ⟨some 6, .mov (.t 14), none, [], []⟩] false)
  (.seq (.block 2 (.gmask [3, 5, 6, 7, 8, 9] [100, 101] ic47_0))
  (.seq (.region [
    ⟨some 29, .mov (.t 3), none, [], []⟩,
    ⟨some 30, .build [.str ⟨#[]⟩, .int .i64 0, .int .i64 0, .nil] [], none, [], []⟩,
    ⟨some 31, .buildSl none 4 (.agg [.str ⟨#[]⟩, .int .i64 0, .int .i64 0, .nil]) 1 [(0, .t 30)], none, [], []⟩,
    ⟨some 32, .app none 4 56 (.t 29) (.t 31), none, [100], []⟩,
    ⟨some 3, .mov (.t 32), none, [], []⟩] false)
  (.seq (.region [
    ⟨some 33, .mov (.t 3), none, [], []⟩,
    ⟨some 34, .mov (.t 6), none, [], []⟩,
    ⟨some 35, .bin .add (.t 34) (.c (.int .i64 1)), none, [], [1]⟩,
    ⟨some 36, .slice false 4 (.t 33) (some (.t 35)) none, none, [100], [0, 1, 2]⟩,
    ⟨some 37, .mov (.t 3), none, [], []⟩,
    ⟨some 38, .mov (.t 6), none, [], []⟩,
    ⟨some 39, .slice false 4 (.t 37) (some (.t 38)) none, none, [100], [4, 5]⟩,
    ⟨some 40, .copy 4 (.t 36) (.t 39), none, [100], [0, 1, 2, 3, 4, 5, 6]⟩] true)
  (.region [
    ⟨some 41, .mov (.t 3), none, [], []⟩,
    ⟨some 42, .mov (.t 6), none, [], []⟩,
    ⟨some 43, .load 4 true (.t 5), none, [101], []⟩,
    ⟨some 44, .iaddr 4 (.t 41) (.t 42), none, [100], []⟩,
    ⟨none, .store 4 (.t 44) (.t 43), none, [100], []⟩] false)))))))
  (.region [
    ⟨some 45, .bin .add (.t 9) (.c (.int .i64 1)), none, [], []⟩,
    ⟨some 9, .mov (.t 45), none, [], []⟩] false))))
def ic47_1 : IC := .loop [3, 7, 8, 9] [100] ic47_1_b
/-- corpora/corporaref06.SortRegions -/
def ic47 : IC :=
  (.seq (.region [
    ⟨some 2, .movp (.c (.nil)), none, [], []⟩] false)
  (.seq (.region [
    ⟨some 3, .nilarr 100 4, none, [100], []⟩] false)
  (.seq (.seq (.region [
    ⟨some 7, .mov (.t 0), none, [], []⟩,
    ⟨some 8, .len false (.t 7), none, [], []⟩,
    ⟨some 9, .mov (.c (.int .i64 0)), none, [], []⟩] false)
  (.block 0 (.gmask [3, 7, 8, 9] [100] ic47_1)))
  (.seq (.region [
    ⟨some 46, .mov (.t 3), none, [], []⟩,
    ⟨some 2, .mov (.t 46), none, [], []⟩] false)
  (.gmask [2] [100] .ret)))))
def F47 : IFunc := ⟨1, 47, [.tmp 2], ic47⟩

def ic48_0_b : IC :=
  (.seq (.seq (.region [
    ⟨some 18, .mov (.t 6), none, [], []⟩,
    ⟨some 19, .bin .gtr (.t 18) (.c (.int .i64 0)), none, [], []⟩,
    ⟨some 20, .mov (.t 19), none, [], []⟩,
    ⟨some 21, .mov (.t 5), some (20, true), [], []⟩,
    ⟨some 22, .mov (.t 4), some (20, true), [], []⟩,
    ⟨some 23, .bin .lss (.t 21) (.t 22), some (20, true), [], []⟩,
    ⟨some 24, .pick (.t 20) (.t 23) (.c (.bool false)), none, [], []⟩] false)
  (.cond (.t 24) .skip
  (.gmask [] [0, 1, 100] (.exit 0))))
  (.seq (.block 1 (.seq (.region [
    ⟨some 27, .mov (.t 5), none, [], []⟩,
    ⟨some 28, .mov (.t 0), none, [], []⟩,
    ⟨some 29, .call none 34 [.t 28, .c (.int .i64 2)], none, [0], []⟩,
    ⟨some 30, .bin .add (.t 27) (.t 29), none, [], []⟩,
    ⟨some 7, .mov (.t 30), none, [], []⟩] false)
  (.seq (.seq (.region [
    ⟨some 31, .mov (.t 7), none, [], []⟩,
    ⟨some 32, .mov (.t 4), none, [], []⟩,
    ⟨some 33, .bin .geq (.t 31) (.t 32), none, [], []⟩] false)
  (.cond (.t 33) (.gmask [] [0, 1, 100] (.exit 0))
  .skip))
  (.seq (.region [
    ⟨some 34, .mov (.t 7), none, [], []⟩,
    ⟨some 35, .bin .add (.t 34) (.c (.int .i64 1)), none, [], []⟩,
    ⟨some 36, .mov (.t 0), none, [], []⟩,
    ⟨some 37, .mov (.t 4), none, [], []⟩,
    ⟨some 38, .mov (.t 7), none, [], []⟩,
    ⟨some 39, .bin .sub (.t 37) (.t 38), none, [], []⟩,
    ⟨some 40, .call none 34 [.t 36, .t 39], none, [0], []⟩,
    ⟨some 41, .bin .add (.t 35) (.t 40), none, [], []⟩,
    ⟨some 8, .mov (.t 41), none, [], []⟩] false)
  (.seq (.region [
    ⟨some 42, .mov (.t 1), none, [], []⟩,
    ⟨some 43, .nilChk (.t 42), none, [1], []⟩,
    ⟨some 44, .faddr 4 (.t 43), none, [], []⟩,
    ⟨some 45, .load 1 false (.t 44), none, [1], []⟩,
    ⟨some 46, .len false (.t 45), none, [100], []⟩,
    ⟨some 9, .mov (.t 46), none, [], []⟩] false)
  (.seq (.region [
    ⟨some 47, .mov (.t 1), none, [], []⟩,
    ⟨some 48, .mov (.t 1), none, [], []⟩,
    ⟨some 49, .nilChk (.t 48), none, [1], [1]⟩,
    ⟨some 50, .faddr 4 (.t 49), none, [], [1, 2]⟩,
    ⟨some 51, .load 1 false (.t 50), none, [1], [1, 2, 3]⟩,
    ⟨some 52, .buildSl none 1 (.str ⟨#[]⟩) 2 [(0, .c (.str ⟨#[83]⟩)), (1, .c (.str ⟨#[78, 80]⟩))], none, [], []⟩,
    ⟨some 53, .mov (.t 0), none, [], []⟩,
    ⟨some 54, .call none 34 [.t 53, .c (.int .i64 2)], none, [0], [6]⟩,
    ⟨some 55, .iaddr 1 (.t 52) (.t 54), none, [], [5, 6, 7]⟩,
    ⟨some 56, .load 1 false (.t 55), none, [], [5, 6, 7, 8]⟩,
    ⟨some 57, .mov (.t 7), none, [], []⟩,
    ⟨some 58, .mov (.t 8), none, [], []⟩,
    ⟨some 59, .build [.str ⟨#[]⟩, .int .i64 0, .int .i64 0, .int .i64 0] [(0, 1, .t 56), (1, 1, .t 57), (2, 1, .t 58), (3, 1, .c (.int .i64 (-1)))], none, [], [5, 6, 7, 8, 9, 10, 11]⟩,
    ⟨some 60, .buildSl none 4 (.agg [.str ⟨#[]⟩, .int .i64 0, .int .i64 0, .int .i64 0]) 1 [(0, .t 59)], none, [], [5, 6, 7, 8, 9, 10, 11, 12]⟩,
    ⟨some 61, .app none 4 40 (.t 51) (.t 60), none, [100], [1, 2, 3, 4, 5, 6, 7, 8, 9, 10, 11, 12, 13]⟩,
    ⟨some 62, .nilChk (.t 47), none, [1], [0, 1, 2, 3, 4, 5, 6, 7, 8, 9, 10, 11, 12, 13, 14]⟩,
    ⟨some 63, .faddr 4 (.t 62), none, [], [0, 1, 2, 3, 4, 5, 6, 7, 8, 9, 10, 11, 12, 13, 14, 15]⟩,
    ⟨none, .store 1 (.t 63) (.t 61), none, [1], [0, 1, 2, 3, 4, 5, 6, 7, 8, 9, 10, 11, 12, 13, 14, 15, 16]⟩] true)
  (.seq (.seq (.region [
    ⟨some 64, .mov (.t 0), none, [], []⟩,
    ⟨some 65, .call none 34 [.t 64, .c (.int .i64 2)], none, [0], []⟩,
    ⟨some 66, .bin .eql (.t 65) (.c (.int .i64 1)), none, [], []⟩] false)
  (.gpost [0, 1, 4, 6, 8] [0, 1, 100] (.cond (.t 66) (.seq (.region [
    ⟨some 67, .mov (.t 7), none, [], []⟩,
    ⟨some 68, .mov (.t 0), none, [], []⟩,
    ⟨some 69, .mov (.t 8), none, [], []⟩,
    ⟨some 70, .mov (.t 7), none, [], []⟩,
    ⟨some 71, .bin .sub (.t 69) (.t 70), none, [], []⟩,
    ⟨some 72, .call none 34 [.t 68, .t 71], none, [0], []⟩,
    ⟨some 73, .bin .add (.t 67) (.t 72), none, [], []⟩,
    ⟨some 10, .mov (.t 73), none, [], []⟩] false)
  (.region [
    ⟨some 74, .mov (.t 1), none, [], []⟩,
    ⟨some 75, .mov (.t 1), none, [], []⟩,
    ⟨some 76, .nilChk (.t 75), none, [1], [1]⟩,
    ⟨some 77, .faddr 4 (.t 76), none, [], [1, 2]⟩,
    ⟨some 78, .load 1 false (.t 77), none, [1], [1, 2, 3]⟩,
    ⟨some 79, .buildSl none 1 (.str ⟨#[]⟩) 2 [(0, .c (.str ⟨#[78, 80]⟩)), (1, .c (.str ⟨#[86, 80]⟩))], none, [], []⟩,
    ⟨some 80, .mov (.t 0), none, [], []⟩,
    ⟨some 81, .call none 34 [.t 80, .c (.int .i64 2)], none, [0], [6]⟩,
    ⟨some 82, .iaddr 1 (.t 79) (.t 81), none, [], [5, 6, 7]⟩,
    ⟨some 83, .load 1 false (.t 82), none, [], [5, 6, 7, 8]⟩,
    ⟨some 84, .mov (.t 10), none, [], []⟩,
    ⟨some 85, .mov (.t 10), none, [], []⟩,
    ⟨some 86, .bin .add (.t 85) (.c (.int .i64 1)), none, [], [11]⟩,
    ⟨some 87, .mov (.t 0), none, [], []⟩,
    ⟨some 88, .mov (.t 8), none, [], []⟩,
    ⟨some 89, .mov (.t 10), none, [], []⟩,
    ⟨some 90, .bin .sub (.t 88) (.t 89), none, [], [14, 15]⟩,
    ⟨some 91, .call none 34 [.t 87, .t 90], none, [0], [6, 7, 13, 14, 15, 16]⟩,
    ⟨some 92, .bin .add (.t 86) (.t 91), none, [], [6, 7, 11, 12, 13, 14, 15, 16, 17]⟩,
    ⟨some 93, .mov (.t 9), none, [], []⟩,
    ⟨some 94, .build [.str ⟨#[]⟩, .int .i64 0, .int .i64 0, .int .i64 0] [(0, 1, .t 83), (1, 1, .t 84), (2, 1, .t 92), (3, 1, .t 93)], none, [], [5, 6, 7, 8, 9, 10, 11, 12, 13, 14, 15, 16, 17, 18, 19]⟩,
    ⟨some 95, .buildSl none 4 (.agg [.str ⟨#[]⟩, .int .i64 0, .int .i64 0, .int .i64 0]) 1 [(0, .t 94)], none, [], [5, 6, 7, 8, 9, 10, 11, 12, 13, 14, 15, 16, 17, 18, 19, 20]⟩,
    ⟨some 96, .app none 4 40 (.t 78) (.t 95), none, [100], [1, 2, 3, 4, 5, 6, 7, 8, 9, 10, 11, 12, 13, 14, 15, 16, 17, 18, 19, 20, 21]⟩,
    ⟨some 97, .nilChk (.t 74), none, [1], [0, 1, 2, 3, 4, 5, 6, 7, 8, 9, 10, 11, 12, 13, 14, 15, 16, 17, 18, 19, 20, 21, 22]⟩,
    ⟨some 98, .faddr 4 (.t 97), none, [], [0, 1, 2, 3, 4, 5, 6, 7, 8, 9, 10, 11, 12, 13, 14, 15, 16, 17, 18, 19, 20, 21, 22, 23]⟩,
    ⟨none, .store 1 (.t 98) (.t 96), none, [1], [0, 1, 2, 3, 4, 5, 6, 7, 8, 9, 10, 11, 12, 13, 14, 15, 16, 17, 18, 19, 20, 21, 22, 23, 24]⟩] true))
  .skip)))
  (.region [
    ⟨some 99, .mov (.t 8), none, [], []⟩,
    ⟨some 5, .mov (.t 99), none, [], []⟩] false))))))))
  (.region [
    ⟨some 25, .mov (.t 6), none, [], []⟩,
    ⟨some 26, .bin .sub (.t 25) (.c (.int .i64 1)), none, [], []⟩,
    ⟨some 6, .mov (.t 26), none, [], []⟩] false)))
def ic48_0 : IC := .loop [0, 1, 4, 5, 6] [0, 1, 100] ic48_0_b
/-- (*corpora/corporamade.Tape).nodes -/
def ic48 : IC :=
  (.seq (.gadopt 1 4 100 4 (.region [
    ⟨some 11, .mov (.t 1), none, [], []⟩,
    ⟨some 12, .nilChk (.t 11), none, [1], []⟩,
    ⟨some 13, .faddr 1 (.t 12), none, [], []⟩,
    ⟨some 14, .load 1 false (.t 13), none, [1], []⟩,
    ⟨some 15, .len false (.t 14), none, [], []⟩,
    ⟨some 4, .mov (.t 15), none, [], []⟩] false))
  (.seq (.region [
    ⟨some 5, .mov (.c (.int .i64 0)), none, [], []⟩] false)
  (.seq (.region [
    ⟨some 16, .mov (.t 0), none, [], []⟩,
    ⟨some 17, .call none 34 [.t 16, .c (.int .i64 4)], none, [0], []⟩,
    ⟨some 6, .mov (.t 17), none, [], []⟩] false)
  (.block 0 (.gmask [0, 1, 4, 5, 6] [0, 1, 100] ic48_0)))))
def F48 : IFunc := ⟨2, 100, [], ic48⟩

def ic49_0_b : IC :=
  (.seq (.seq (.region [
    ⟨some 18, .mov (.t 6), none, [], []⟩,
    ⟨some 19, .mov (.t 4), none, [], []⟩,
    ⟨some 20, .bin .lss (.t 18) (.t 19), none, [], []⟩] false)
  (.cond (.t 20) .skip
  (.gmask [0, 1, 4, 5] [0, 1, 100, 101] (.exit 0))))
  (.seq (.block 1 (.seq (.region [
    ⟨some 23, .mov (.t 0), none, [], []⟩,
    ⟨some 24, .mov (.t 6), none, [], []⟩,
    ⟨some 25, .bin .add (.t 24) (.c (.int .i64 1)), none, [], []⟩,
    ⟨some 26, .call none 34 [.t 23, .t 25], none, [0], []⟩,
    ⟨some 7, .mov (.t 26), none, [], []⟩] false)
  (.region [
    ⟨some 27, .buildSl (some 102) 1 (.int .i64 0) 0 [], none, [102], []⟩,
    ⟨some 28, .mov (.t 5), none, [], []⟩,
    ⟨some 29, .mov (.t 7), none, [], []⟩,
    ⟨some 30, .slice false 1 (.t 28) none (some (.t 29)), none, [], [1, 2]⟩,
    ⟨some 31, .app none 1 8 (.t 27) (.t 30), none, [102], [0, 1, 2, 3]⟩,
    ⟨some 32, .mov (.t 6), none, [], []⟩,
    ⟨some 33, .buildSl none 1 (.int .i64 0) 1 [(0, .t 32)], none, [], [5]⟩,
    ⟨some 34, .app none 1 8 (.t 31) (.t 33), none, [102], [0, 1, 2, 3, 4, 5, 6]⟩,
    ⟨some 35, .mov (.t 5), none, [], []⟩,
    ⟨some 36, .mov (.t 7), none, [], []⟩,
    ⟨some 37, .slice false 1 (.t 35) (some (.t 36)) none, none, [], [8, 9]⟩,
    ⟨some 38, .app none 1 8 (.t 34) (.t 37), none, [102], [0, 1, 2, 3, 4, 5, 6, 7, 8, 9, 10]⟩,
    ⟨some 5, .movp (.t 38), none, [102], [0, 1, 2, 3, 4, 5, 6, 7, 8, 9, 10, 11]⟩] true)))
  (.region [
    ⟨some 21, .mov (.t 6), none, [], []⟩,
    ⟨some 22, .bin .add (.t 21) (.c (.int .i64 1)), none, [], []⟩,
    ⟨some 6, .mov (.t 22), none, [], []⟩] false)))
def ic49_0 : IC := .loop [0, 1, 4, 5, 6] [0, 1, 100, 101] ic49_0_b
def ic49_1_b : IC :=
  (.seq (.region [
    ⟨some 46, .bin .lss (.t 45) (.t 44), none, [], []⟩] false)
  (.seq (.cond (.t 46) .skip
  (.gmask [1, 8, 9, 10] [0, 1, 100, 101] (.exit 2)))
  (.seq (.block 3 (.seq (.region [
    ⟨some 47, .mov (.t 45), none, [], []⟩,
    ⟨some 48, .iaddr 1 (.t 43) (.t 45), none, [], []⟩,
    ⟨some 49, .load 1 false (.t 48), none, [], []⟩,
    ⟨some 11, .mov (.t 47), none, [], []⟩,
    ⟨some 12, .mov (.t 49), none, [], []⟩] false)
  (.seq (.region [
    ⟨some 50, .mov (.t 8), none, [], []⟩,
    ⟨some 51, .mov (.t 12), none, [], []⟩,
    ⟨some 52, .iaddr 1 (.t 50) (.t 51), none, [100], []⟩,
    ⟨none, .store 1 (.t 52) (.c (.int .i64 (-1))), none, [100], []⟩] false)
  (.seq (.seq (.region [
    ⟨some 53, .mov (.t 11), none, [], []⟩,
    ⟨some 54, .bin .gtr (.t 53) (.c (.int .i64 0)), none, [], []⟩,
    ⟨some 55, .mov (.t 54), none, [], []⟩,
    ⟨some 56, .mov (.t 0), some (55, true), [], []⟩,
    ⟨some 57, .call none 34 [.t 56, .c (.int .i64 4)], some (55, true), [0], []⟩,
    ⟨some 58, .bin .gtr (.t 57) (.c (.int .i64 0)), some (55, true), [], []⟩,
    ⟨some 59, .pick (.t 55) (.t 58) (.c (.bool false)), none, [], []⟩] false)
  (.gpost [0, 1, 5, 8, 9, 10, 12, 43, 44, 45] [0, 1, 100, 101] (.cond (.t 59) (.region [
    ⟨some 60, .mov (.t 8), none, [], []⟩,
    ⟨some 61, .mov (.t 12), none, [], []⟩,
    ⟨some 62, .mov (.t 9), none, [], []⟩,
    ⟨some 63, .mov (.t 12), none, [], []⟩,
    ⟨some 64, .mov (.t 5), none, [], []⟩,
    ⟨some 65, .mov (.t 0), none, [], []⟩,
    ⟨some 66, .mov (.t 11), none, [], []⟩,
    ⟨some 67, .call none 34 [.t 65, .t 66], none, [0], [5, 6]⟩,
    ⟨some 68, .iaddr 1 (.t 64) (.t 67), none, [], [4, 5, 6, 7]⟩,
    ⟨some 69, .load 1 false (.t 68), none, [], [4, 5, 6, 7, 8]⟩,
    ⟨some 70, .buildSl none 1 (.str ⟨#[]⟩) 3 [(0, .c (.str ⟨#[111, 98, 106]⟩)), (1, .c (.str ⟨#[100, 101, 116]⟩)), (2, .c (.str ⟨#[]⟩))], none, [], []⟩,
    ⟨some 71, .mov (.t 0), none, [], []⟩,
    ⟨some 72, .call none 34 [.t 71, .c (.int .i64 3)], none, [0], [5, 6, 7, 11]⟩,
    ⟨some 73, .iaddr 1 (.t 70) (.t 72), none, [], [5, 6, 7, 10, 11, 12]⟩,
    ⟨some 74, .load 1 false (.t 73), none, [], [5, 6, 7, 10, 11, 12, 13]⟩,
    ⟨some 75, .iaddr 1 (.t 60) (.t 61), none, [100], [0, 1, 4, 5, 6, 7, 8, 9, 10, 11, 12, 13, 14]⟩,
    ⟨none, .store 1 (.t 75) (.t 69), none, [100], [0, 1, 4, 5, 6, 7, 8, 9, 10, 11, 12, 13, 14, 15]⟩,
    ⟨some 76, .iaddr 1 (.t 62) (.t 63), none, [101], [0, 1, 2, 3, 4, 5, 6, 7, 8, 9, 10, 11, 12, 13, 14, 15, 16]⟩,
    ⟨none, .store 1 (.t 76) (.t 74), none, [101], [0, 1, 2, 3, 4, 5, 6, 7, 8, 9, 10, 11, 12, 13, 14, 15, 16, 17]⟩] true)
  .skip)))
  (.region [
    ⟨some 77, .mov (.t 10), none, [], []⟩,
    ⟨some 78, .mov (.t 77), none, [], []⟩,
    ⟨some 79, .mov (.t 8), some (78, false), [], []⟩,
    ⟨some 80, .mov (.t 12), some (78, false), [], []⟩,
    ⟨some 81, .iaddr 1 (.t 79) (.t 80), some (78, false), [100], []⟩,
    ⟨some 82, .load 1 false (.t 81), some (78, false), [100], []⟩,
    ⟨some 83, .bin .neq (.t 82) (.c (.int .i64 (-1))), some (78, false), [], []⟩,
    ⟨some 84, .pick (.t 78) (.c (.bool true)) (.t 83), none, [], []⟩,
    ⟨some 85, .mov (.t 84), none, [], []⟩,
    ⟨some 86, .mov (.t 9), some (85, false), [], []⟩,
    ⟨some 87, .mov (.t 12), some (85, false), [], []⟩,
    ⟨some 88, .iaddr 1 (.t 86) (.t 87), some (85, false), [101], []⟩,
    ⟨some 89, .load 1 false (.t 88), some (85, false), [101], []⟩,
    ⟨some 90, .bin .neq (.t 89) (.c (.str ⟨#[]⟩)), some (85, false), [], []⟩,
    ⟨some 91, .pick (.t 85) (.c (.bool true)) (.t 90), none, [], []⟩,
    ⟨some 10, .mov (.t 91), none, [], []⟩] false)))))
  (.region [
    ⟨some 92, .bin .add (.t 45) (.c (.int .i64 1)), none, [], []⟩,
    ⟨some 45, .mov (.t 92), none, [], []⟩] false))))
def ic49_1 : IC := .loop [0, 1, 5, 8, 9, 10, 43, 44, 45] [0, 1, 100, 101] ic49_1_b
/-- (*corpora/corporamade.Tape).heads -/
def ic49 : IC :=
  (.seq (.region [
    ⟨some 13, .mov (.t 1), none, [], []⟩,
    ⟨some 14, .nilChk (.t 13), none, [1], []⟩,
    ⟨some 15, .faddr 1 (.t 14), none, [], []⟩,
    ⟨some 16, .load 1 false (.t 15), none, [1], []⟩,
    ⟨some 17, .len false (.t 16), none, [], []⟩,
    ⟨some 4, .mov (.t 17), none, [], []⟩] false)
  (.seq (.region [
    ⟨some 5, .movp (.c (.nil)), none, [], []⟩] false)
  (.seq (.seq (.region [
    ⟨some 6, .mov (.c (.int .i64 0)), none, [], []⟩] false)
  (.block 0 (.gmask [0, 1, 4, 5, 6] [0, 1, 100, 101] ic49_0)))
  (.seq (.region [
    ⟨some 39, .mov (.t 4), none, [], []⟩,
    ⟨some 40, .makeSl 100 1 8 (.int .i64 0) (.t 39) (.t 39), none, [100], [0]⟩,
    ⟨some 41, .mov (.t 4), none, [], []⟩,
    ⟨some 42, .makeSl 101 1 16 (.str ⟨#[]⟩) (.t 41) (.t 41), none, [101], [2]⟩,
    ⟨some 8, .mov (.t 40), none, [], [0, 1]⟩,
    ⟨some 9, .mov (.t 42), none, [], [0, 1, 2, 3, 4]⟩] true)
  (.seq (.region [
    ⟨some 10, .mov (.c (.bool false)), none, [], []⟩] false)
  (.seq (.seq (.region [
    ⟨some 43, .mov (.t 5), none, [], []⟩,
    ⟨some 44, .len false (.t 43), none, [], []⟩,
    ⟨some 45, .mov (.c (.int .i64 0)), none, [], []⟩] false)
  (.block 2 (.gmask [0, 1, 5, 8, 9, 10, 43, 44, 45] [0, 1, 100, 101] ic49_1)))
  (.seq (.region [
    ⟨some 93, .mov (.t 10), none, [], []⟩] false)
  (.gpost [] [0, 1, 100, 101] (.cond (.t 93) (.region [
    ⟨some 94, .mov (.t 1), none, [], []⟩,
    ⟨some 95, .mov (.t 1), none, [], []⟩,
    ⟨some 96, .mov (.t 8), none, [], []⟩,
    ⟨some 97, .mov (.t 9), none, [], []⟩,
    ⟨some 98, .nilChk (.t 94), none, [1], []⟩,
    ⟨some 99, .faddr 5 (.t 98), none, [], []⟩,
    ⟨none, .store 1 (.t 99) (.t 96), none, [1], []⟩,
    ⟨some 100, .nilChk (.t 95), none, [1], []⟩,
    ⟨some 101, .faddr 6 (.t 100), none, [], []⟩,
    ⟨none, .store 1 (.t 101) (.t 97), none, [1], []⟩] false)
  .skip)))))))))
def F49 : IFunc := ⟨2, 102, [], ic49⟩

/-- corpora/corporaref06.Valid -/
def ic50 : IC :=
  (.seq (.region [
    ⟨some 1, .box 100 7 (.t 0), none, [100], []⟩,
    ⟨some 2, .mov (.c (.bool false)), none, [], []⟩] false)
  (.seq (.region [
    ⟨some 7, .load 7 true (.t 1), none, [100], []⟩,
    ⟨some 8, .call none 56 [.t 7], none, [], []⟩,
    ⟨some 6, .mov (.t 8), none, [], []⟩,
    ⟨some 9, .extract (.t 6) 0, none, [], []⟩,
    ⟨some 10, .extract (.t 6) 1, none, [], []⟩,
    ⟨some 11, .extract (.t 6) 2, none, [], []⟩,
    ⟨some 3, .mov (.t 9), none, [], []⟩,
    ⟨some 4, .mov (.t 10), none, [], []⟩,
    ⟨some 5, .mov (.t 11), none, [], []⟩] false)
  (.seq (.region [
    ⟨some 12, .mov (.t 5), none, [], []⟩,
    ⟨some 13, .bin .eql (.t 12) (.c (.int .i64 0)), none, [], []⟩,
    ⟨some 2, .mov (.t 13), none, [], []⟩] false)
  (.gmask [2] [] .ret))))
def F50 : IFunc := ⟨1, 14, [.tmp 2], ic50⟩

def ic51_0_b : IC :=
  (.seq (.region [
    ⟨some 14, .bin .lss (.t 13) (.t 12), none, [], []⟩] false)
  (.seq (.cond (.t 14) .skip
  (.gmask [] [] (.exit 0)))
  (.seq (.block 1 (.seq (.region [
    ⟨some 15, .mov (.t 13), none, [], []⟩,
    ⟨some 5, .mov (.t 15), none, [], []⟩] false)
  (.seq (.region [
    ⟨some 16, .mov (.t 0), none, [], []⟩,
    ⟨some 17, .mov (.t 5), none, [], []⟩,
    ⟨some 18, .iaddr 2 (.t 16) (.t 17), none, [], [0, 1]⟩,
    ⟨some 19, .load 2 true (.t 18), none, [], [0, 1, 2]⟩,
    ⟨some 20, .mov (.t 1), none, [], []⟩,
    ⟨some 21, .mov (.t 5), none, [], []⟩,
    ⟨some 22, .iaddr 2 (.t 20) (.t 21), none, [], [4, 5]⟩,
    ⟨some 23, .load 2 true (.t 22), none, [], [4, 5, 6]⟩,
    ⟨some 24, .eqAgg true [.str, .bool] (.t 19) (.t 23), none, [], [0, 1, 2, 3, 4, 5, 6, 7]⟩] true)
  (.cond (.t 24) (.seq (.region [
    ⟨some 4, .mov (.c (.bool false)), none, [], []⟩] false)
  (.gmask [4] [] .ret))
  .skip))))
  (.region [
    ⟨some 25, .bin .add (.t 13) (.c (.int .i64 1)), none, [], []⟩,
    ⟨some 13, .mov (.t 25), none, [], []⟩] false))))
def ic51_0 : IC := .loop [0, 1, 12, 13] [] ic51_0_b
/-- corpora/corporaref06.sameAttributes -/
def ic51 : IC :=
  (.seq (.region [
    ⟨some 4, .mov (.c (.bool false)), none, [], []⟩] false)
  (.seq (.seq (.region [
    ⟨some 6, .mov (.t 0), none, [], []⟩,
    ⟨some 7, .len false (.t 6), none, [], []⟩,
    ⟨some 8, .mov (.t 1), none, [], []⟩,
    ⟨some 9, .len false (.t 8), none, [], []⟩,
    ⟨some 10, .bin .neq (.t 7) (.t 9), none, [], []⟩] false)
  (.cond (.t 10) (.seq (.region [
    ⟨some 4, .mov (.c (.bool false)), none, [], []⟩] false)
  (.gmask [4] [] .ret))
  .skip))
  (.seq (.seq (.region [
    ⟨some 11, .mov (.t 0), none, [], []⟩,
    ⟨some 12, .len false (.t 11), none, [], []⟩,
    ⟨some 13, .mov (.c (.int .i64 0)), none, [], []⟩] false)
  (.block 0 (.gmask [0, 1, 12, 13] [] ic51_0)))
  (.seq (.region [
    ⟨some 4, .mov (.c (.bool true)), none, [], []⟩] false)
  (.gmask [4] [] .ret)))))
def F51 : IFunc := ⟨2, 26, [.tmp 4], ic51⟩

def ic52_0_b : IC :=
  (.seq (.region [
    ⟨some 11, .bin .lss (.t 10) (.t 9), none, [], []⟩] false)
  (.seq (.cond (.t 11) .skip
  (.gmask [] [] (.exit 0)))
  (.seq (.block 1 (.seq (.region [
    ⟨some 12, .mov (.t 10), none, [], []⟩,
    ⟨some 13, .iaddr 4 (.t 8) (.t 10), none, [], []⟩,
    ⟨some 14, .load 4 true (.t 13), none, [], []⟩,
    ⟨some 6, .alloc 101 [.str ⟨#[]⟩, .int .i64 0, .int .i64 0, .nil], none, [101], []⟩,
    ⟨some 5, .mov (.t 12), none, [], []⟩,
    ⟨none, .store 4 (.t 6) (.t 14), none, [101], []⟩] false)
  (.seq (.region [
    ⟨some 15, .faddr 0 (.t 6), none, [], []⟩,
    ⟨some 16, .load 1 false (.t 15), none, [101], []⟩,
    ⟨some 17, .mov (.t 1), none, [], []⟩,
    ⟨some 18, .bin .eql (.t 16) (.t 17), none, [], []⟩] false)
  (.cond (.t 18) (.seq (.region [
    ⟨some 19, .mov (.t 5), none, [], []⟩,
    ⟨some 4, .mov (.t 19), none, [], []⟩] false)
  (.gmask [4] [] .ret))
  .skip))))
  (.region [
    ⟨some 20, .bin .add (.t 10) (.c (.int .i64 1)), none, [], []⟩,
    ⟨some 10, .mov (.t 20), none, [], []⟩] false))))
def ic52_0 : IC := .loop [1, 8, 9, 10] [] ic52_0_b
/-- corpora/corporaref06.FindText -/
def ic52 : IC :=
  (.seq (.region [
    ⟨some 2, .box 100 7 (.t 0), none, [100], []⟩,
    ⟨some 4, .mov (.c (.int .i64 0)), none, [], []⟩] false)
  (.seq (.seq (.region [
    ⟨some 7, .faddr 2 (.t 2), none, [], []⟩,
    ⟨some 8, .load 1 false (.t 7), none, [100], []⟩,
    ⟨some 9, .len false (.t 8), none, [], []⟩,
    ⟨some 10, .mov (.c (.int .i64 0)), none, [], []⟩] false)
  (.block 0 (.gmask [1, 8, 9, 10] [] ic52_0)))
  (.seq (.region [
    ⟨some 4, .mov (.c (.int .i64 (-1))), none, [], []⟩] false)
  (.gmask [4] [] .ret))))
def F52 : IFunc := ⟨2, 21, [.tmp 4], ic52⟩

def ic53_0_b : IC :=
  (.seq (.region [
    ⟨some 21, .bin .lss (.t 20) (.t 19), none, [], []⟩] false)
  (.seq (.cond (.t 21) .skip
  (.gmask [1, 4] [100, 103] (.exit 0)))
  (.seq (.block 1 (.seq (.region [
    ⟨some 22, .mov (.t 20), none, [], []⟩,
    ⟨some 5, .mov (.t 22), none, [], []⟩] false)
  (.region [
    ⟨some 23, .mov (.t 4), none, [], []⟩,
    ⟨some 24, .mov (.t 5), none, [], []⟩,
    ⟨some 25, .iaddr 1 (.t 23) (.t 24), none, [100], []⟩,
    ⟨none, .store 1 (.t 25) (.c (.int .i64 (-1))), none, [100], []⟩] false)))
  (.region [
    ⟨some 26, .bin .add (.t 20) (.c (.int .i64 1)), none, [], []⟩,
    ⟨some 20, .mov (.t 26), none, [], []⟩] false))))
def ic53_0 : IC := .loop [1, 4, 19, 20] [100, 103] ic53_0_b
/-- corpora/corporaref06.allHeads -/
def ic53 : IC :=
  (.seq (.region [
    ⟨some 1, .box 103 7 (.t 0), none, [103], []⟩,
    ⟨some 2, .movp (.c (.nil)), none, [], []⟩,
    ⟨some 3, .movp (.c (.nil)), none, [], []⟩] false)
  (.seq (.seq (.region [
    ⟨some 6, .faddr 5 (.t 1), none, [], []⟩,
    ⟨some 7, .load 1 false (.t 6), none, [103], []⟩,
    ⟨some 8, .len false (.t 7), none, [], []⟩,
    ⟨some 9, .bin .gtr (.t 8) (.c (.int .i64 0)), none, [], []⟩] false)
  (.cond (.t 9) (.seq (.region [
    ⟨some 10, .faddr 5 (.t 1), none, [], []⟩,
    ⟨some 11, .load 1 false (.t 10), none, [103], [0]⟩,
    ⟨some 12, .faddr 6 (.t 1), none, [], []⟩,
    ⟨some 13, .load 1 false (.t 12), none, [103], [2]⟩,
    ⟨some 2, .mov (.t 11), none, [], [0, 1]⟩,
    ⟨some 3, .mov (.t 13), none, [], [0, 1, 2, 3, 4]⟩] true)
  (.gmask [2, 3] [100, 102] .ret))
  .skip))
  (.seq (.region [
    ⟨some 14, .faddr 1 (.t 1), none, [], []⟩,
    ⟨some 15, .load 1 false (.t 14), none, [103], []⟩,
    ⟨some 16, .len false (.t 15), none, [], []⟩,
    ⟨some 17, .makeSl 100 1 8 (.int .i64 0) (.t 16) (.t 16), none, [100], []⟩,
    ⟨some 4, .mov (.t 17), none, [], []⟩] false)
  (.seq (.seq (.region [
    ⟨some 18, .mov (.t 4), none, [], []⟩,
    ⟨some 19, .len false (.t 18), none, [100], []⟩,
    ⟨some 20, .mov (.c (.int .i64 0)), none, [], []⟩] false)
  (.block 0 (.gmask [1, 4, 19, 20] [100, 103] ic53_0)))
  (.seq (.region [
    ⟨some 27, .mov (.t 4), none, [], []⟩,
    ⟨some 28, .faddr 1 (.t 1), none, [], []⟩,
    ⟨some 29, .load 1 false (.t 28), none, [103], [1]⟩,
    ⟨some 30, .len false (.t 29), none, [], [1, 2]⟩,
    ⟨some 31, .makeSl 102 1 16 (.str ⟨#[]⟩) (.t 30) (.t 30), none, [102], [1, 2, 3]⟩,
    ⟨some 2, .mov (.t 27), none, [], [0]⟩,
    ⟨some 3, .mov (.t 31), none, [], [0, 1, 2, 3, 4, 5]⟩] true)
  (.gmask [2, 3] [100, 102] .ret))))))
def F53 : IFunc := ⟨1, 32, [.tmp 2, .tmp 3], ic53⟩

def ic54_0_b : IC :=
  (.seq (.region [
    ⟨some 9, .bin .lss (.t 8) (.t 7), none, [], []⟩] false)
  (.seq (.cond (.t 9) .skip
  (.gmask [] [] (.exit 0)))
  (.seq (.block 1 (.seq (.region [
    ⟨some 10, .mov (.t 8), none, [], []⟩,
    ⟨some 5, .mov (.t 10), none, [], []⟩] false)
  (.seq (.region [
    ⟨some 11, .mov (.t 1), none, [], []⟩,
    ⟨some 12, .mov (.t 0), none, [], []⟩,
    ⟨some 13, .mov (.t 5), none, [], []⟩,
    ⟨some 14, .iaddr 1 (.t 12) (.t 13), none, [], []⟩,
    ⟨some 15, .load 1 false (.t 14), none, [], []⟩,
    ⟨some 16, .bin .eql (.t 11) (.t 15), none, [], []⟩] false)
  (.cond (.t 16) (.seq (.region [
    ⟨some 17, .mov (.t 5), none, [], []⟩,
    ⟨some 4, .mov (.t 17), none, [], []⟩] false)
  (.gmask [4] [] .ret))
  .skip))))
  (.region [
    ⟨some 18, .bin .add (.t 8) (.c (.int .i64 1)), none, [], []⟩,
    ⟨some 8, .mov (.t 18), none, [], []⟩] false))))
def ic54_0 : IC := .loop [0, 1, 7, 8] [] ic54_0_b
/-- slices.Index[[]int,int] -/
def ic54 : IC :=
  (.seq (.region [
    ⟨some 4, .mov (.c (.int .i64 0)), none, [], []⟩] false)
  (.seq (.seq (.region [
    ⟨some 6, .mov (.t 0), none, [], []⟩,
    ⟨some 7, .len false (.t 6), none, [], []⟩,
    ⟨some 8, .mov (.c (.int .i64 0)), none, [], []⟩] false)
  (.block 0 (.gmask [0, 1, 7, 8] [] ic54_0)))
  (.seq (.region [
    ⟨some 4, .mov (.c (.int .i64 (-1))), none, [], []⟩] false)
  (.gmask [4] [] .ret))))
def F54 : IFunc := ⟨2, 19, [.tmp 4], ic54⟩

def ic55_0_b : IC :=
  (.seq (.seq (.region [
    ⟨some 41, .mov (.t 5), none, [], []⟩,
    ⟨some 42, .faddr 3 (.t 2), none, [], []⟩,
    ⟨some 43, .load 1 false (.t 42), none, [100], []⟩,
    ⟨some 44, .len false (.t 43), none, [], []⟩,
    ⟨some 45, .bin .lss (.t 41) (.t 44), none, [], []⟩,
    ⟨some 46, .mov (.t 45), none, [], []⟩,
    ⟨some 47, .mov (.t 5), some (46, true), [], []⟩,
    ⟨some 48, .faddr 3 (.t 3), some (46, true), [], []⟩,
    ⟨some 49, .load 1 false (.t 48), some (46, true), [101], []⟩,
    ⟨some 50, .len false (.t 49), some (46, true), [], []⟩,
    ⟨some 51, .bin .lss (.t 47) (.t 50), some (46, true), [], []⟩,
    ⟨some 52, .pick (.t 46) (.t 51) (.c (.bool false)), none, [], []⟩] false)
  (.cond (.t 52) .skip
  (.gmask [2, 3] [100, 101] (.exit 1))))
  (.seq (.block 2 (.seq (.seq (.region [
    ⟨some 55, .faddr 3 (.t 2), none, [], []⟩,
    ⟨some 56, .load 1 false (.t 55), none, [100], [0]⟩,
    ⟨some 57, .mov (.t 5), none, [], []⟩,
    ⟨some 58, .iaddr 2 (.t 56) (.t 57), none, [], [0, 1, 2]⟩,
    ⟨some 59, .faddr 0 (.t 58), none, [], [0, 1, 2, 3]⟩,
    ⟨some 60, .load 1 false (.t 59), none, [], [0, 1, 2, 3, 4]⟩,
    ⟨some 61, .faddr 3 (.t 3), none, [], []⟩,
    ⟨some 62, .load 1 false (.t 61), none, [101], [6]⟩,
    ⟨some 63, .mov (.t 5), none, [], []⟩,
    ⟨some 64, .iaddr 2 (.t 62) (.t 63), none, [], [6, 7, 8]⟩,
    ⟨some 65, .faddr 0 (.t 64), none, [], [6, 7, 8, 9]⟩,
    ⟨some 66, .load 1 false (.t 65), none, [], [6, 7, 8, 9, 10]⟩,
    ⟨some 67, .bin .neq (.t 60) (.t 66), none, [], [0, 1, 2, 3, 4, 5, 6, 7, 8, 9, 10, 11]⟩] true)
  (.cond (.t 67) (.seq (.region [
    ⟨some 68, .faddr 3 (.t 2), none, [], []⟩,
    ⟨some 69, .load 1 false (.t 68), none, [100], [0]⟩,
    ⟨some 70, .mov (.t 5), none, [], []⟩,
    ⟨some 71, .iaddr 2 (.t 69) (.t 70), none, [], [0, 1, 2]⟩,
    ⟨some 72, .faddr 0 (.t 71), none, [], [0, 1, 2, 3]⟩,
    ⟨some 73, .load 1 false (.t 72), none, [], [0, 1, 2, 3, 4]⟩,
    ⟨some 74, .faddr 3 (.t 3), none, [], []⟩,
    ⟨some 75, .load 1 false (.t 74), none, [101], [6]⟩,
    ⟨some 76, .mov (.t 5), none, [], []⟩,
    ⟨some 77, .iaddr 2 (.t 75) (.t 76), none, [], [6, 7, 8]⟩,
    ⟨some 78, .faddr 0 (.t 77), none, [], [6, 7, 8, 9]⟩,
    ⟨some 79, .load 1 false (.t 78), none, [], [6, 7, 8, 9, 10]⟩,
    ⟨some 80, .call none 58 [.t 73, .t 79], none, [], [0, 1, 2, 3, 4, 5, 6, 7, 8, 9, 10, 11]⟩,
    ⟨some 4, .mov (.t 80), none, [], [0, 1, 2, 3, 4, 5, 6, 7, 8, 9, 10, 11, 12]⟩] true)
  (.gmask [4] [] .ret))
  .skip))
  (.seq (.region [
    ⟨some 81, .faddr 3 (.t 2), none, [], []⟩,
    ⟨some 82, .load 1 false (.t 81), none, [100], [0]⟩,
    ⟨some 83, .mov (.t 5), none, [], []⟩,
    ⟨some 84, .iaddr 2 (.t 82) (.t 83), none, [], [0, 1, 2]⟩,
    ⟨some 85, .faddr 1 (.t 84), none, [], [0, 1, 2, 3]⟩,
    ⟨some 86, .load 1 false (.t 85), none, [], [0, 1, 2, 3, 4]⟩,
    ⟨some 87, .faddr 3 (.t 3), none, [], []⟩,
    ⟨some 88, .load 1 false (.t 87), none, [101], [6]⟩,
    ⟨some 89, .mov (.t 5), none, [], []⟩,
    ⟨some 90, .iaddr 2 (.t 88) (.t 89), none, [], [6, 7, 8]⟩,
    ⟨some 91, .faddr 1 (.t 90), none, [], [6, 7, 8, 9]⟩,
    ⟨some 92, .load 1 false (.t 91), none, [], [6, 7, 8, 9, 10]⟩,
    ⟨some 93, .bin .neq (.t 86) (.t 92), none, [], [0, 1, 2, 3, 4, 5, 6, 7, 8, 9, 10, 11]⟩] true)
  (.cond (.t 93) (.seq (.region [
    ⟨some 94, .faddr 3 (.t 2), none, [], []⟩,
    ⟨some 95, .load 1 false (.t 94), none, [100], [0]⟩,
    ⟨some 96, .mov (.t 5), none, [], []⟩,
    ⟨some 97, .iaddr 2 (.t 95) (.t 96), none, [], [0, 1, 2]⟩,
    ⟨some 98, .faddr 1 (.t 97), none, [], [0, 1, 2, 3]⟩,
    ⟨some 99, .load 1 false (.t 98), none, [], [0, 1, 2, 3, 4]⟩,
    ⟨some 100, .faddr 3 (.t 3), none, [], []⟩,
    ⟨some 101, .load 1 false (.t 100), none, [101], [6]⟩,
    ⟨some 102, .mov (.t 5), none, [], []⟩,
    ⟨some 103, .iaddr 2 (.t 101) (.t 102), none, [], [6, 7, 8]⟩,
    ⟨some 104, .faddr 1 (.t 103), none, [], [6, 7, 8, 9]⟩,
    ⟨some 105, .load 1 false (.t 104), none, [], [6, 7, 8, 9, 10]⟩,
    ⟨some 106, .call none 58 [.t 99, .t 105], none, [], [0, 1, 2, 3, 4, 5, 6, 7, 8, 9, 10, 11]⟩,
    ⟨some 4, .mov (.t 106), none, [], [0, 1, 2, 3, 4, 5, 6, 7, 8, 9, 10, 11, 12]⟩] true)
  (.gmask [4] [] .ret))
  .skip))))
  (.region [
    ⟨some 53, .mov (.t 5), none, [], []⟩,
    ⟨some 54, .bin .add (.t 53) (.c (.int .i64 1)), none, [], []⟩,
    ⟨some 5, .mov (.t 54), none, [], []⟩] false)))
def ic55_0 : IC := .loop [2, 3, 5] [100, 101] ic55_0_b
/-- corpora/corporaref06.CompareRegions -/
def ic55 : IC :=
  (.seq (.region [
    ⟨some 2, .box 100 4 (.t 0), none, [100], []⟩,
    ⟨some 3, .box 101 4 (.t 1), none, [101], []⟩,
    ⟨some 4, .mov (.c (.int .i64 0)), none, [], []⟩] false)
  (.seq (.block 0 (.seq (.region [
    ⟨some 7, .faddr 1 (.t 2), none, [], []⟩,
    ⟨some 8, .load 1 false (.t 7), none, [100], []⟩,
    ⟨some 9, .faddr 1 (.t 3), none, [], []⟩,
    ⟨some 10, .load 1 false (.t 9), none, [101], []⟩,
    ⟨some 11, .bin .neq (.t 8) (.t 10), none, [], []⟩,
    ⟨some 6, .mov (.t 11), none, [], []⟩] false)
  (.cond (.t 6) (.seq (.region [
    ⟨some 12, .faddr 1 (.t 2), none, [], []⟩,
    ⟨some 13, .load 1 false (.t 12), none, [100], []⟩,
    ⟨some 14, .faddr 1 (.t 3), none, [], []⟩,
    ⟨some 15, .load 1 false (.t 14), none, [101], []⟩,
    ⟨some 16, .bin .lss (.t 13) (.t 15), none, [], []⟩,
    ⟨some 17, .call none 57 [.t 16], none, [], []⟩,
    ⟨some 4, .mov (.t 17), none, [], []⟩] false)
  (.gmask [4] [] .ret))
  (.seq (.region [
    ⟨some 19, .faddr 2 (.t 2), none, [], []⟩,
    ⟨some 20, .load 1 false (.t 19), none, [100], []⟩,
    ⟨some 21, .faddr 2 (.t 3), none, [], []⟩,
    ⟨some 22, .load 1 false (.t 21), none, [101], []⟩,
    ⟨some 23, .bin .neq (.t 20) (.t 22), none, [], []⟩,
    ⟨some 18, .mov (.t 23), none, [], []⟩] false)
  (.cond (.t 18) (.seq (.region [
    ⟨some 24, .faddr 2 (.t 2), none, [], []⟩,
    ⟨some 25, .load 1 false (.t 24), none, [100], []⟩,
    ⟨some 26, .faddr 2 (.t 3), none, [], []⟩,
    ⟨some 27, .load 1 false (.t 26), none, [101], []⟩,
    ⟨some 28, .bin .gtr (.t 25) (.t 27), none, [], []⟩,
    ⟨some 29, .call none 57 [.t 28], none, [], []⟩,
    ⟨some 4, .mov (.t 29), none, [], []⟩] false)
  (.gmask [4] [] .ret))
  (.seq (.region [
    ⟨some 31, .faddr 0 (.t 2), none, [], []⟩,
    ⟨some 32, .load 1 false (.t 31), none, [100], []⟩,
    ⟨some 33, .faddr 0 (.t 3), none, [], []⟩,
    ⟨some 34, .load 1 false (.t 33), none, [101], []⟩,
    ⟨some 35, .bin .neq (.t 32) (.t 34), none, [], []⟩,
    ⟨some 30, .mov (.t 35), none, [], []⟩] false)
  (.cond (.t 30) (.seq (.region [
    ⟨some 36, .faddr 0 (.t 2), none, [], []⟩,
    ⟨some 37, .load 1 false (.t 36), none, [100], []⟩,
    ⟨some 38, .faddr 0 (.t 3), none, [], []⟩,
    ⟨some 39, .load 1 false (.t 38), none, [101], []⟩,
    ⟨some 40, .call none 58 [.t 37, .t 39], none, [], []⟩,
    ⟨some 4, .mov (.t 40), none, [], []⟩] false)
  (.gmask [4] [] .ret))
  .skip)))))))
  (.seq (.seq (.region [
    ⟨some 5, .mov (.c (.int .i64 0)), none, [], []⟩] false)
  (.block 1 (.gmask [2, 3, 5] [100, 101] ic55_0)))
  (.seq (.seq (.region [
    ⟨some 107, .faddr 3 (.t 2), none, [], []⟩,
    ⟨some 108, .load 1 false (.t 107), none, [100], []⟩,
    ⟨some 109, .len false (.t 108), none, [], []⟩,
    ⟨some 110, .faddr 3 (.t 3), none, [], []⟩,
    ⟨some 111, .load 1 false (.t 110), none, [101], []⟩,
    ⟨some 112, .len false (.t 111), none, [], []⟩,
    ⟨some 113, .bin .neq (.t 109) (.t 112), none, [], []⟩] false)
  (.cond (.t 113) (.seq (.region [
    ⟨some 114, .faddr 3 (.t 2), none, [], []⟩,
    ⟨some 115, .load 1 false (.t 114), none, [100], []⟩,
    ⟨some 116, .len false (.t 115), none, [], []⟩,
    ⟨some 117, .faddr 3 (.t 3), none, [], []⟩,
    ⟨some 118, .load 1 false (.t 117), none, [101], []⟩,
    ⟨some 119, .len false (.t 118), none, [], []⟩,
    ⟨some 120, .bin .lss (.t 116) (.t 119), none, [], []⟩,
    ⟨some 121, .call none 57 [.t 120], none, [], []⟩,
    ⟨some 4, .mov (.t 121), none, [], []⟩] false)
  (.gmask [4] [] .ret))
  .skip))
  (.seq (.region [
    ⟨some 4, .mov (.c (.int .i64 0)), none, [], []⟩] false)
  (.gmask [4] [] .ret))))))
def F55 : IFunc := ⟨2, 122, [.tmp 4], ic55⟩

/-- corpora/corporaref06.Validate -/
def ic56 : IC :=
  (.seq (.region [
    ⟨some 1, .box 100 7 (.t 0), none, [100], []⟩,
    ⟨some 2, .mov (.c (.int .i64 0)), none, [], []⟩,
    ⟨some 3, .mov (.c (.int .i64 0)), none, [], []⟩,
    ⟨some 4, .mov (.c (.int .i64 0)), none, [], []⟩] false)
  (.seq (.seq (.region [
    ⟨some 18, .faddr 0 (.t 1), none, [], []⟩,
    ⟨some 19, .load 1 false (.t 18), none, [100], []⟩,
    ⟨some 20, .call none 59 [.t 19], none, [], []⟩,
    ⟨some 17, .mov (.t 20), none, [], []⟩,
    ⟨some 21, .extract (.t 17) 0, none, [], []⟩,
    ⟨some 22, .extract (.t 17) 1, none, [], []⟩,
    ⟨some 5, .mov (.t 21), none, [], []⟩,
    ⟨some 6, .mov (.t 22), none, [], []⟩] false)
  (.seq (.region [
    ⟨some 23, .mov (.t 6), none, [], []⟩,
    ⟨some 24, .bin .neq (.t 23) (.c (.int .i64 0)), none, [], []⟩] false)
  (.cond (.t 24) (.seq (.region [
    ⟨some 25, .mov (.t 5), none, [], []⟩,
    ⟨some 26, .mov (.t 6), none, [], []⟩,
    ⟨some 2, .mov (.c (.int .i64 1)), none, [], []⟩,
    ⟨some 3, .mov (.t 25), none, [], []⟩,
    ⟨some 4, .mov (.t 26), none, [], []⟩] false)
  (.gmask [2, 3, 4] [] .ret))
  .skip)))
  (.seq (.seq (.region [
    ⟨some 28, .load 7 true (.t 1), none, [100], []⟩,
    ⟨some 29, .call none 60 [.t 28], none, [], []⟩,
    ⟨some 27, .mov (.t 29), none, [], []⟩,
    ⟨some 30, .extract (.t 27) 0, none, [], []⟩,
    ⟨some 31, .extract (.t 27) 1, none, [], []⟩,
    ⟨some 7, .mov (.t 30), none, [], []⟩,
    ⟨some 8, .mov (.t 31), none, [], []⟩] false)
  (.seq (.region [
    ⟨some 32, .mov (.t 8), none, [], []⟩,
    ⟨some 33, .bin .neq (.t 32) (.c (.int .i64 0)), none, [], []⟩] false)
  (.cond (.t 33) (.seq (.region [
    ⟨some 34, .mov (.t 7), none, [], []⟩,
    ⟨some 35, .mov (.t 8), none, [], []⟩,
    ⟨some 2, .mov (.c (.int .i64 2)), none, [], []⟩,
    ⟨some 3, .mov (.t 34), none, [], []⟩,
    ⟨some 4, .mov (.t 35), none, [], []⟩] false)
  (.gmask [2, 3, 4] [] .ret))
  .skip)))
  (.seq (.seq (.region [
    ⟨some 37, .load 7 true (.t 1), none, [100], []⟩,
    ⟨some 38, .call none 61 [.t 37], none, [], []⟩,
    ⟨some 36, .mov (.t 38), none, [], []⟩,
    ⟨some 39, .extract (.t 36) 0, none, [], []⟩,
    ⟨some 40, .extract (.t 36) 1, none, [], []⟩,
    ⟨some 9, .mov (.t 39), none, [], []⟩,
    ⟨some 10, .mov (.t 40), none, [], []⟩] false)
  (.seq (.region [
    ⟨some 41, .mov (.t 10), none, [], []⟩,
    ⟨some 42, .bin .neq (.t 41) (.c (.int .i64 0)), none, [], []⟩] false)
  (.cond (.t 42) (.seq (.region [
    ⟨some 43, .mov (.t 9), none, [], []⟩,
    ⟨some 44, .mov (.t 10), none, [], []⟩,
    ⟨some 2, .mov (.c (.int .i64 3)), none, [], []⟩,
    ⟨some 3, .mov (.t 43), none, [], []⟩,
    ⟨some 4, .mov (.t 44), none, [], []⟩] false)
  (.gmask [2, 3, 4] [] .ret))
  .skip)))
  (.seq (.seq (.region [
    ⟨some 46, .load 7 true (.t 1), none, [100], []⟩,
    ⟨some 47, .call none 62 [.t 46], none, [], []⟩,
    ⟨some 45, .mov (.t 47), none, [], []⟩,
    ⟨some 48, .extract (.t 45) 0, none, [], []⟩,
    ⟨some 49, .extract (.t 45) 1, none, [], []⟩,
    ⟨some 11, .mov (.t 48), none, [], []⟩,
    ⟨some 12, .mov (.t 49), none, [], []⟩] false)
  (.seq (.region [
    ⟨some 50, .mov (.t 12), none, [], []⟩,
    ⟨some 51, .bin .neq (.t 50) (.c (.int .i64 0)), none, [], []⟩] false)
  (.cond (.t 51) (.seq (.region [
    ⟨some 52, .mov (.t 11), none, [], []⟩,
    ⟨some 53, .mov (.t 12), none, [], []⟩,
    ⟨some 2, .mov (.c (.int .i64 4)), none, [], []⟩,
    ⟨some 3, .mov (.t 52), none, [], []⟩,
    ⟨some 4, .mov (.t 53), none, [], []⟩] false)
  (.gmask [2, 3, 4] [] .ret))
  .skip)))
  (.seq (.seq (.region [
    ⟨some 55, .faddr 4 (.t 1), none, [], []⟩,
    ⟨some 56, .load 1 false (.t 55), none, [100], []⟩,
    ⟨some 57, .load 7 true (.t 1), none, [100], []⟩,
    ⟨some 58, .call none 63 [.t 56, .t 57], none, [], []⟩,
    ⟨some 54, .mov (.t 58), none, [], []⟩,
    ⟨some 59, .extract (.t 54) 0, none, [], []⟩,
    ⟨some 60, .extract (.t 54) 1, none, [], []⟩,
    ⟨some 13, .mov (.t 59), none, [], []⟩,
    ⟨some 14, .mov (.t 60), none, [], []⟩] false)
  (.seq (.region [
    ⟨some 61, .mov (.t 14), none, [], []⟩,
    ⟨some 62, .bin .neq (.t 61) (.c (.int .i64 0)), none, [], []⟩] false)
  (.cond (.t 62) (.seq (.region [
    ⟨some 63, .mov (.t 13), none, [], []⟩,
    ⟨some 64, .mov (.t 14), none, [], []⟩,
    ⟨some 2, .mov (.c (.int .i64 5)), none, [], []⟩,
    ⟨some 3, .mov (.t 63), none, [], []⟩,
    ⟨some 4, .mov (.t 64), none, [], []⟩] false)
  (.gmask [2, 3, 4] [] .ret))
  .skip)))
  (.seq (.seq (.region [
    ⟨some 66, .load 7 true (.t 1), none, [100], []⟩,
    ⟨some 67, .call none 64 [.t 66], none, [], []⟩,
    ⟨some 65, .mov (.t 67), none, [], []⟩,
    ⟨some 68, .extract (.t 65) 0, none, [], []⟩,
    ⟨some 69, .extract (.t 65) 1, none, [], []⟩,
    ⟨some 15, .mov (.t 68), none, [], []⟩,
    ⟨some 16, .mov (.t 69), none, [], []⟩] false)
  (.seq (.region [
    ⟨some 70, .mov (.t 16), none, [], []⟩,
    ⟨some 71, .bin .neq (.t 70) (.c (.int .i64 0)), none, [], []⟩] false)
  (.cond (.t 71) (.seq (.region [
    ⟨some 72, .mov (.t 15), none, [], []⟩,
    ⟨some 73, .mov (.t 16), none, [], []⟩,
    ⟨some 2, .mov (.c (.int .i64 6)), none, [], []⟩,
    ⟨some 3, .mov (.t 72), none, [], []⟩,
    ⟨some 4, .mov (.t 73), none, [], []⟩] false)
  (.gmask [2, 3, 4] [] .ret))
  .skip)))
  (.seq (.region [
    ⟨some 2, .mov (.c (.int .i64 0)), none, [], []⟩,
    ⟨some 3, .mov (.c (.int .i64 0)), none, [], []⟩,
    ⟨some 4, .mov (.c (.int .i64 0)), none, [], []⟩] false)
  (.gmask [2, 3, 4] [] .ret)))))))))
def F56 : IFunc := ⟨1, 74, [.tmp 2, .tmp 3, .tmp 4], ic56⟩

/-- corpora/corporaref06.sign -/
def ic57 : IC :=
  (.seq (.region [
    ⟨some 2, .mov (.c (.int .i64 0)), none, [], []⟩] false)
  (.seq (.seq (.region [
    ⟨some 3, .mov (.t 0), none, [], []⟩] false)
  (.cond (.t 3) (.seq (.region [
    ⟨some 2, .mov (.c (.int .i64 (-1))), none, [], []⟩] false)
  (.gmask [2] [] .ret))
  .skip))
  (.seq (.region [
    ⟨some 2, .mov (.c (.int .i64 1)), none, [], []⟩] false)
  (.gmask [2] [] .ret))))
def F57 : IFunc := ⟨1, 4, [.tmp 2], ic57⟩

/-- corpora/corporaref06.compare -/
def ic58 : IC :=
  (.seq (.region [
    ⟨some 4, .mov (.c (.int .i64 0)), none, [], []⟩] false)
  (.seq (.block 0 (.seq (.region [
    ⟨some 6, .mov (.t 0), none, [], []⟩,
    ⟨some 7, .mov (.t 1), none, [], []⟩,
    ⟨some 8, .bin .lss (.t 6) (.t 7), none, [], []⟩,
    ⟨some 5, .mov (.t 8), none, [], []⟩] false)
  (.cond (.t 5) (.seq (.region [
    ⟨some 4, .mov (.c (.int .i64 (-1))), none, [], []⟩] false)
  (.gmask [4] [] .ret))
  (.seq (.region [
    ⟨some 10, .mov (.t 0), none, [], []⟩,
    ⟨some 11, .mov (.t 1), none, [], []⟩,
    ⟨some 12, .bin .gtr (.t 10) (.t 11), none, [], []⟩,
    ⟨some 9, .mov (.t 12), none, [], []⟩] false)
  (.cond (.t 9) (.seq (.region [
    ⟨some 4, .mov (.c (.int .i64 1)), none, [], []⟩] false)
  (.gmask [4] [] .ret))
  .skip)))))
  (.seq (.region [
    ⟨some 4, .mov (.c (.int .i64 0)), none, [], []⟩] false)
  (.gmask [4] [] .ret))))
def F58 : IFunc := ⟨2, 13, [.tmp 4], ic58⟩

def ic59_0_b : IC :=
  (.seq (.region [
    ⟨some 31, .bin .lss (.t 30) (.t 29), none, [], []⟩] false)
  (.seq (.cond (.t 31) .skip
  (.gmask [0, 14, 15, 16] [] (.exit 2)))
  (.seq (.block 3 (.seq (.region [
    ⟨some 32, .iaddr 2 (.t 28) (.t 30), none, [], []⟩,
    ⟨some 33, .load 2 true (.t 32), none, [], []⟩,
    ⟨some 7, .alloc 101 [.str ⟨#[]⟩, .bool false], none, [101], []⟩,
    ⟨none, .store 2 (.t 7) (.t 33), none, [101], []⟩] false)
  (.seq (.region [
    ⟨some 34, .faddr 0 (.t 5), none, [], []⟩,
    ⟨some 35, .load 1 false (.t 34), none, [100], []⟩,
    ⟨some 36, .faddr 0 (.t 7), none, [], []⟩,
    ⟨some 37, .load 1 false (.t 36), none, [101], []⟩,
    ⟨some 38, .bin .eql (.t 35) (.t 37), none, [], []⟩] false)
  (.cond (.t 38) (.seq (.region [
    ⟨some 39, .mov (.t 4), none, [], []⟩,
    ⟨some 2, .mov (.t 39), none, [], []⟩,
    ⟨some 3, .mov (.c (.int .i64 5)), none, [], []⟩] false)
  (.gmask [2, 3] [] .ret))
  .skip))))
  (.region [
    ⟨some 40, .bin .add (.t 30) (.c (.int .i64 1)), none, [], []⟩,
    ⟨some 30, .mov (.t 40), none, [], []⟩] false))))
def ic59_0 : IC := .loop [0, 4, 5, 14, 15, 16, 28, 29, 30] [100] ic59_0_b
def ic59_1_b : IC :=
  (.seq (.region [
    ⟨some 17, .bin .lss (.t 16) (.t 15), none, [], []⟩] false)
  (.seq (.cond (.t 17) .skip
  (.gmask [] [] (.exit 0)))
  (.seq (.block 1 (.seq (.region [
    ⟨some 18, .mov (.t 16), none, [], []⟩,
    ⟨some 19, .iaddr 2 (.t 14) (.t 16), none, [], []⟩,
    ⟨some 20, .load 2 true (.t 19), none, [], []⟩,
    ⟨some 5, .alloc 100 [.str ⟨#[]⟩, .bool false], none, [100], []⟩,
    ⟨some 4, .mov (.t 18), none, [], []⟩,
    ⟨none, .store 2 (.t 5) (.t 20), none, [100], []⟩] false)
  (.seq (.seq (.region [
    ⟨some 21, .faddr 0 (.t 5), none, [], []⟩,
    ⟨some 22, .load 1 false (.t 21), none, [100], []⟩,
    ⟨some 23, .call none 65 [.t 22], none, [], []⟩,
    ⟨some 24, .un .not (.t 23), none, [], []⟩] false)
  (.cond (.t 24) (.seq (.region [
    ⟨some 25, .mov (.t 4), none, [], []⟩,
    ⟨some 2, .mov (.t 25), none, [], []⟩,
    ⟨some 3, .mov (.c (.int .i64 4)), none, [], []⟩] false)
  (.gmask [2, 3] [] .ret))
  .skip))
  (.seq (.region [
    ⟨some 26, .mov (.t 0), none, [], []⟩,
    ⟨some 27, .mov (.t 4), none, [], []⟩,
    ⟨some 28, .slice false 2 (.t 26) none (some (.t 27)), none, [], []⟩,
    ⟨some 29, .len false (.t 28), none, [], []⟩,
    ⟨some 30, .mov (.c (.int .i64 0)), none, [], []⟩] false)
  (.block 2 (.gmask [0, 4, 5, 14, 15, 16, 28, 29, 30] [100] ic59_0))))))
  (.region [
    ⟨some 41, .bin .add (.t 16) (.c (.int .i64 1)), none, [], []⟩,
    ⟨some 16, .mov (.t 41), none, [], []⟩] false))))
def ic59_1 : IC := .loop [0, 14, 15, 16] [] ic59_1_b
/-- corpora/corporaref06.Attributes -/
def ic59 : IC :=
  (.seq (.region [
    ⟨some 2, .mov (.c (.int .i64 0)), none, [], []⟩,
    ⟨some 3, .mov (.c (.int .i64 0)), none, [], []⟩] false)
  (.seq (.seq (.region [
    ⟨some 8, .mov (.t 0), none, [], []⟩,
    ⟨some 9, .len false (.t 8), none, [], []⟩,
    ⟨some 10, .bin .eql (.t 9) (.c (.int .i64 0)), none, [], []⟩] false)
  (.cond (.t 10) (.seq (.region [
    ⟨some 2, .mov (.c (.int .i64 0)), none, [], []⟩,
    ⟨some 3, .mov (.c (.int .i64 15)), none, [], []⟩] false)
  (.gmask [2, 3] [] .ret))
  .skip))
  (.seq (.seq (.region [
    ⟨some 11, .mov (.t 0), none, [], []⟩,
    ⟨some 12, .len false (.t 11), none, [], []⟩,
    ⟨some 13, .bin .gtr (.t 12) (.c (.int .i64 8)), none, [], []⟩] false)
  (.cond (.t 13) (.seq (.region [
    ⟨some 2, .mov (.c (.int .i64 0)), none, [], []⟩,
    ⟨some 3, .mov (.c (.int .i64 2)), none, [], []⟩] false)
  (.gmask [2, 3] [] .ret))
  .skip))
  (.seq (.seq (.region [
    ⟨some 14, .mov (.t 0), none, [], []⟩,
    ⟨some 15, .len false (.t 14), none, [], []⟩,
    ⟨some 16, .mov (.c (.int .i64 0)), none, [], []⟩] false)
  (.block 0 (.gmask [0, 14, 15, 16] [] ic59_1)))
  (.seq (.region [
    ⟨some 2, .mov (.c (.int .i64 0)), none, [], []⟩,
    ⟨some 3, .mov (.c (.int .i64 0)), none, [], []⟩] false)
  (.gmask [2, 3] [] .ret))))))
def F59 : IFunc := ⟨1, 42, [.tmp 2, .tmp 3], ic59⟩

def ic60_0_b : IC :=
  (.seq (.region [
    ⟨some 31, .bin .lss (.t 30) (.t 29), none, [], []⟩] false)
  (.seq (.cond (.t 31) .skip
  (.gmask [1, 14, 15, 16] [100] (.exit 2)))
  (.seq (.block 3 (.seq (.region [
    ⟨some 32, .mov (.t 30), none, [], []⟩,
    ⟨some 33, .iaddr 1 (.t 28) (.t 30), none, [], []⟩,
    ⟨some 34, .load 1 false (.t 33), none, [], []⟩,
    ⟨some 6, .mov (.t 32), none, [], []⟩,
    ⟨some 7, .mov (.t 34), none, [], []⟩] false)
  (.seq (.region [
    ⟨some 35, .faddr 0 (.t 1), none, [], []⟩,
    ⟨some 36, .load 1 false (.t 35), none, [100], []⟩,
    ⟨some 37, .mov (.t 6), none, [], []⟩,
    ⟨some 38, .iaddr 2 (.t 36) (.t 37), none, [], []⟩,
    ⟨some 39, .load 2 true (.t 38), none, [], []⟩,
    ⟨some 40, .mov (.t 7), none, [], []⟩,
    ⟨some 41, .call none 66 [.t 39, .t 40], none, [], []⟩,
    ⟨some 8, .mov (.t 41), none, [], []⟩] false)
  (.seq (.region [
    ⟨some 42, .mov (.t 8), none, [], []⟩,
    ⟨some 43, .bin .neq (.t 42) (.c (.int .i64 0)), none, [], []⟩] false)
  (.cond (.t 43) (.seq (.region [
    ⟨some 44, .mov (.t 4), none, [], []⟩,
    ⟨some 45, .mov (.t 8), none, [], []⟩,
    ⟨some 2, .mov (.t 44), none, [], []⟩,
    ⟨some 3, .mov (.t 45), none, [], []⟩] false)
  (.gmask [2, 3] [] .ret))
  .skip)))))
  (.region [
    ⟨some 46, .bin .add (.t 30) (.c (.int .i64 1)), none, [], []⟩,
    ⟨some 30, .mov (.t 46), none, [], []⟩] false))))
def ic60_0 : IC := .loop [1, 4, 14, 15, 16, 28, 29, 30] [100] ic60_0_b
def ic60_1_b : IC :=
  (.seq (.region [
    ⟨some 17, .bin .lss (.t 16) (.t 15), none, [], []⟩] false)
  (.seq (.cond (.t 17) .skip
  (.gmask [] [] (.exit 0)))
  (.seq (.block 1 (.seq (.region [
    ⟨some 18, .mov (.t 16), none, [], []⟩,
    ⟨some 19, .iaddr 1 (.t 14) (.t 16), none, [], []⟩,
    ⟨some 20, .load 1 false (.t 19), none, [], []⟩,
    ⟨some 4, .mov (.t 18), none, [], []⟩,
    ⟨some 5, .mov (.t 20), none, [], []⟩] false)
  (.seq (.seq (.region [
    ⟨some 21, .mov (.t 5), none, [], []⟩,
    ⟨some 22, .len false (.t 21), none, [], []⟩,
    ⟨some 23, .faddr 0 (.t 1), none, [], []⟩,
    ⟨some 24, .load 1 false (.t 23), none, [100], []⟩,
    ⟨some 25, .len false (.t 24), none, [], []⟩,
    ⟨some 26, .bin .neq (.t 22) (.t 25), none, [], []⟩] false)
  (.cond (.t 26) (.seq (.region [
    ⟨some 27, .mov (.t 4), none, [], []⟩,
    ⟨some 2, .mov (.t 27), none, [], []⟩,
    ⟨some 3, .mov (.c (.int .i64 15)), none, [], []⟩] false)
  (.gmask [2, 3] [] .ret))
  .skip))
  (.seq (.region [
    ⟨some 28, .mov (.t 5), none, [], []⟩,
    ⟨some 29, .len false (.t 28), none, [], []⟩,
    ⟨some 30, .mov (.c (.int .i64 0)), none, [], []⟩] false)
  (.block 2 (.gmask [1, 4, 14, 15, 16, 28, 29, 30] [100] ic60_0))))))
  (.region [
    ⟨some 47, .bin .add (.t 16) (.c (.int .i64 1)), none, [], []⟩,
    ⟨some 16, .mov (.t 47), none, [], []⟩] false))))
def ic60_1 : IC := .loop [1, 14, 15, 16] [100] ic60_1_b
/-- corpora/corporaref06.tokens -/
def ic60 : IC :=
  (.seq (.region [
    ⟨some 1, .box 100 7 (.t 0), none, [100], []⟩,
    ⟨some 2, .mov (.c (.int .i64 0)), none, [], []⟩,
    ⟨some 3, .mov (.c (.int .i64 0)), none, [], []⟩] false)
  (.seq (.seq (.region [
    ⟨some 9, .faddr 1 (.t 1), none, [], []⟩,
    ⟨some 10, .load 1 false (.t 9), none, [100], []⟩,
    ⟨some 11, .len false (.t 10), none, [], []⟩,
    ⟨some 12, .bin .gtr (.t 11) (.c (.int .i64 4096)), none, [], []⟩] false)
  (.cond (.t 12) (.seq (.region [
    ⟨some 2, .mov (.c (.int .i64 0)), none, [], []⟩,
    ⟨some 3, .mov (.c (.int .i64 2)), none, [], []⟩] false)
  (.gmask [2, 3] [] .ret))
  .skip))
  (.seq (.seq (.region [
    ⟨some 13, .faddr 1 (.t 1), none, [], []⟩,
    ⟨some 14, .load 1 false (.t 13), none, [100], []⟩,
    ⟨some 15, .len false (.t 14), none, [], []⟩,
    ⟨some 16, .mov (.c (.int .i64 0)), none, [], []⟩] false)
  (.block 0 (.gmask [1, 14, 15, 16] [100] ic60_1)))
  (.seq (.region [
    ⟨some 2, .mov (.c (.int .i64 0)), none, [], []⟩,
    ⟨some 3, .mov (.c (.int .i64 0)), none, [], []⟩] false)
  (.gmask [2, 3] [] .ret)))))
def F60 : IFunc := ⟨1, 48, [.tmp 2, .tmp 3], ic60⟩

def ic61_0_b : IC :=
  (.seq (.region [
    ⟨some 44, .bin .lss (.t 43) (.t 42), none, [], []⟩] false)
  (.seq (.cond (.t 44) .skip
  (.gmask [1, 4, 5, 6, 7, 26, 27, 28] [100, 101] (.exit 2)))
  (.seq (.block 3 (.seq (.region [
    ⟨some 45, .iaddr 4 (.t 41) (.t 43), none, [], []⟩,
    ⟨some 46, .load 4 true (.t 45), none, [], []⟩,
    ⟨some 9, .alloc 102 [.str ⟨#[]⟩, .int .i64 0, .int .i64 0, .nil], none, [102], []⟩,
    ⟨none, .store 4 (.t 9) (.t 46), none, [102], []⟩] false)
  (.seq (.region [
    ⟨some 47, .faddr 0 (.t 9), none, [], []⟩,
    ⟨some 48, .load 1 false (.t 47), none, [102], []⟩,
    ⟨some 49, .faddr 0 (.t 7), none, [], []⟩,
    ⟨some 50, .load 1 false (.t 49), none, [101], []⟩,
    ⟨some 51, .bin .eql (.t 48) (.t 50), none, [], []⟩] false)
  (.cond (.t 51) (.seq (.region [
    ⟨some 52, .mov (.t 6), none, [], []⟩,
    ⟨some 2, .mov (.t 52), none, [], []⟩,
    ⟨some 3, .mov (.c (.int .i64 5)), none, [], []⟩] false)
  (.gmask [2, 3] [] .ret))
  .skip))))
  (.region [
    ⟨some 53, .bin .add (.t 43) (.c (.int .i64 1)), none, [], []⟩,
    ⟨some 43, .mov (.t 53), none, [], []⟩] false))))
def ic61_0 : IC := .loop [1, 4, 5, 6, 7, 26, 27, 28, 41, 42, 43] [100, 101] ic61_0_b
def ic61_1_b : IC :=
  (.seq (.region [
    ⟨some 29, .bin .lss (.t 28) (.t 27), none, [], []⟩] false)
  (.seq (.cond (.t 29) .skip
  (.gmask [] [] (.exit 0)))
  (.seq (.block 1 (.seq (.region [
    ⟨some 30, .mov (.t 28), none, [], []⟩,
    ⟨some 31, .iaddr 4 (.t 26) (.t 28), none, [], []⟩,
    ⟨some 32, .load 4 true (.t 31), none, [], []⟩,
    ⟨some 7, .alloc 101 [.str ⟨#[]⟩, .int .i64 0, .int .i64 0, .nil], none, [101], []⟩,
    ⟨some 6, .mov (.t 30), none, [], []⟩,
    ⟨none, .store 4 (.t 7) (.t 32), none, [101], []⟩] false)
  (.seq (.seq (.region [
    ⟨some 33, .faddr 0 (.t 7), none, [], []⟩,
    ⟨some 34, .load 1 false (.t 33), none, [101], []⟩,
    ⟨some 35, .call none 65 [.t 34], none, [], []⟩,
    ⟨some 36, .un .not (.t 35), none, [], []⟩] false)
  (.cond (.t 36) (.seq (.region [
    ⟨some 37, .mov (.t 6), none, [], []⟩,
    ⟨some 2, .mov (.t 37), none, [], []⟩,
    ⟨some 3, .mov (.c (.int .i64 4)), none, [], []⟩] false)
  (.gmask [2, 3] [] .ret))
  .skip))
  (.seq (.seq (.region [
    ⟨some 38, .faddr 2 (.t 1), none, [], []⟩,
    ⟨some 39, .load 1 false (.t 38), none, [100], []⟩,
    ⟨some 40, .mov (.t 6), none, [], []⟩,
    ⟨some 41, .slice false 4 (.t 39) none (some (.t 40)), none, [], []⟩,
    ⟨some 42, .len false (.t 41), none, [], []⟩,
    ⟨some 43, .mov (.c (.int .i64 0)), none, [], []⟩] false)
  (.block 2 (.gmask [1, 4, 5, 6, 7, 26, 27, 28, 41, 42, 43] [100, 101] ic61_0)))
  (.seq (.seq (.region [
    ⟨some 54, .faddr 1 (.t 7), none, [], []⟩,
    ⟨some 55, .load 1 false (.t 54), none, [101], []⟩,
    ⟨some 56, .mov (.t 5), none, [], []⟩,
    ⟨some 57, .bin .neq (.t 55) (.t 56), none, [], []⟩,
    ⟨some 58, .mov (.t 57), none, [], []⟩,
    ⟨some 59, .faddr 2 (.t 7), some (58, false), [], []⟩,
    ⟨some 60, .load 1 false (.t 59), some (58, false), [101], []⟩,
    ⟨some 61, .faddr 1 (.t 7), some (58, false), [], []⟩,
    ⟨some 62, .load 1 false (.t 61), some (58, false), [101], []⟩,
    ⟨some 63, .bin .leq (.t 60) (.t 62), some (58, false), [], []⟩,
    ⟨some 64, .pick (.t 58) (.c (.bool true)) (.t 63), none, [], []⟩,
    ⟨some 65, .mov (.t 64), none, [], []⟩,
    ⟨some 66, .faddr 2 (.t 7), some (65, false), [], []⟩,
    ⟨some 67, .load 1 false (.t 66), some (65, false), [101], []⟩,
    ⟨some 68, .mov (.t 4), some (65, false), [], []⟩,
    ⟨some 69, .bin .gtr (.t 67) (.t 68), some (65, false), [], []⟩,
    ⟨some 70, .pick (.t 65) (.c (.bool true)) (.t 69), none, [], []⟩,
    ⟨some 71, .mov (.t 70), none, [], []⟩,
    ⟨some 72, .mov (.t 6), some (71, false), [], []⟩,
    ⟨some 73, .faddr 2 (.t 1), some (71, false), [], []⟩,
    ⟨some 74, .load 1 false (.t 73), some (71, false), [100], []⟩,
    ⟨some 75, .len false (.t 74), some (71, false), [], []⟩,
    ⟨some 76, .bin .sub (.t 75) (.c (.int .i64 1)), some (71, false), [], []⟩,
    ⟨some 77, .bin .eql (.t 72) (.t 76), some (71, false), [], []⟩,
    ⟨some 78, .mov (.t 77), some (71, false), [], []⟩,
    ⟨some 79, .faddr 2 (.t 7), some (78, true), [], []⟩,
    ⟨some 80, .load 1 false (.t 79), some (78, true), [101], []⟩,
    ⟨some 81, .mov (.t 4), some (78, true), [], []⟩,
    ⟨some 82, .bin .neq (.t 80) (.t 81), some (78, true), [], []⟩,
    ⟨some 83, .pick (.t 78) (.t 82) (.c (.bool false)), some (71, false), [], []⟩,
    ⟨some 84, .pick (.t 71) (.c (.bool true)) (.t 83), none, [], []⟩] false)
  (.cond (.t 84) (.seq (.region [
    ⟨some 85, .mov (.t 6), none, [], []⟩,
    ⟨some 2, .mov (.t 85), none, [], []⟩,
    ⟨some 3, .mov (.c (.int .i64 8)), none, [], []⟩] false)
  (.gmask [2, 3] [] .ret))
  .skip))
  (.seq (.seq (.region [
    ⟨some 86, .faddr 3 (.t 7), none, [], []⟩,
    ⟨some 87, .load 1 false (.t 86), none, [101], []⟩,
    ⟨some 88, .call none 67 [.t 87], none, [], []⟩,
    ⟨some 10, .mov (.t 88), none, [], []⟩] false)
  (.seq (.region [
    ⟨some 89, .mov (.t 10), none, [], []⟩,
    ⟨some 90, .bin .neq (.t 89) (.c (.int .i64 0)), none, [], []⟩] false)
  (.cond (.t 90) (.seq (.region [
    ⟨some 91, .mov (.t 6), none, [], []⟩,
    ⟨some 92, .mov (.t 10), none, [], []⟩,
    ⟨some 2, .mov (.t 91), none, [], []⟩,
    ⟨some 3, .mov (.t 92), none, [], []⟩] false)
  (.gmask [2, 3] [] .ret))
  .skip)))
  (.region [
    ⟨some 93, .faddr 2 (.t 7), none, [], []⟩,
    ⟨some 94, .load 1 false (.t 93), none, [101], []⟩,
    ⟨some 5, .mov (.t 94), none, [], []⟩] false)))))))
  (.region [
    ⟨some 95, .bin .add (.t 28) (.c (.int .i64 1)), none, [], []⟩,
    ⟨some 28, .mov (.t 95), none, [], []⟩] false))))
def ic61_1 : IC := .loop [1, 4, 5, 26, 27, 28] [100] ic61_1_b
/-- corpora/corporaref06.texts -/
def ic61 : IC :=
  (.seq (.region [
    ⟨some 1, .box 100 7 (.t 0), none, [100], []⟩,
    ⟨some 2, .mov (.c (.int .i64 0)), none, [], []⟩,
    ⟨some 3, .mov (.c (.int .i64 0)), none, [], []⟩] false)
  (.seq (.region [
    ⟨some 11, .faddr 1 (.t 1), none, [], []⟩,
    ⟨some 12, .load 1 false (.t 11), none, [100], []⟩,
    ⟨some 13, .len false (.t 12), none, [], []⟩,
    ⟨some 4, .mov (.t 13), none, [], []⟩] false)
  (.seq (.seq (.region [
    ⟨some 14, .faddr 2 (.t 1), none, [], []⟩,
    ⟨some 15, .load 1 false (.t 14), none, [100], []⟩,
    ⟨some 16, .len false (.t 15), none, [], []⟩,
    ⟨some 17, .bin .gtr (.t 16) (.c (.int .i64 64)), none, [], []⟩] false)
  (.cond (.t 17) (.seq (.region [
    ⟨some 2, .mov (.c (.int .i64 0)), none, [], []⟩,
    ⟨some 3, .mov (.c (.int .i64 2)), none, [], []⟩] false)
  (.gmask [2, 3] [] .ret))
  .skip))
  (.seq (.seq (.region [
    ⟨some 18, .faddr 2 (.t 1), none, [], []⟩,
    ⟨some 19, .load 1 false (.t 18), none, [100], []⟩,
    ⟨some 20, .len false (.t 19), none, [], []⟩,
    ⟨some 21, .bin .eql (.t 20) (.c (.int .i64 0)), none, [], []⟩,
    ⟨some 22, .mov (.t 4), none, [], []⟩,
    ⟨some 23, .bin .eql (.t 22) (.c (.int .i64 0)), none, [], []⟩,
    ⟨some 24, .eqB true (.t 21) (.t 23), none, [], []⟩] false)
  (.cond (.t 24) (.seq (.region [
    ⟨some 2, .mov (.c (.int .i64 0)), none, [], []⟩,
    ⟨some 3, .mov (.c (.int .i64 15)), none, [], []⟩] false)
  (.gmask [2, 3] [] .ret))
  .skip))
  (.seq (.region [
    ⟨some 5, .mov (.c (.int .i64 0)), none, [], []⟩] false)
  (.seq (.seq (.region [
    ⟨some 25, .faddr 2 (.t 1), none, [], []⟩,
    ⟨some 26, .load 1 false (.t 25), none, [100], []⟩,
    ⟨some 27, .len false (.t 26), none, [], []⟩,
    ⟨some 28, .mov (.c (.int .i64 0)), none, [], []⟩] false)
  (.block 0 (.gmask [1, 4, 5, 26, 27, 28] [100] ic61_1)))
  (.seq (.region [
    ⟨some 2, .mov (.c (.int .i64 0)), none, [], []⟩,
    ⟨some 3, .mov (.c (.int .i64 0)), none, [], []⟩] false)
  (.gmask [2, 3] [] .ret))))))))
def F61 : IFunc := ⟨1, 96, [.tmp 2, .tmp 3], ic61⟩

def ic62_0_b : IC :=
  (.seq (.region [
    ⟨some 65, .bin .lss (.t 64) (.t 63), none, [], []⟩] false)
  (.seq (.cond (.t 65) .skip
  (.gmask [1, 4, 7, 15, 16, 17] [100] (.exit 3)))
  (.seq (.block 4 (.seq (.region [
    ⟨some 66, .mov (.t 64), none, [], []⟩,
    ⟨some 67, .iaddr 4 (.t 62) (.t 64), none, [], []⟩,
    ⟨some 68, .load 4 true (.t 67), none, [], []⟩,
    ⟨some 9, .alloc 102 [.str ⟨#[]⟩, .int .i64 0, .int .i64 0, .nil], none, [102], []⟩,
    ⟨some 8, .mov (.t 66), none, [], []⟩,
    ⟨none, .store 4 (.t 9) (.t 68), none, [102], []⟩] false)
  (.seq (.seq (.region [
    ⟨some 69, .faddr 1 (.t 9), none, [], []⟩,
    ⟨some 70, .load 1 false (.t 69), none, [102], []⟩,
    ⟨some 71, .faddr 1 (.t 5), none, [], []⟩,
    ⟨some 72, .load 1 false (.t 71), none, [101], []⟩,
    ⟨some 73, .bin .leq (.t 70) (.t 72), none, [], []⟩,
    ⟨some 74, .mov (.t 73), none, [], []⟩,
    ⟨some 75, .faddr 1 (.t 5), some (74, true), [], []⟩,
    ⟨some 76, .load 1 false (.t 75), some (74, true), [101], []⟩,
    ⟨some 77, .faddr 2 (.t 9), some (74, true), [], []⟩,
    ⟨some 78, .load 1 false (.t 77), some (74, true), [102], []⟩,
    ⟨some 79, .bin .lss (.t 76) (.t 78), some (74, true), [], []⟩,
    ⟨some 80, .pick (.t 74) (.t 79) (.c (.bool false)), none, [], []⟩] false)
  (.gpost [1, 4, 5, 7, 8, 9, 15, 16, 17, 62, 63, 64] [100, 101, 102] (.cond (.t 80) (.region [
    ⟨some 81, .mov (.t 7), none, [], []⟩,
    ⟨some 82, .bin .add (.t 81) (.c (.int .i64 1)), none, [], []⟩,
    ⟨some 7, .mov (.t 82), none, [], []⟩] false)
  .skip)))
  (.seq (.region [
    ⟨some 83, .mov (.t 8), none, [], []⟩,
    ⟨some 84, .mov (.t 4), none, [], []⟩,
    ⟨some 85, .bin .lss (.t 83) (.t 84), none, [], []⟩,
    ⟨some 86, .mov (.t 85), none, [], []⟩,
    ⟨some 87, .faddr 0 (.t 9), some (86, true), [], []⟩,
    ⟨some 88, .load 1 false (.t 87), some (86, true), [102], []⟩,
    ⟨some 89, .faddr 0 (.t 5), some (86, true), [], []⟩,
    ⟨some 90, .load 1 false (.t 89), some (86, true), [101], []⟩,
    ⟨some 91, .bin .eql (.t 88) (.t 90), some (86, true), [], []⟩,
    ⟨some 92, .pick (.t 86) (.t 91) (.c (.bool false)), none, [], []⟩,
    ⟨some 93, .mov (.t 92), none, [], []⟩,
    ⟨some 94, .faddr 1 (.t 9), some (93, true), [], []⟩,
    ⟨some 95, .load 1 false (.t 94), some (93, true), [102], []⟩,
    ⟨some 96, .faddr 2 (.t 5), some (93, true), [], []⟩,
    ⟨some 97, .load 1 false (.t 96), some (93, true), [101], []⟩,
    ⟨some 98, .bin .lss (.t 95) (.t 97), some (93, true), [], []⟩,
    ⟨some 99, .pick (.t 93) (.t 98) (.c (.bool false)), none, [], []⟩,
    ⟨some 100, .mov (.t 99), none, [], []⟩,
    ⟨some 101, .faddr 1 (.t 5), some (100, true), [], []⟩,
    ⟨some 102, .load 1 false (.t 101), some (100, true), [101], []⟩,
    ⟨some 103, .faddr 2 (.t 9), some (100, true), [], []⟩,
    ⟨some 104, .load 1 false (.t 103), some (100, true), [102], []⟩,
    ⟨some 105, .bin .lss (.t 102) (.t 104), some (100, true), [], []⟩,
    ⟨some 106, .pick (.t 100) (.t 105) (.c (.bool false)), none, [], []⟩,
    ⟨some 107, .mov (.t 106), none, [], []⟩,
    ⟨some 108, .faddr 1 (.t 9), some (107, true), [], []⟩,
    ⟨some 109, .load 1 false (.t 108), some (107, true), [102], []⟩,
    ⟨some 110, .faddr 1 (.t 5), some (107, true), [], []⟩,
    ⟨some 111, .load 1 false (.t 110), some (107, true), [101], []⟩,
    ⟨some 112, .bin .leq (.t 109) (.t 111), some (107, true), [], []⟩,
    ⟨some 113, .mov (.t 112), some (107, true), [], []⟩,
    ⟨some 114, .faddr 2 (.t 5), some (113, true), [], []⟩,
    ⟨some 115, .load 1 false (.t 114), some (113, true), [101], []⟩,
    ⟨some 116, .faddr 2 (.t 9), some (113, true), [], []⟩,
    ⟨some 117, .load 1 false (.t 116), some (113, true), [102], []⟩,
    ⟨some 118, .bin .leq (.t 115) (.t 117), some (113, true), [], []⟩,
    ⟨some 119, .pick (.t 113) (.t 118) (.c (.bool false)), some (107, true), [], []⟩,
    ⟨some 120, .un .not (.t 119), some (107, true), [], []⟩,
    ⟨some 121, .pick (.t 107) (.t 120) (.c (.bool false)), none, [], []⟩,
    ⟨some 122, .mov (.t 121), none, [], []⟩,
    ⟨some 123, .faddr 1 (.t 5), some (122, true), [], []⟩,
    ⟨some 124, .load 1 false (.t 123), some (122, true), [101], []⟩,
    ⟨some 125, .faddr 1 (.t 9), some (122, true), [], []⟩,
    ⟨some 126, .load 1 false (.t 125), some (122, true), [102], []⟩,
    ⟨some 127, .bin .leq (.t 124) (.t 126), some (122, true), [], []⟩,
    ⟨some 128, .mov (.t 127), some (122, true), [], []⟩,
    ⟨some 129, .faddr 2 (.t 9), some (128, true), [], []⟩,
    ⟨some 130, .load 1 false (.t 129), some (128, true), [102], []⟩,
    ⟨some 131, .faddr 2 (.t 5), some (128, true), [], []⟩,
    ⟨some 132, .load 1 false (.t 131), some (128, true), [101], []⟩,
    ⟨some 133, .bin .leq (.t 130) (.t 132), some (128, true), [], []⟩,
    ⟨some 134, .pick (.t 128) (.t 133) (.c (.bool false)), some (122, true), [], []⟩,
    ⟨some 135, .un .not (.t 134), some (122, true), [], []⟩,
    ⟨some 136, .pick (.t 122) (.t 135) (.c (.bool false)), none, [], []⟩] false)
  (.cond (.t 136) (.seq (.region [
    ⟨some 137, .mov (.t 4), none, [], []⟩,
    ⟨some 2, .mov (.t 137), none, [], []⟩,
    ⟨some 3, .mov (.c (.int .i64 13)), none, [], []⟩] false)
  (.gmask [2, 3] [] .ret))
  .skip)))))
  (.region [
    ⟨some 138, .bin .add (.t 64) (.c (.int .i64 1)), none, [], []⟩,
    ⟨some 64, .mov (.t 138), none, [], []⟩] false))))
def ic62_0 : IC := .loop [1, 4, 5, 7, 15, 16, 17, 62, 63, 64] [100, 101] ic62_0_b
def ic62_1_b : IC :=
  (.seq (.region [
    ⟨some 18, .bin .lss (.t 17) (.t 16), none, [], []⟩] false)
  (.seq (.cond (.t 18) .skip
  (.gmask [] [] (.exit 0)))
  (.seq (.block 1 (.seq (.region [
    ⟨some 19, .mov (.t 17), none, [], []⟩,
    ⟨some 20, .iaddr 4 (.t 15) (.t 17), none, [], []⟩,
    ⟨some 21, .load 4 true (.t 20), none, [], []⟩,
    ⟨some 5, .alloc 101 [.str ⟨#[]⟩, .int .i64 0, .int .i64 0, .nil], none, [101], []⟩,
    ⟨some 4, .mov (.t 19), none, [], []⟩,
    ⟨none, .store 4 (.t 5) (.t 21), none, [101], []⟩] false)
  (.seq (.block 2 (.seq (.region [
    ⟨some 23, .faddr 0 (.t 5), none, [], []⟩,
    ⟨some 24, .load 1 false (.t 23), none, [101], []⟩,
    ⟨some 25, .call none 65 [.t 24], none, [], []⟩,
    ⟨some 26, .un .not (.t 25), none, [], []⟩,
    ⟨some 22, .mov (.t 26), none, [], []⟩] false)
  (.cond (.t 22) (.seq (.region [
    ⟨some 27, .mov (.t 4), none, [], []⟩,
    ⟨some 2, .mov (.t 27), none, [], []⟩,
    ⟨some 3, .mov (.c (.int .i64 4)), none, [], []⟩] false)
  (.gmask [2, 3] [] .ret))
  (.seq (.region [
    ⟨some 29, .load 7 true (.t 1), none, [100], []⟩,
    ⟨some 30, .faddr 1 (.t 5), none, [], []⟩,
    ⟨some 31, .load 1 false (.t 30), none, [101], []⟩,
    ⟨some 32, .faddr 2 (.t 5), none, [], []⟩,
    ⟨some 33, .load 1 false (.t 32), none, [101], []⟩,
    ⟨some 34, .call none 68 [.t 29, .t 31, .t 33], none, [], []⟩,
    ⟨some 35, .un .not (.t 34), none, [], []⟩,
    ⟨some 28, .mov (.t 35), none, [], []⟩] false)
  (.cond (.t 28) (.seq (.region [
    ⟨some 36, .mov (.t 4), none, [], []⟩,
    ⟨some 2, .mov (.t 36), none, [], []⟩,
    ⟨some 3, .mov (.c (.int .i64 8)), none, [], []⟩] false)
  (.gmask [2, 3] [] .ret))
  .skip)))))
  (.seq (.seq (.region [
    ⟨some 37, .faddr 3 (.t 5), none, [], []⟩,
    ⟨some 38, .load 1 false (.t 37), none, [101], []⟩,
    ⟨some 39, .call none 67 [.t 38], none, [], []⟩,
    ⟨some 6, .mov (.t 39), none, [], []⟩] false)
  (.seq (.region [
    ⟨some 40, .mov (.t 6), none, [], []⟩,
    ⟨some 41, .bin .neq (.t 40) (.c (.int .i64 0)), none, [], []⟩] false)
  (.cond (.t 41) (.seq (.region [
    ⟨some 42, .mov (.t 4), none, [], []⟩,
    ⟨some 43, .mov (.t 6), none, [], []⟩,
    ⟨some 2, .mov (.t 42), none, [], []⟩,
    ⟨some 3, .mov (.t 43), none, [], []⟩] false)
  (.gmask [2, 3] [] .ret))
  .skip)))
  (.seq (.seq (.region [
    ⟨some 44, .mov (.t 4), none, [], []⟩,
    ⟨some 45, .bin .gtr (.t 44) (.c (.int .i64 0)), none, [], [0]⟩,
    ⟨some 46, .mov (.t 45), none, [], [0, 1]⟩,
    ⟨some 47, .faddr 3 (.t 1), some (46, true), [], [0, 1, 2]⟩,
    ⟨some 48, .load 1 false (.t 47), some (46, true), [100], [0, 1, 2, 3]⟩,
    ⟨some 49, .mov (.t 4), some (46, true), [], [0, 1, 2]⟩,
    ⟨some 50, .bin .sub (.t 49) (.c (.int .i64 1)), some (46, true), [], [0, 1, 2, 5]⟩,
    ⟨some 51, .iaddr 4 (.t 48) (.t 50), some (46, true), [], [0, 1, 2, 3, 4, 5, 6]⟩,
    ⟨some 52, .load 4 true (.t 51), some (46, true), [], [0, 1, 2, 3, 4, 5, 6, 7]⟩,
    ⟨some 53, .load 4 true (.t 5), some (46, true), [101], [0, 1, 2]⟩,
    ⟨some 54, .call none 55 [.t 52, .t 53], some (46, true), [], [0, 1, 2, 3, 4, 5, 6, 7, 8, 9]⟩,
    ⟨some 55, .bin .gtr (.t 54) (.c (.int .i64 0)), some (46, true), [], [0, 1, 2, 3, 4, 5, 6, 7, 8, 9, 10]⟩,
    ⟨some 56, .pick (.t 46) (.t 55) (.c (.bool false)), none, [], [0, 1, 2, 3, 4, 5, 6, 7, 8, 9, 10, 11]⟩] true)
  (.cond (.t 56) (.seq (.region [
    ⟨some 57, .mov (.t 4), none, [], []⟩,
    ⟨some 2, .mov (.t 57), none, [], []⟩,
    ⟨some 3, .mov (.c (.int .i64 6)), none, [], []⟩] false)
  (.gmask [2, 3] [] .ret))
  .skip))
  (.seq (.region [
    ⟨some 7, .mov (.c (.int .i64 0)), none, [], []⟩] false)
  (.seq (.seq (.region [
    ⟨some 58, .faddr 3 (.t 1), none, [], []⟩,
    ⟨some 59, .load 1 false (.t 58), none, [100], []⟩,
    ⟨some 60, .mov (.t 4), none, [], []⟩,
    ⟨some 61, .bin .add (.t 60) (.c (.int .i64 1)), none, [], []⟩,
    ⟨some 62, .slice false 4 (.t 59) none (some (.t 61)), none, [], []⟩,
    ⟨some 63, .len false (.t 62), none, [], []⟩,
    ⟨some 64, .mov (.c (.int .i64 0)), none, [], []⟩] false)
  (.block 3 (.gmask [1, 4, 5, 7, 15, 16, 17, 62, 63, 64] [100, 101] ic62_0)))
  (.seq (.region [
    ⟨some 139, .mov (.t 7), none, [], []⟩,
    ⟨some 140, .bin .gtr (.t 139) (.c (.int .i64 40)), none, [], []⟩] false)
  (.cond (.t 140) (.seq (.region [
    ⟨some 141, .mov (.t 4), none, [], []⟩,
    ⟨some 2, .mov (.t 141), none, [], []⟩,
    ⟨some 3, .mov (.c (.int .i64 2)), none, [], []⟩] false)
  (.gmask [2, 3] [] .ret))
  .skip)))))))))
  (.region [
    ⟨some 142, .bin .add (.t 17) (.c (.int .i64 1)), none, [], []⟩,
    ⟨some 17, .mov (.t 142), none, [], []⟩] false))))
def ic62_1 : IC := .loop [1, 15, 16, 17] [100] ic62_1_b
/-- corpora/corporaref06.regions -/
def ic62 : IC :=
  (.seq (.region [
    ⟨some 1, .box 100 7 (.t 0), none, [100], []⟩,
    ⟨some 2, .mov (.c (.int .i64 0)), none, [], []⟩,
    ⟨some 3, .mov (.c (.int .i64 0)), none, [], []⟩] false)
  (.seq (.seq (.region [
    ⟨some 10, .faddr 3 (.t 1), none, [], []⟩,
    ⟨some 11, .load 1 false (.t 10), none, [100], []⟩,
    ⟨some 12, .len false (.t 11), none, [], []⟩,
    ⟨some 13, .bin .gtr (.t 12) (.c (.int .i64 1024)), none, [], []⟩] false)
  (.cond (.t 13) (.seq (.region [
    ⟨some 2, .mov (.c (.int .i64 0)), none, [], []⟩,
    ⟨some 3, .mov (.c (.int .i64 2)), none, [], []⟩] false)
  (.gmask [2, 3] [] .ret))
  .skip))
  (.seq (.seq (.region [
    ⟨some 14, .faddr 3 (.t 1), none, [], []⟩,
    ⟨some 15, .load 1 false (.t 14), none, [100], []⟩,
    ⟨some 16, .len false (.t 15), none, [], []⟩,
    ⟨some 17, .mov (.c (.int .i64 0)), none, [], []⟩] false)
  (.block 0 (.gmask [1, 15, 16, 17] [100] ic62_1)))
  (.seq (.region [
    ⟨some 2, .mov (.c (.int .i64 0)), none, [], []⟩,
    ⟨some 3, .mov (.c (.int .i64 0)), none, [], []⟩] false)
  (.gmask [2, 3] [] .ret)))))
def F62 : IFunc := ⟨1, 143, [.tmp 2, .tmp 3], ic62⟩

def ic63_0_b : IC :=
  (.seq (.seq (.region [
    ⟨some 42, .mov (.t 9), none, [], []⟩,
    ⟨some 43, .bin .geq (.t 42) (.c (.int .i64 0)), none, [], []⟩,
    ⟨some 44, .mov (.t 43), none, [], []⟩,
    ⟨some 45, .mov (.t 9), some (44, true), [], []⟩,
    ⟨some 46, .faddr 3 (.t 8), some (44, true), [], []⟩,
    ⟨some 47, .load 1 false (.t 46), some (44, true), [103], []⟩,
    ⟨some 48, .bin .neq (.t 45) (.t 47), some (44, true), [], []⟩,
    ⟨some 49, .pick (.t 44) (.t 48) (.c (.bool false)), none, [], []⟩] false)
  (.cond (.t 49) .skip
  (.gmask [0, 3, 6, 7, 8, 9, 18, 19, 20] [100, 102, 103] (.exit 3))))
  (.block 4 (.region [
    ⟨some 50, .mov (.t 0), none, [], []⟩,
    ⟨some 51, .mov (.t 9), none, [], []⟩,
    ⟨some 52, .iaddr 4 (.t 50) (.t 51), none, [], []⟩,
    ⟨some 53, .faddr 3 (.t 52), none, [], []⟩,
    ⟨some 54, .load 1 false (.t 53), none, [], []⟩,
    ⟨some 9, .mov (.t 54), none, [], []⟩] false)))
def ic63_0 : IC := .loop [0, 3, 6, 7, 8, 9, 18, 19, 20] [100, 102, 103] ic63_0_b
def ic63_1_b : IC :=
  (.seq (.seq (.region [
    ⟨some 94, .mov (.t 11), none, [], []⟩,
    ⟨some 95, .bin .geq (.t 94) (.c (.int .i64 0)), none, [], []⟩] false)
  (.cond (.t 95) .skip
  (.gmask [0, 3, 6, 7, 18, 19, 20] [100, 102] (.exit 5))))
  (.seq (.block 6 (.seq (.region [
    ⟨some 98, .mov (.t 0), none, [], []⟩,
    ⟨some 99, .mov (.t 11), none, [], []⟩,
    ⟨some 100, .iaddr 4 (.t 98) (.t 99), none, [], [0, 1]⟩,
    ⟨some 101, .faddr 3 (.t 100), none, [], [0, 1, 2]⟩,
    ⟨some 102, .load 1 false (.t 101), none, [], [0, 1, 2, 3]⟩,
    ⟨some 103, .faddr 3 (.t 8), none, [], []⟩,
    ⟨some 104, .load 1 false (.t 103), none, [103], [5]⟩,
    ⟨some 105, .bin .eql (.t 102) (.t 104), none, [], [0, 1, 2, 3, 4, 5, 6]⟩] true)
  (.cond (.t 105) (.seq (.seq (.region [
    ⟨some 106, .faddr 1 (.t 8), none, [], []⟩,
    ⟨some 107, .load 1 false (.t 106), none, [103], [0]⟩,
    ⟨some 108, .mov (.t 0), none, [], []⟩,
    ⟨some 109, .mov (.t 11), none, [], []⟩,
    ⟨some 110, .iaddr 4 (.t 108) (.t 109), none, [], [2, 3]⟩,
    ⟨some 111, .faddr 2 (.t 110), none, [], [2, 3, 4]⟩,
    ⟨some 112, .load 1 false (.t 111), none, [], [2, 3, 4, 5]⟩,
    ⟨some 113, .bin .lss (.t 107) (.t 112), none, [], [0, 1, 2, 3, 4, 5, 6]⟩] true)
  (.cond (.t 113) (.seq (.region [
    ⟨some 114, .mov (.t 7), none, [], []⟩,
    ⟨some 4, .mov (.t 114), none, [], []⟩,
    ⟨some 5, .mov (.c (.int .i64 8)), none, [], []⟩] false)
  (.gmask [4, 5] [] .ret))
  .skip))
  (.gmask [0, 3, 6, 7, 18, 19, 20] [100, 102] (.exit 5)))
  .skip)))
  (.region [
    ⟨some 96, .mov (.t 11), none, [], []⟩,
    ⟨some 97, .bin .sub (.t 96) (.c (.int .i64 1)), none, [], []⟩,
    ⟨some 11, .mov (.t 97), none, [], []⟩] false)))
def ic63_1 : IC := .loop [0, 3, 6, 7, 8, 11, 18, 19, 20] [100, 102, 103] ic63_1_b
def ic63_2_b : IC :=
  (.seq (.region [
    ⟨some 21, .bin .lss (.t 20) (.t 19), none, [], []⟩] false)
  (.seq (.cond (.t 21) .skip
  (.gmask [] [] (.exit 0)))
  (.seq (.block 1 (.seq (.region [
    ⟨some 22, .mov (.t 20), none, [], []⟩,
    ⟨some 23, .iaddr 4 (.t 18) (.t 20), none, [], []⟩,
    ⟨some 24, .load 4 true (.t 23), none, [], []⟩,
    ⟨some 8, .alloc 103 [.str ⟨#[]⟩, .int .i64 0, .int .i64 0, .int .i64 0], none, [103], []⟩,
    ⟨some 7, .mov (.t 22), none, [], []⟩,
    ⟨none, .store 4 (.t 8) (.t 24), none, [103], []⟩] false)
  (.seq (.block 2 (.seq (.region [
    ⟨some 26, .faddr 0 (.t 8), none, [], []⟩,
    ⟨some 27, .load 1 false (.t 26), none, [103], []⟩,
    ⟨some 28, .call none 65 [.t 27], none, [], []⟩,
    ⟨some 29, .un .not (.t 28), none, [], []⟩,
    ⟨some 25, .mov (.t 29), none, [], []⟩] false)
  (.cond (.t 25) (.seq (.region [
    ⟨some 30, .mov (.t 7), none, [], []⟩,
    ⟨some 4, .mov (.t 30), none, [], []⟩,
    ⟨some 5, .mov (.c (.int .i64 4)), none, [], []⟩] false)
  (.gmask [4, 5] [] .ret))
  (.seq (.region [
    ⟨some 32, .load 7 true (.t 3), none, [102], []⟩,
    ⟨some 33, .faddr 1 (.t 8), none, [], []⟩,
    ⟨some 34, .load 1 false (.t 33), none, [103], []⟩,
    ⟨some 35, .faddr 2 (.t 8), none, [], []⟩,
    ⟨some 36, .load 1 false (.t 35), none, [103], []⟩,
    ⟨some 37, .call none 68 [.t 32, .t 34, .t 36], none, [], []⟩,
    ⟨some 38, .un .not (.t 37), none, [], []⟩,
    ⟨some 31, .mov (.t 38), none, [], []⟩] false)
  (.cond (.t 31) (.seq (.region [
    ⟨some 39, .mov (.t 7), none, [], []⟩,
    ⟨some 4, .mov (.t 39), none, [], []⟩,
    ⟨some 5, .mov (.c (.int .i64 8)), none, [], []⟩] false)
  (.gmask [4, 5] [] .ret))
  .skip)))))
  (.seq (.region [
    ⟨some 40, .mov (.t 7), none, [], []⟩,
    ⟨some 41, .bin .sub (.t 40) (.c (.int .i64 1)), none, [], []⟩,
    ⟨some 9, .mov (.t 41), none, [], []⟩] false)
  (.seq (.block 3 (.gmask [0, 3, 6, 7, 8, 9, 18, 19, 20] [100, 102, 103] ic63_0))
  (.seq (.seq (.region [
    ⟨some 55, .mov (.t 9), none, [], []⟩,
    ⟨some 56, .bin .lss (.t 55) (.c (.int .i64 0)), none, [], []⟩,
    ⟨some 57, .mov (.t 56), none, [], []⟩,
    ⟨some 58, .faddr 3 (.t 8), some (57, true), [], []⟩,
    ⟨some 59, .load 1 false (.t 58), some (57, true), [103], []⟩,
    ⟨some 60, .bin .neq (.t 59) (.c (.int .i64 (-1))), some (57, true), [], []⟩,
    ⟨some 61, .pick (.t 57) (.t 60) (.c (.bool false)), none, [], []⟩] false)
  (.cond (.t 61) (.seq (.region [
    ⟨some 62, .mov (.t 7), none, [], []⟩,
    ⟨some 4, .mov (.t 62), none, [], []⟩,
    ⟨some 5, .mov (.c (.int .i64 6)), none, [], []⟩] false)
  (.gmask [4, 5] [] .ret))
  .skip))
  (.seq (.seq (.region [
    ⟨some 63, .faddr 3 (.t 8), none, [], []⟩,
    ⟨some 64, .load 1 false (.t 63), none, [103], []⟩,
    ⟨some 65, .bin .geq (.t 64) (.c (.int .i64 0)), none, [], []⟩] false)
  (.gpost [0, 3, 6, 7, 8, 18, 19, 20] [100, 102, 103] (.cond (.t 65) (.seq (.region [
    ⟨some 66, .mov (.t 0), none, [], []⟩,
    ⟨some 67, .faddr 3 (.t 8), none, [], []⟩,
    ⟨some 68, .load 1 false (.t 67), none, [103], []⟩,
    ⟨some 69, .iaddr 4 (.t 66) (.t 68), none, [], []⟩,
    ⟨some 70, .load 4 true (.t 69), none, [], []⟩,
    ⟨some 10, .alloc 104 [.str ⟨#[]⟩, .int .i64 0, .int .i64 0, .int .i64 0], none, [104], []⟩,
    ⟨none, .store 4 (.t 10) (.t 70), none, [104], []⟩] false)
  (.seq (.seq (.region [
    ⟨some 71, .faddr 1 (.t 8), none, [], []⟩,
    ⟨some 72, .load 1 false (.t 71), none, [103], []⟩,
    ⟨some 73, .faddr 1 (.t 10), none, [], []⟩,
    ⟨some 74, .load 1 false (.t 73), none, [104], []⟩,
    ⟨some 75, .bin .lss (.t 72) (.t 74), none, [], []⟩,
    ⟨some 76, .mov (.t 75), none, [], []⟩,
    ⟨some 77, .faddr 2 (.t 8), some (76, false), [], []⟩,
    ⟨some 78, .load 1 false (.t 77), some (76, false), [103], []⟩,
    ⟨some 79, .faddr 2 (.t 10), some (76, false), [], []⟩,
    ⟨some 80, .load 1 false (.t 79), some (76, false), [104], []⟩,
    ⟨some 81, .bin .gtr (.t 78) (.t 80), some (76, false), [], []⟩,
    ⟨some 82, .pick (.t 76) (.c (.bool true)) (.t 81), none, [], []⟩] false)
  (.cond (.t 82) (.seq (.region [
    ⟨some 83, .mov (.t 7), none, [], []⟩,
    ⟨some 4, .mov (.t 83), none, [], []⟩,
    ⟨some 5, .mov (.c (.int .i64 8)), none, [], []⟩] false)
  (.gmask [4, 5] [] .ret))
  .skip))
  (.region [
    ⟨some 84, .mov (.t 6), none, [], []⟩,
    ⟨some 85, .mov (.t 7), none, [], []⟩,
    ⟨some 86, .mov (.t 6), none, [], []⟩,
    ⟨some 87, .faddr 3 (.t 8), none, [], []⟩,
    ⟨some 88, .load 1 false (.t 87), none, [103], []⟩,
    ⟨some 89, .iaddr 1 (.t 86) (.t 88), none, [100], []⟩,
    ⟨some 90, .load 1 false (.t 89), none, [100], []⟩,
    ⟨some 91, .iaddr 1 (.t 84) (.t 85), none, [100], []⟩,
    ⟨none, .store 1 (.t 91) (.t 90), none, [100], []⟩] false)))
  .skip)))
  (.seq (.seq (.region [
    ⟨some 92, .mov (.t 7), none, [], []⟩,
    ⟨some 93, .bin .sub (.t 92) (.c (.int .i64 1)), none, [], []⟩,
    ⟨some 11, .mov (.t 93), none, [], []⟩] false)
  (.block 5 (.gmask [0, 3, 6, 7, 8, 11, 18, 19, 20] [100, 102, 103] ic63_1)))
  (.seq (.region [
    ⟨some 115, .mov (.t 6), none, [], []⟩,
    ⟨some 116, .mov (.t 7), none, [], []⟩,
    ⟨some 117, .iaddr 1 (.t 115) (.t 116), none, [100], []⟩,
    ⟨some 118, .load 1 false (.t 117), none, [100], []⟩,
    ⟨some 119, .bin .add (.t 118) (.c (.int .i64 1)), none, [], []⟩,
    ⟨some 120, .iaddr 1 (.t 115) (.t 116), none, [100], []⟩,
    ⟨none, .store 1 (.t 120) (.t 119), none, [100], []⟩] false)
  (.seq (.region [
    ⟨some 121, .mov (.t 6), none, [], []⟩,
    ⟨some 122, .mov (.t 7), none, [], []⟩,
    ⟨some 123, .iaddr 1 (.t 121) (.t 122), none, [100], []⟩,
    ⟨some 124, .load 1 false (.t 123), none, [100], []⟩,
    ⟨some 125, .bin .gtr (.t 124) (.c (.int .i64 40)), none, [], []⟩] false)
  (.cond (.t 125) (.seq (.region [
    ⟨some 126, .mov (.t 7), none, [], []⟩,
    ⟨some 4, .mov (.t 126), none, [], []⟩,
    ⟨some 5, .mov (.c (.int .i64 2)), none, [], []⟩] false)
  (.gmask [4, 5] [] .ret))
  .skip)))))))))))
  (.region [
    ⟨some 127, .bin .add (.t 20) (.c (.int .i64 1)), none, [], []⟩,
    ⟨some 20, .mov (.t 127), none, [], []⟩] false))))
def ic63_2 : IC := .loop [0, 3, 6, 18, 19, 20] [100, 102] ic63_2_b
/-- corpora/corporaref06.Nodes -/
def ic63 : IC :=
  (.seq (.region [
    ⟨some 3, .box 102 7 (.t 1), none, [102], []⟩,
    ⟨some 4, .mov (.c (.int .i64 0)), none, [], []⟩,
    ⟨some 5, .mov (.c (.int .i64 0)), none, [], []⟩] false)
  (.seq (.seq (.region [
    ⟨some 12, .mov (.t 0), none, [], []⟩,
    ⟨some 13, .len false (.t 12), none, [], []⟩,
    ⟨some 14, .bin .gtr (.t 13) (.c (.int .i64 2048)), none, [], []⟩] false)
  (.cond (.t 14) (.seq (.region [
    ⟨some 4, .mov (.c (.int .i64 0)), none, [], []⟩,
    ⟨some 5, .mov (.c (.int .i64 2)), none, [], []⟩] false)
  (.gmask [4, 5] [] .ret))
  .skip))
  (.seq (.region [
    ⟨some 15, .mov (.t 0), none, [], []⟩,
    ⟨some 16, .len false (.t 15), none, [], []⟩,
    ⟨some 17, .makeSl 100 1 8 (.int .i64 0) (.t 16) (.t 16), none, [100], []⟩,
    ⟨some 6, .mov (.t 17), none, [], []⟩] false)
  (.seq (.seq (.region [
    ⟨some 18, .mov (.t 0), none, [], []⟩,
    ⟨some 19, .len false (.t 18), none, [], []⟩,
    ⟨some 20, .mov (.c (.int .i64 0)), none, [], []⟩] false)
  (.block 0 (.gmask [0, 3, 6, 18, 19, 20] [100, 102] ic63_2)))
  (.seq (.region [
    ⟨some 4, .mov (.c (.int .i64 0)), none, [], []⟩,
    ⟨some 5, .mov (.c (.int .i64 0)), none, [], []⟩] false)
  (.gmask [4, 5] [] .ret))))))
def F63 : IFunc := ⟨2, 128, [.tmp 4, .tmp 5], ic63⟩

def ic64_0_b : IC :=
  (.seq (.region [
    ⟨some 39, .bin .lss (.t 38) (.t 37), none, [], []⟩] false)
  (.seq (.cond (.t 39) .skip
  (.gmask [] [] (.exit 0)))
  (.seq (.block 1 (.seq (.region [
    ⟨some 40, .mov (.t 38), none, [], []⟩,
    ⟨some 41, .iaddr 1 (.t 36) (.t 38), none, [], []⟩,
    ⟨some 42, .load 1 false (.t 41), none, [], []⟩,
    ⟨some 5, .mov (.t 40), none, [], []⟩,
    ⟨some 6, .mov (.t 42), none, [], []⟩] false)
  (.seq (.seq (.region [
    ⟨some 43, .mov (.t 6), none, [], []⟩,
    ⟨some 44, .bin .neq (.t 43) (.c (.int .i64 (-1))), none, [], [0]⟩,
    ⟨some 45, .mov (.t 44), none, [], [0, 1]⟩,
    ⟨some 46, .mov (.t 6), some (45, true), [], [0, 1, 2]⟩,
    ⟨some 47, .bin .lss (.t 46) (.c (.int .i64 0)), some (45, true), [], [0, 1, 2, 3]⟩,
    ⟨some 48, .mov (.t 47), some (45, true), [], [0, 1, 2, 3, 4]⟩,
    ⟨some 49, .mov (.t 6), some (48, false), [], [0, 1, 2, 3, 4, 5]⟩,
    ⟨some 50, .mov (.t 4), some (48, false), [], [0, 1, 2, 3, 4, 5]⟩,
    ⟨some 51, .bin .geq (.t 49) (.t 50), some (48, false), [], [0, 1, 2, 3, 4, 5, 6, 7]⟩,
    ⟨some 52, .pick (.t 48) (.c (.bool true)) (.t 51), some (45, true), [], [0, 1, 2, 3, 4, 5, 6, 7, 8]⟩,
    ⟨some 53, .mov (.t 52), some (45, true), [], [0, 1, 2, 3, 4, 5, 6, 7, 8, 9]⟩,
    ⟨some 54, .load 7 true (.t 1), some (53, false), [100], [0, 1, 2, 3, 4, 5, 6, 7, 8, 9, 10]⟩,
    ⟨some 55, .mov (.t 6), some (53, false), [], [0, 1, 2, 3, 4, 5, 6, 7, 8, 9, 10]⟩,
    ⟨some 56, .call none 70 [.t 54, .t 55], some (53, false), [], [0, 1, 2, 3, 4, 5, 6, 7, 8, 9, 10, 11, 12]⟩,
    ⟨some 57, .load 7 true (.t 1), some (53, false), [100], [0, 1, 2, 3, 4, 5, 6, 7, 8, 9, 10]⟩,
    ⟨some 58, .mov (.t 5), some (53, false), [], [0, 1, 2, 3, 4, 5, 6, 7, 8, 9, 10]⟩,
    ⟨some 59, .call none 70 [.t 57, .t 58], some (53, false), [], [0, 1, 2, 3, 4, 5, 6, 7, 8, 9, 10, 11, 12, 13, 14, 15]⟩,
    ⟨some 60, .bin .neq (.t 56) (.t 59), some (53, false), [], [0, 1, 2, 3, 4, 5, 6, 7, 8, 9, 10, 11, 12, 13, 14, 15, 16]⟩,
    ⟨some 61, .pick (.t 53) (.c (.bool true)) (.t 60), some (45, true), [], [0, 1, 2, 3, 4, 5, 6, 7, 8, 9, 10, 11, 12, 13, 14, 15, 16, 17]⟩,
    ⟨some 62, .pick (.t 45) (.t 61) (.c (.bool false)), none, [], [0, 1, 2, 3, 4, 5, 6, 7, 8, 9, 10, 11, 12, 13, 14, 15, 16, 17, 18]⟩] true)
  (.cond (.t 62) (.seq (.region [
    ⟨some 63, .mov (.t 5), none, [], []⟩,
    ⟨some 2, .mov (.t 63), none, [], []⟩,
    ⟨some 3, .mov (.c (.int .i64 8)), none, [], []⟩] false)
  (.gmask [2, 3] [] .ret))
  .skip))
  (.seq (.seq (.region [
    ⟨some 64, .faddr 6 (.t 1), none, [], []⟩,
    ⟨some 65, .load 1 false (.t 64), none, [100], []⟩,
    ⟨some 66, .mov (.t 5), none, [], []⟩,
    ⟨some 67, .iaddr 1 (.t 65) (.t 66), none, [], []⟩,
    ⟨some 68, .load 1 false (.t 67), none, [], []⟩,
    ⟨some 69, .bin .neq (.t 68) (.c (.str ⟨#[]⟩)), none, [], []⟩,
    ⟨some 70, .mov (.t 69), none, [], []⟩,
    ⟨some 71, .faddr 6 (.t 1), some (70, true), [], []⟩,
    ⟨some 72, .load 1 false (.t 71), some (70, true), [100], []⟩,
    ⟨some 73, .mov (.t 5), some (70, true), [], []⟩,
    ⟨some 74, .iaddr 1 (.t 72) (.t 73), some (70, true), [], []⟩,
    ⟨some 75, .load 1 false (.t 74), some (70, true), [], []⟩,
    ⟨some 76, .call none 65 [.t 75], some (70, true), [], []⟩,
    ⟨some 77, .un .not (.t 76), some (70, true), [], []⟩,
    ⟨some 78, .pick (.t 70) (.t 77) (.c (.bool false)), none, [], []⟩] false)
  (.cond (.t 78) (.seq (.region [
    ⟨some 79, .mov (.t 5), none, [], []⟩,
    ⟨some 2, .mov (.t 79), none, [], []⟩,
    ⟨some 3, .mov (.c (.int .i64 4)), none, [], []⟩] false)
  (.gmask [2, 3] [] .ret))
  .skip))
  (.seq (.region [
    ⟨some 80, .faddr 5 (.t 1), none, [], []⟩,
    ⟨some 81, .load 1 false (.t 80), none, [100], []⟩,
    ⟨some 82, .mov (.t 5), none, [], []⟩,
    ⟨some 83, .call none 71 [.t 81, .t 82], none, [], []⟩] false)
  (.cond (.t 83) (.seq (.region [
    ⟨some 84, .mov (.t 5), none, [], []⟩,
    ⟨some 2, .mov (.t 84), none, [], []⟩,
    ⟨some 3, .mov (.c (.int .i64 12)), none, [], []⟩] false)
  (.gmask [2, 3] [] .ret))
  .skip))))))
  (.region [
    ⟨some 85, .bin .add (.t 38) (.c (.int .i64 1)), none, [], []⟩,
    ⟨some 38, .mov (.t 85), none, [], []⟩] false))))
def ic64_0 : IC := .loop [1, 4, 36, 37, 38] [100] ic64_0_b
/-- corpora/corporaref06.heads -/
def ic64 : IC :=
  (.seq (.region [
    ⟨some 1, .box 100 7 (.t 0), none, [100], []⟩,
    ⟨some 2, .mov (.c (.int .i64 0)), none, [], []⟩,
    ⟨some 3, .mov (.c (.int .i64 0)), none, [], []⟩] false)
  (.seq (.region [
    ⟨some 7, .faddr 5 (.t 1), none, [], []⟩,
    ⟨some 8, .load 1 false (.t 7), none, [100], []⟩,
    ⟨some 9, .len false (.t 8), none, [], []⟩,
    ⟨some 4, .mov (.t 9), none, [], []⟩] false)
  (.seq (.seq (.region [
    ⟨some 10, .mov (.t 4), none, [], []⟩,
    ⟨some 11, .faddr 6 (.t 1), none, [], []⟩,
    ⟨some 12, .load 1 false (.t 11), none, [100], []⟩,
    ⟨some 13, .len false (.t 12), none, [], []⟩,
    ⟨some 14, .bin .neq (.t 10) (.t 13), none, [], []⟩,
    ⟨some 15, .mov (.t 14), none, [], []⟩,
    ⟨some 16, .mov (.t 4), some (15, false), [], []⟩,
    ⟨some 17, .bin .neq (.t 16) (.c (.int .i64 0)), some (15, false), [], []⟩,
    ⟨some 18, .mov (.t 17), some (15, false), [], []⟩,
    ⟨some 19, .mov (.t 4), some (18, true), [], []⟩,
    ⟨some 20, .faddr 1 (.t 1), some (18, true), [], []⟩,
    ⟨some 21, .load 1 false (.t 20), some (18, true), [100], []⟩,
    ⟨some 22, .len false (.t 21), some (18, true), [], []⟩,
    ⟨some 23, .bin .neq (.t 19) (.t 22), some (18, true), [], []⟩,
    ⟨some 24, .pick (.t 18) (.t 23) (.c (.bool false)), some (15, false), [], []⟩,
    ⟨some 25, .pick (.t 15) (.c (.bool true)) (.t 24), none, [], []⟩] false)
  (.cond (.t 25) (.seq (.region [
    ⟨some 2, .mov (.c (.int .i64 0)), none, [], []⟩,
    ⟨some 3, .mov (.c (.int .i64 15)), none, [], []⟩] false)
  (.gmask [2, 3] [] .ret))
  .skip))
  (.seq (.seq (.region [
    ⟨some 26, .mov (.t 4), none, [], []⟩,
    ⟨some 27, .bin .gtr (.t 26) (.c (.int .i64 0)), none, [], []⟩,
    ⟨some 28, .mov (.t 27), none, [], []⟩,
    ⟨some 29, .faddr 5 (.t 1), some (28, true), [], []⟩,
    ⟨some 30, .load 1 false (.t 29), some (28, true), [100], []⟩,
    ⟨some 31, .faddr 6 (.t 1), some (28, true), [], []⟩,
    ⟨some 32, .load 1 false (.t 31), some (28, true), [100], []⟩,
    ⟨some 33, .call none 69 [.t 30, .t 32], some (28, true), [], []⟩,
    ⟨some 34, .pick (.t 28) (.t 33) (.c (.bool false)), none, [], []⟩] false)
  (.cond (.t 34) (.seq (.region [
    ⟨some 2, .mov (.c (.int .i64 0)), none, [], []⟩,
    ⟨some 3, .mov (.c (.int .i64 14)), none, [], []⟩] false)
  (.gmask [2, 3] [] .ret))
  .skip))
  (.seq (.seq (.region [
    ⟨some 35, .faddr 5 (.t 1), none, [], []⟩,
    ⟨some 36, .load 1 false (.t 35), none, [100], []⟩,
    ⟨some 37, .len false (.t 36), none, [], []⟩,
    ⟨some 38, .mov (.c (.int .i64 0)), none, [], []⟩] false)
  (.block 0 (.gmask [1, 4, 36, 37, 38] [100] ic64_0)))
  (.seq (.region [
    ⟨some 2, .mov (.c (.int .i64 0)), none, [], []⟩,
    ⟨some 3, .mov (.c (.int .i64 0)), none, [], []⟩] false)
  (.gmask [2, 3] [] .ret)))))))
def F64 : IFunc := ⟨1, 86, [.tmp 2, .tmp 3], ic64⟩

def ic65_0_b : IC :=
  (.seq (.seq (.region [
    ⟨some 18, .mov (.t 3), none, [], []⟩,
    ⟨some 19, .mov (.t 0), none, [], []⟩,
    ⟨some 20, .len true (.t 19), none, [], []⟩,
    ⟨some 21, .bin .lss (.t 18) (.t 20), none, [], []⟩] false)
  (.cond (.t 21) .skip
  (.gmask [] [] (.exit 0))))
  (.seq (.block 1 (.seq (.region [
    ⟨some 24, .mov (.t 0), none, [], []⟩,
    ⟨some 25, .mov (.t 3), none, [], []⟩,
    ⟨some 26, .index (.t 24) (.t 25), none, [], []⟩,
    ⟨some 27, .call none 73 [.t 26], none, [], []⟩,
    ⟨some 28, .un .not (.t 27), none, [], []⟩] false)
  (.cond (.t 28) (.seq (.region [
    ⟨some 2, .mov (.c (.bool false)), none, [], []⟩] false)
  (.gmask [2] [] .ret))
  .skip)))
  (.region [
    ⟨some 22, .mov (.t 3), none, [], []⟩,
    ⟨some 23, .bin .add (.t 22) (.c (.int .i64 1)), none, [], []⟩,
    ⟨some 3, .mov (.t 23), none, [], []⟩] false)))
def ic65_0 : IC := .loop [0, 3] [] ic65_0_b
/-- corpora/corporaref04.ValidName -/
def ic65 : IC :=
  (.seq (.region [
    ⟨some 2, .mov (.c (.bool false)), none, [], []⟩] false)
  (.seq (.seq (.region [
    ⟨some 4, .mov (.t 0), none, [], []⟩,
    ⟨some 5, .len true (.t 4), none, [], []⟩,
    ⟨some 6, .bin .lss (.t 5) (.c (.int .i64 1)), none, [], []⟩,
    ⟨some 7, .mov (.t 6), none, [], []⟩,
    ⟨some 8, .mov (.t 0), some (7, false), [], []⟩,
    ⟨some 9, .len true (.t 8), some (7, false), [], []⟩,
    ⟨some 10, .bin .gtr (.t 9) (.c (.int .i64 32)), some (7, false), [], []⟩,
    ⟨some 11, .pick (.t 7) (.c (.bool true)) (.t 10), none, [], []⟩,
    ⟨some 12, .mov (.t 11), none, [], []⟩,
    ⟨some 13, .mov (.t 0), some (12, false), [], []⟩,
    ⟨some 14, .index (.t 13) (.c (.int .i64 0)), some (12, false), [], []⟩,
    ⟨some 15, .call none 72 [.t 14], some (12, false), [], []⟩,
    ⟨some 16, .un .not (.t 15), some (12, false), [], []⟩,
    ⟨some 17, .pick (.t 12) (.c (.bool true)) (.t 16), none, [], []⟩] false)
  (.cond (.t 17) (.seq (.region [
    ⟨some 2, .mov (.c (.bool false)), none, [], []⟩] false)
  (.gmask [2] [] .ret))
  .skip))
  (.seq (.seq (.region [
    ⟨some 3, .mov (.c (.int .i64 1)), none, [], []⟩] false)
  (.block 0 (.gmask [0, 3] [] ic65_0)))
  (.seq (.region [
    ⟨some 2, .mov (.c (.bool true)), none, [], []⟩] false)
  (.gmask [2] [] .ret)))))
def F65 : IFunc := ⟨1, 29, [.tmp 2], ic65⟩

/-- corpora/corporaref06.Value -/
def ic66 : IC :=
  (.seq (.region [
    ⟨some 2, .box 100 2 (.t 0), none, [100], []⟩,
    ⟨some 4, .mov (.c (.int .i64 0)), none, [], []⟩] false)
  (.seq (.seq (.region [
    ⟨some 7, .faddr 1 (.t 2), none, [], []⟩,
    ⟨some 8, .load 1 false (.t 7), none, [100], []⟩] false)
  (.cond (.t 8) (.seq (.region [
    ⟨some 10, .mov (.t 1), none, [], []⟩,
    ⟨some 11, .call none 74 [.t 10], none, [], []⟩,
    ⟨some 9, .mov (.t 11), none, [], []⟩,
    ⟨some 12, .extract (.t 9) 0, none, [], []⟩,
    ⟨some 13, .extract (.t 9) 1, none, [], []⟩,
    ⟨some 5, .mov (.t 12), none, [], []⟩,
    ⟨some 6, .mov (.t 13), none, [], []⟩] false)
  (.seq (.region [
    ⟨some 14, .mov (.t 6), none, [], []⟩,
    ⟨some 4, .mov (.t 14), none, [], []⟩] false)
  (.gmask [4] [] .ret)))
  .skip))
  (.seq (.region [
    ⟨some 15, .mov (.t 1), none, [], []⟩,
    ⟨some 16, .call none 75 [.t 15], none, [], []⟩,
    ⟨some 4, .mov (.t 16), none, [], []⟩] false)
  (.gmask [4] [] .ret))))
def F66 : IFunc := ⟨2, 17, [.tmp 4], ic66⟩

def ic67_0_b : IC :=
  (.seq (.region [
    ⟨some 12, .bin .lss (.t 11) (.t 10), none, [], []⟩] false)
  (.seq (.cond (.t 12) .skip
  (.gmask [] [] (.exit 0)))
  (.seq (.block 1 (.seq (.region [
    ⟨some 13, .mov (.t 11), none, [], []⟩,
    ⟨some 14, .iaddr 2 (.t 9) (.t 11), none, [], []⟩,
    ⟨some 15, .load 2 true (.t 14), none, [], []⟩,
    ⟨some 4, .alloc 100 [.str ⟨#[]⟩, .str ⟨#[]⟩], none, [100], []⟩,
    ⟨some 3, .mov (.t 13), none, [], []⟩,
    ⟨none, .store 2 (.t 4) (.t 15), none, [100], []⟩] false)
  (.seq (.block 2 (.seq (.region [
    ⟨some 17, .faddr 0 (.t 4), none, [], []⟩,
    ⟨some 18, .load 1 false (.t 17), none, [100], []⟩,
    ⟨some 19, .call none 65 [.t 18], none, [], []⟩,
    ⟨some 20, .un .not (.t 19), none, [], []⟩,
    ⟨some 16, .mov (.t 20), none, [], []⟩] false)
  (.cond (.t 16) (.seq (.region [
    ⟨some 2, .mov (.c (.int .i64 4)), none, [], []⟩] false)
  (.gmask [2] [] .ret))
  (.seq (.region [
    ⟨some 22, .mov (.t 3), none, [], []⟩,
    ⟨some 23, .bin .gtr (.t 22) (.c (.int .i64 0)), none, [], [0]⟩,
    ⟨some 24, .mov (.t 23), none, [], [0, 1]⟩,
    ⟨some 25, .mov (.t 0), some (24, true), [], [0, 1, 2]⟩,
    ⟨some 26, .mov (.t 3), some (24, true), [], [0, 1, 2]⟩,
    ⟨some 27, .bin .sub (.t 26) (.c (.int .i64 1)), some (24, true), [], [0, 1, 2, 4]⟩,
    ⟨some 28, .iaddr 2 (.t 25) (.t 27), some (24, true), [], [0, 1, 2, 3, 4, 5]⟩,
    ⟨some 29, .faddr 0 (.t 28), some (24, true), [], [0, 1, 2, 3, 4, 5, 6]⟩,
    ⟨some 30, .load 1 false (.t 29), some (24, true), [], [0, 1, 2, 3, 4, 5, 6, 7]⟩,
    ⟨some 31, .faddr 0 (.t 4), some (24, true), [], [0, 1, 2]⟩,
    ⟨some 32, .load 1 false (.t 31), some (24, true), [100], [0, 1, 2, 9]⟩,
    ⟨some 33, .bin .geq (.t 30) (.t 32), some (24, true), [], [0, 1, 2, 3, 4, 5, 6, 7, 8, 9, 10]⟩,
    ⟨some 34, .pick (.t 24) (.t 33) (.c (.bool false)), none, [], [0, 1, 2, 3, 4, 5, 6, 7, 8, 9, 10, 11]⟩,
    ⟨some 21, .mov (.t 34), none, [], [0, 1, 2, 3, 4, 5, 6, 7, 8, 9, 10, 11, 12]⟩] true)
  (.cond (.t 21) (.seq (.region [
    ⟨some 2, .mov (.c (.int .i64 6)), none, [], []⟩] false)
  (.gmask [2] [] .ret))
  .skip)))))
  (.seq (.region [
    ⟨some 35, .faddr 1 (.t 4), none, [], []⟩,
    ⟨some 36, .load 1 false (.t 35), none, [100], []⟩,
    ⟨some 37, .call none 75 [.t 36], none, [], []⟩,
    ⟨some 5, .mov (.t 37), none, [], []⟩] false)
  (.seq (.region [
    ⟨some 38, .mov (.t 5), none, [], []⟩,
    ⟨some 39, .bin .neq (.t 38) (.c (.int .i64 0)), none, [], []⟩] false)
  (.cond (.t 39) (.seq (.region [
    ⟨some 40, .mov (.t 5), none, [], []⟩,
    ⟨some 2, .mov (.t 40), none, [], []⟩] false)
  (.gmask [2] [] .ret))
  .skip))))))
  (.region [
    ⟨some 41, .bin .add (.t 11) (.c (.int .i64 1)), none, [], []⟩,
    ⟨some 11, .mov (.t 41), none, [], []⟩] false))))
def ic67_0 : IC := .loop [0, 9, 10, 11] [] ic67_0_b
/-- corpora/corporaref06.pairs -/
def ic67 : IC :=
  (.seq (.region [
    ⟨some 2, .mov (.c (.int .i64 0)), none, [], []⟩] false)
  (.seq (.seq (.region [
    ⟨some 6, .mov (.t 0), none, [], []⟩,
    ⟨some 7, .len false (.t 6), none, [], []⟩,
    ⟨some 8, .bin .gtr (.t 7) (.c (.int .i64 8)), none, [], []⟩] false)
  (.cond (.t 8) (.seq (.region [
    ⟨some 2, .mov (.c (.int .i64 2)), none, [], []⟩] false)
  (.gmask [2] [] .ret))
  .skip))
  (.seq (.seq (.region [
    ⟨some 9, .mov (.t 0), none, [], []⟩,
    ⟨some 10, .len false (.t 9), none, [], []⟩,
    ⟨some 11, .mov (.c (.int .i64 0)), none, [], []⟩] false)
  (.block 0 (.gmask [0, 9, 10, 11] [] ic67_0)))
  (.seq (.region [
    ⟨some 2, .mov (.c (.int .i64 0)), none, [], []⟩] false)
  (.gmask [2] [] .ret)))))
def F67 : IFunc := ⟨1, 42, [.tmp 2], ic67⟩

def ic68_0_b : IC :=
  (.seq (.region [
    ⟨some 13, .bin .lss (.t 12) (.t 11), none, [], []⟩] false)
  (.seq (.cond (.t 13) .skip
  (.gmask [] [] (.exit 0)))
  (.seq (.block 1 (.seq (.region [
    ⟨some 14, .iaddr 4 (.t 10) (.t 12), none, [], []⟩,
    ⟨some 15, .load 4 true (.t 14), none, [], []⟩,
    ⟨some 8, .alloc 101 [.str ⟨#[]⟩, .int .i64 0, .int .i64 0, .nil], none, [101], []⟩,
    ⟨none, .store 4 (.t 8) (.t 15), none, [101], []⟩] false)
  (.seq (.region [
    ⟨some 16, .faddr 1 (.t 8), none, [], []⟩,
    ⟨some 17, .load 1 false (.t 16), none, [101], []⟩,
    ⟨some 18, .mov (.t 1), none, [], []⟩,
    ⟨some 19, .bin .leq (.t 17) (.t 18), none, [], []⟩,
    ⟨some 20, .mov (.t 19), none, [], []⟩,
    ⟨some 21, .mov (.t 1), some (20, true), [], []⟩,
    ⟨some 22, .mov (.t 2), some (20, true), [], []⟩,
    ⟨some 23, .bin .lss (.t 21) (.t 22), some (20, true), [], []⟩,
    ⟨some 24, .pick (.t 20) (.t 23) (.c (.bool false)), none, [], []⟩,
    ⟨some 25, .mov (.t 24), none, [], []⟩,
    ⟨some 26, .mov (.t 2), some (25, true), [], []⟩,
    ⟨some 27, .faddr 2 (.t 8), some (25, true), [], []⟩,
    ⟨some 28, .load 1 false (.t 27), some (25, true), [101], []⟩,
    ⟨some 29, .bin .leq (.t 26) (.t 28), some (25, true), [], []⟩,
    ⟨some 30, .pick (.t 25) (.t 29) (.c (.bool false)), none, [], []⟩] false)
  (.cond (.t 30) (.seq (.region [
    ⟨some 6, .mov (.c (.bool true)), none, [], []⟩] false)
  (.gmask [6] [] .ret))
  .skip))))
  (.region [
    ⟨some 31, .bin .add (.t 12) (.c (.int .i64 1)), none, [], []⟩,
    ⟨some 12, .mov (.t 31), none, [], []⟩] false))))
def ic68_0 : IC := .loop [1, 2, 10, 11, 12] [] ic68_0_b
/-- corpora/corporaref06.within -/
def ic68 : IC :=
  (.seq (.region [
    ⟨some 3, .box 100 7 (.t 0), none, [100], []⟩,
    ⟨some 6, .mov (.c (.bool false)), none, [], []⟩] false)
  (.seq (.seq (.region [
    ⟨some 9, .faddr 2 (.t 3), none, [], []⟩,
    ⟨some 10, .load 1 false (.t 9), none, [100], []⟩,
    ⟨some 11, .len false (.t 10), none, [], []⟩,
    ⟨some 12, .mov (.c (.int .i64 0)), none, [], []⟩] false)
  (.block 0 (.gmask [1, 2, 10, 11, 12] [] ic68_0)))
  (.seq (.region [
    ⟨some 6, .mov (.c (.bool false)), none, [], []⟩] false)
  (.gmask [6] [] .ret))))
def F68 : IFunc := ⟨3, 32, [.tmp 6], ic68⟩

def ic69_0_b : IC :=
  (.seq (.region [
    ⟨some 9, .bin .lss (.t 8) (.t 7), none, [], []⟩] false)
  (.seq (.cond (.t 9) .skip
  (.gmask [] [] (.exit 0)))
  (.seq (.block 1 (.seq (.region [
    ⟨some 10, .mov (.t 8), none, [], []⟩,
    ⟨some 5, .mov (.t 10), none, [], []⟩] false)
  (.seq (.region [
    ⟨some 11, .mov (.t 0), none, [], []⟩,
    ⟨some 12, .mov (.t 5), none, [], []⟩,
    ⟨some 13, .iaddr 1 (.t 11) (.t 12), none, [], []⟩,
    ⟨some 14, .load 1 false (.t 13), none, [], []⟩,
    ⟨some 15, .bin .neq (.t 14) (.c (.int .i64 (-1))), none, [], []⟩,
    ⟨some 16, .mov (.t 15), none, [], []⟩,
    ⟨some 17, .mov (.t 1), some (16, false), [], []⟩,
    ⟨some 18, .mov (.t 5), some (16, false), [], []⟩,
    ⟨some 19, .iaddr 1 (.t 17) (.t 18), some (16, false), [], []⟩,
    ⟨some 20, .load 1 false (.t 19), some (16, false), [], []⟩,
    ⟨some 21, .bin .neq (.t 20) (.c (.str ⟨#[]⟩)), some (16, false), [], []⟩,
    ⟨some 22, .pick (.t 16) (.c (.bool true)) (.t 21), none, [], []⟩] false)
  (.cond (.t 22) (.seq (.region [
    ⟨some 4, .mov (.c (.bool false)), none, [], []⟩] false)
  (.gmask [4] [] .ret))
  .skip))))
  (.region [
    ⟨some 23, .bin .add (.t 8) (.c (.int .i64 1)), none, [], []⟩,
    ⟨some 8, .mov (.t 23), none, [], []⟩] false))))
def ic69_0 : IC := .loop [0, 1, 7, 8] [] ic69_0_b
/-- corpora/corporaref06.bare -/
def ic69 : IC :=
  (.seq (.region [
    ⟨some 4, .mov (.c (.bool false)), none, [], []⟩] false)
  (.seq (.seq (.region [
    ⟨some 6, .mov (.t 0), none, [], []⟩,
    ⟨some 7, .len false (.t 6), none, [], []⟩,
    ⟨some 8, .mov (.c (.int .i64 0)), none, [], []⟩] false)
  (.block 0 (.gmask [0, 1, 7, 8] [] ic69_0)))
  (.seq (.region [
    ⟨some 4, .mov (.c (.bool true)), none, [], []⟩] false)
  (.gmask [4] [] .ret))))
def F69 : IFunc := ⟨2, 24, [.tmp 4], ic69⟩

def ic70_0_b : IC :=
  (.seq (.region [
    ⟨some 11, .bin .lss (.t 10) (.t 9), none, [], []⟩] false)
  (.seq (.cond (.t 11) .skip
  (.gmask [] [] (.exit 0)))
  (.seq (.block 1 (.seq (.region [
    ⟨some 12, .mov (.t 10), none, [], []⟩,
    ⟨some 13, .iaddr 4 (.t 8) (.t 10), none, [], []⟩,
    ⟨some 14, .load 4 true (.t 13), none, [], []⟩,
    ⟨some 6, .alloc 101 [.str ⟨#[]⟩, .int .i64 0, .int .i64 0, .nil], none, [101], []⟩,
    ⟨some 5, .mov (.t 12), none, [], []⟩,
    ⟨none, .store 4 (.t 6) (.t 14), none, [101], []⟩] false)
  (.seq (.region [
    ⟨some 15, .faddr 1 (.t 6), none, [], []⟩,
    ⟨some 16, .load 1 false (.t 15), none, [101], []⟩,
    ⟨some 17, .mov (.t 1), none, [], []⟩,
    ⟨some 18, .bin .leq (.t 16) (.t 17), none, [], []⟩,
    ⟨some 19, .mov (.t 18), none, [], []⟩,
    ⟨some 20, .mov (.t 1), some (19, true), [], []⟩,
    ⟨some 21, .faddr 2 (.t 6), some (19, true), [], []⟩,
    ⟨some 22, .load 1 false (.t 21), some (19, true), [101], []⟩,
    ⟨some 23, .bin .lss (.t 20) (.t 22), some (19, true), [], []⟩,
    ⟨some 24, .pick (.t 19) (.t 23) (.c (.bool false)), none, [], []⟩] false)
  (.cond (.t 24) (.seq (.region [
    ⟨some 25, .mov (.t 5), none, [], []⟩,
    ⟨some 4, .mov (.t 25), none, [], []⟩] false)
  (.gmask [4] [] .ret))
  .skip))))
  (.region [
    ⟨some 26, .bin .add (.t 10) (.c (.int .i64 1)), none, [], []⟩,
    ⟨some 10, .mov (.t 26), none, [], []⟩] false))))
def ic70_0 : IC := .loop [1, 8, 9, 10] [] ic70_0_b
/-- corpora/corporaref06.TextAt -/
def ic70 : IC :=
  (.seq (.region [
    ⟨some 2, .box 100 7 (.t 0), none, [100], []⟩,
    ⟨some 4, .mov (.c (.int .i64 0)), none, [], []⟩] false)
  (.seq (.seq (.region [
    ⟨some 7, .faddr 2 (.t 2), none, [], []⟩,
    ⟨some 8, .load 1 false (.t 7), none, [100], []⟩,
    ⟨some 9, .len false (.t 8), none, [], []⟩,
    ⟨some 10, .mov (.c (.int .i64 0)), none, [], []⟩] false)
  (.block 0 (.gmask [1, 8, 9, 10] [] ic70_0)))
  (.seq (.region [
    ⟨some 4, .mov (.c (.int .i64 (-1))), none, [], []⟩] false)
  (.gmask [4] [] .ret))))
def F70 : IFunc := ⟨2, 27, [.tmp 4], ic70⟩

def ic71_0_b : IC :=
  (.seq (.region [
    ⟨some 10, .bin .lss (.t 9) (.t 8), none, [], []⟩] false)
  (.seq (.cond (.t 10) .skip
  (.gmask [] [] (.exit 0)))
  (.seq (.block 1 (.seq (.region [
    ⟨some 11, .mov (.t 0), none, [], []⟩,
    ⟨some 12, .mov (.t 5), none, [], []⟩,
    ⟨some 13, .iaddr 1 (.t 11) (.t 12), none, [], []⟩,
    ⟨some 14, .load 1 false (.t 13), none, [], []⟩,
    ⟨some 5, .mov (.t 14), none, [], []⟩] false)
  (.seq (.seq (.region [
    ⟨some 15, .mov (.t 5), none, [], []⟩,
    ⟨some 16, .bin .lss (.t 15) (.c (.int .i64 0)), none, [], []⟩,
    ⟨some 17, .mov (.t 16), none, [], []⟩,
    ⟨some 18, .mov (.t 5), some (17, false), [], []⟩,
    ⟨some 19, .mov (.t 0), some (17, false), [], []⟩,
    ⟨some 20, .len false (.t 19), some (17, false), [], []⟩,
    ⟨some 21, .bin .geq (.t 18) (.t 20), some (17, false), [], []⟩,
    ⟨some 22, .pick (.t 17) (.c (.bool true)) (.t 21), none, [], []⟩] false)
  (.cond (.t 22) (.seq (.region [
    ⟨some 4, .mov (.c (.bool false)), none, [], []⟩] false)
  (.gmask [4] [] .ret))
  .skip))
  (.seq (.region [
    ⟨some 23, .mov (.t 5), none, [], []⟩,
    ⟨some 24, .mov (.t 1), none, [], []⟩,
    ⟨some 25, .bin .eql (.t 23) (.t 24), none, [], []⟩] false)
  (.cond (.t 25) (.seq (.region [
    ⟨some 4, .mov (.c (.bool true)), none, [], []⟩] false)
  (.gmask [4] [] .ret))
  .skip)))))
  (.region [
    ⟨some 26, .bin .add (.t 9) (.c (.int .i64 1)), none, [], []⟩,
    ⟨some 9, .mov (.t 26), none, [], []⟩] false))))
def ic71_0 : IC := .loop [0, 1, 5, 8, 9] [] ic71_0_b
/-- corpora/corporaref06.cyclic -/
def ic71 : IC :=
  (.seq (.region [
    ⟨some 4, .mov (.c (.bool false)), none, [], []⟩] false)
  (.seq (.region [
    ⟨some 6, .mov (.t 1), none, [], []⟩,
    ⟨some 5, .mov (.t 6), none, [], []⟩] false)
  (.seq (.seq (.region [
    ⟨some 7, .mov (.t 0), none, [], []⟩,
    ⟨some 8, .len false (.t 7), none, [], []⟩,
    ⟨some 9, .mov (.c (.int .i64 0)), none, [], []⟩] false)
  (.block 0 (.gmask [0, 1, 5, 8, 9] [] ic71_0)))
  (.seq (.region [
    ⟨some 4, .mov (.c (.bool false)), none, [], []⟩] false)
  (.gmask [4] [] .ret)))))
def F71 : IFunc := ⟨2, 27, [.tmp 4], ic71⟩

/-- corpora/corporaref04.First -/
def ic72 : IC :=
  (.seq (.region [
    ⟨some 2, .mov (.c (.bool false)), none, [], []⟩] false)
  (.seq (.region [
    ⟨some 3, .mov (.t 0), none, [], []⟩,
    ⟨some 4, .bin .eql (.t 3) (.c (.int .u8 95)), none, [], []⟩,
    ⟨some 5, .mov (.t 4), none, [], []⟩,
    ⟨some 6, .mov (.t 0), some (5, false), [], []⟩,
    ⟨some 7, .bin .geq (.t 6) (.c (.int .u8 65)), some (5, false), [], []⟩,
    ⟨some 8, .mov (.t 7), some (5, false), [], []⟩,
    ⟨some 9, .mov (.t 0), some (8, true), [], []⟩,
    ⟨some 10, .bin .leq (.t 9) (.c (.int .u8 90)), some (8, true), [], []⟩,
    ⟨some 11, .pick (.t 8) (.t 10) (.c (.bool false)), some (5, false), [], []⟩,
    ⟨some 12, .pick (.t 5) (.c (.bool true)) (.t 11), none, [], []⟩,
    ⟨some 13, .mov (.t 12), none, [], []⟩,
    ⟨some 14, .mov (.t 0), some (13, false), [], []⟩,
    ⟨some 15, .bin .geq (.t 14) (.c (.int .u8 97)), some (13, false), [], []⟩,
    ⟨some 16, .mov (.t 15), some (13, false), [], []⟩,
    ⟨some 17, .mov (.t 0), some (16, true), [], []⟩,
    ⟨some 18, .bin .leq (.t 17) (.c (.int .u8 122)), some (16, true), [], []⟩,
    ⟨some 19, .pick (.t 16) (.t 18) (.c (.bool false)), some (13, false), [], []⟩,
    ⟨some 20, .pick (.t 13) (.c (.bool true)) (.t 19), none, [], []⟩,
    ⟨some 2, .mov (.t 20), none, [], []⟩] false)
  (.gmask [2] [] .ret)))
def F72 : IFunc := ⟨1, 21, [.tmp 2], ic72⟩

/-- corpora/corporaref04.Next -/
def ic73 : IC :=
  (.seq (.region [
    ⟨some 2, .mov (.c (.bool false)), none, [], []⟩] false)
  (.seq (.region [
    ⟨some 3, .mov (.t 0), none, [], []⟩,
    ⟨some 4, .call none 72 [.t 3], none, [], []⟩,
    ⟨some 5, .mov (.t 4), none, [], []⟩,
    ⟨some 6, .mov (.t 0), some (5, false), [], []⟩,
    ⟨some 7, .bin .geq (.t 6) (.c (.int .u8 48)), some (5, false), [], []⟩,
    ⟨some 8, .mov (.t 7), some (5, false), [], []⟩,
    ⟨some 9, .mov (.t 0), some (8, true), [], []⟩,
    ⟨some 10, .bin .leq (.t 9) (.c (.int .u8 57)), some (8, true), [], []⟩,
    ⟨some 11, .pick (.t 8) (.t 10) (.c (.bool false)), some (5, false), [], []⟩,
    ⟨some 12, .pick (.t 5) (.c (.bool true)) (.t 11), none, [], []⟩,
    ⟨some 13, .mov (.t 12), none, [], []⟩,
    ⟨some 14, .mov (.t 0), some (13, false), [], []⟩,
    ⟨some 15, .bin .eql (.t 14) (.c (.int .u8 45)), some (13, false), [], []⟩,
    ⟨some 16, .pick (.t 13) (.c (.bool true)) (.t 15), none, [], []⟩,
    ⟨some 2, .mov (.t 16), none, [], []⟩] false)
  (.gmask [2] [] .ret)))
def F73 : IFunc := ⟨1, 17, [.tmp 2], ic73⟩

def ic74_0_b : IC :=
  (.seq (.seq (.region [
    ⟨some 31, .mov (.t 8), none, [], []⟩,
    ⟨some 32, .mov (.t 5), none, [], []⟩,
    ⟨some 33, .bin .lss (.t 31) (.t 32), none, [], []⟩] false)
  (.cond (.t 33) .skip
  (.gmask [6] [100] (.exit 0))))
  (.seq (.gpost [0, 5, 6, 7, 8] [100] (.block 1 (.seq (.seq (.region [
    ⟨some 36, .mov (.t 0), none, [], []⟩,
    ⟨some 37, .mov (.t 8), none, [], []⟩,
    ⟨some 38, .index (.t 36) (.t 37), none, [], []⟩,
    ⟨some 39, .bin .neq (.t 38) (.c (.int .u8 124)), none, [], []⟩] false)
  (.cond (.t 39) (.gmask [0, 5, 6, 7, 8] [100] (.exit 1))
  .skip))
  (.seq (.seq (.region [
    ⟨some 40, .mov (.t 8), none, [], []⟩,
    ⟨some 41, .mov (.t 7), none, [], []⟩,
    ⟨some 42, .bin .eql (.t 40) (.t 41), none, [], []⟩] false)
  (.cond (.t 42) (.seq (.region [
    ⟨some 2, .movp (.c (.nil)), none, [], []⟩,
    ⟨some 3, .mov (.c (.int .i64 3)), none, [], []⟩] false)
  (.gmask [2, 3] [100] .ret))
  .skip))
  (.seq (.region [
    ⟨some 43, .mov (.t 6), none, [], []⟩,
    ⟨some 44, .mov (.t 0), none, [], []⟩,
    ⟨some 45, .mov (.t 7), none, [], []⟩,
    ⟨some 46, .mov (.t 8), none, [], []⟩,
    ⟨some 47, .slice true 1 (.t 44) (some (.t 45)) (some (.t 46)), none, [], []⟩,
    ⟨some 48, .buildSl none 1 (.str ⟨#[]⟩) 1 [(0, .t 47)], none, [], []⟩,
    ⟨some 49, .app none 1 16 (.t 43) (.t 48), none, [100], []⟩,
    ⟨some 6, .mov (.t 49), none, [], []⟩] false)
  (.region [
    ⟨some 50, .mov (.t 8), none, [], []⟩,
    ⟨some 51, .bin .add (.t 50) (.c (.int .i64 1)), none, [], []⟩,
    ⟨some 7, .mov (.t 51), none, [], []⟩] false))))))
  (.region [
    ⟨some 34, .mov (.t 8), none, [], []⟩,
    ⟨some 35, .bin .add (.t 34) (.c (.int .i64 1)), none, [], []⟩,
    ⟨some 8, .mov (.t 35), none, [], []⟩] false)))
def ic74_0 : IC := .loop [0, 5, 6, 7, 8] [100] ic74_0_b
def ic74_1_b : IC :=
  (.seq (.seq (.region [
    ⟨some 52, .mov (.t 9), none, [], []⟩,
    ⟨some 53, .mov (.t 6), none, [], []⟩,
    ⟨some 54, .len false (.t 53), none, [100], []⟩,
    ⟨some 55, .bin .lss (.t 52) (.t 54), none, [], []⟩] false)
  (.cond (.t 55) .skip
  (.gmask [6] [100] (.exit 2))))
  (.seq (.block 3 (.seq (.region [
    ⟨some 58, .mov (.t 6), none, [], []⟩,
    ⟨some 59, .mov (.t 9), none, [], []⟩,
    ⟨some 60, .bin .sub (.t 59) (.c (.int .i64 1)), none, [], [1]⟩,
    ⟨some 61, .iaddr 1 (.t 58) (.t 60), none, [100], [0, 1, 2]⟩,
    ⟨some 62, .load 1 false (.t 61), none, [100], [0, 1, 2, 3]⟩,
    ⟨some 63, .mov (.t 6), none, [], []⟩,
    ⟨some 64, .mov (.t 9), none, [], []⟩,
    ⟨some 65, .iaddr 1 (.t 63) (.t 64), none, [100], [5, 6]⟩,
    ⟨some 66, .load 1 false (.t 65), none, [100], [5, 6, 7]⟩,
    ⟨some 67, .bin .geq (.t 62) (.t 66), none, [], [0, 1, 2, 3, 4, 5, 6, 7, 8]⟩] true)
  (.cond (.t 67) (.seq (.region [
    ⟨some 2, .movp (.c (.nil)), none, [], []⟩,
    ⟨some 3, .mov (.c (.int .i64 6)), none, [], []⟩] false)
  (.gmask [2, 3] [100] .ret))
  .skip)))
  (.region [
    ⟨some 56, .mov (.t 9), none, [], []⟩,
    ⟨some 57, .bin .add (.t 56) (.c (.int .i64 1)), none, [], []⟩,
    ⟨some 9, .mov (.t 57), none, [], []⟩] false)))
def ic74_1 : IC := .loop [6, 9] [100] ic74_1_b
/-- corpora/corporaref05.Parse -/
def ic74 : IC :=
  (.seq (.region [
    ⟨some 2, .movp (.c (.nil)), none, [], []⟩,
    ⟨some 3, .mov (.c (.int .i64 0)), none, [], []⟩] false)
  (.seq (.seq (.region [
    ⟨some 10, .mov (.t 0), none, [], []⟩,
    ⟨some 11, .call none 75 [.t 10], none, [], []⟩,
    ⟨some 4, .mov (.t 11), none, [], []⟩] false)
  (.seq (.region [
    ⟨some 12, .mov (.t 4), none, [], []⟩,
    ⟨some 13, .bin .neq (.t 12) (.c (.int .i64 0)), none, [], []⟩] false)
  (.cond (.t 13) (.seq (.region [
    ⟨some 14, .mov (.t 4), none, [], []⟩,
    ⟨some 2, .movp (.c (.nil)), none, [], []⟩,
    ⟨some 3, .mov (.t 14), none, [], []⟩] false)
  (.gmask [2, 3] [100] .ret))
  .skip)))
  (.seq (.region [
    ⟨some 15, .mov (.t 0), none, [], []⟩,
    ⟨some 16, .len true (.t 15), none, [], []⟩,
    ⟨some 5, .mov (.t 16), none, [], []⟩] false)
  (.seq (.seq (.region [
    ⟨some 17, .mov (.t 5), none, [], []⟩,
    ⟨some 18, .bin .eql (.t 17) (.c (.int .i64 0)), none, [], []⟩,
    ⟨some 19, .mov (.t 18), none, [], []⟩,
    ⟨some 20, .mov (.t 0), some (19, false), [], []⟩,
    ⟨some 21, .index (.t 20) (.c (.int .i64 0)), some (19, false), [], []⟩,
    ⟨some 22, .bin .neq (.t 21) (.c (.int .u8 124)), some (19, false), [], []⟩,
    ⟨some 23, .pick (.t 19) (.c (.bool true)) (.t 22), none, [], []⟩,
    ⟨some 24, .mov (.t 23), none, [], []⟩,
    ⟨some 25, .mov (.t 0), some (24, false), [], []⟩,
    ⟨some 26, .mov (.t 5), some (24, false), [], []⟩,
    ⟨some 27, .bin .sub (.t 26) (.c (.int .i64 1)), some (24, false), [], []⟩,
    ⟨some 28, .index (.t 25) (.t 27), some (24, false), [], []⟩,
    ⟨some 29, .bin .neq (.t 28) (.c (.int .u8 124)), some (24, false), [], []⟩,
    ⟨some 30, .pick (.t 24) (.c (.bool true)) (.t 29), none, [], []⟩] false)
  (.cond (.t 30) (.seq (.region [
    ⟨some 2, .movp (.c (.nil)), none, [], []⟩,
    ⟨some 3, .mov (.c (.int .i64 3)), none, [], []⟩] false)
  (.gmask [2, 3] [100] .ret))
  .skip))
  (.seq (.region [
    ⟨some 6, .nilarr 100 1, none, [100], []⟩] false)
  (.seq (.region [
    ⟨some 7, .mov (.c (.int .i64 1)), none, [], []⟩] false)
  (.seq (.seq (.region [
    ⟨some 8, .mov (.c (.int .i64 1)), none, [], []⟩] false)
  (.block 0 (.gmask [0, 5, 6, 7, 8] [100] ic74_0)))
  (.seq (.seq (.region [
    ⟨some 9, .mov (.c (.int .i64 1)), none, [], []⟩] false)
  (.block 2 (.gmask [6, 9] [100] ic74_1)))
  (.seq (.region [
    ⟨some 68, .mov (.t 6), none, [], []⟩,
    ⟨some 2, .mov (.t 68), none, [], []⟩,
    ⟨some 3, .mov (.c (.int .i64 0)), none, [], []⟩] false)
  (.gmask [2, 3] [100] .ret))))))))))
def F74 : IFunc := ⟨1, 69, [.tmp 2, .tmp 3], ic74⟩

def ic75_0_b : IC :=
  (.seq (.region [
    ⟨some 15, .bin .lss (.t 14) (.t 13), none, [], []⟩] false)
  (.seq (.cond (.t 15) .skip
  (.gmask [] [] (.exit 0)))
  (.seq (.block 1 (.seq (.region [
    ⟨some 16, .iaddr 1 (.t 12) (.t 14), none, [], []⟩,
    ⟨some 17, .load 1 false (.t 16), none, [], []⟩,
    ⟨some 4, .mov (.t 17), none, [], []⟩] false)
  (.seq (.region [
    ⟨some 18, .mov (.t 4), none, [], []⟩,
    ⟨some 19, .bin .lss (.t 18) (.c (.int .u8 32)), none, [], []⟩,
    ⟨some 20, .mov (.t 19), none, [], []⟩,
    ⟨some 21, .mov (.t 4), some (20, false), [], []⟩,
    ⟨some 22, .bin .eql (.t 21) (.c (.int .u8 127)), some (20, false), [], []⟩,
    ⟨some 23, .pick (.t 20) (.c (.bool true)) (.t 22), none, [], []⟩] false)
  (.cond (.t 23) (.seq (.region [
    ⟨some 2, .mov (.c (.int .i64 14)), none, [], []⟩] false)
  (.gmask [2] [] .ret))
  .skip))))
  (.region [
    ⟨some 24, .bin .add (.t 14) (.c (.int .i64 1)), none, [], []⟩,
    ⟨some 14, .mov (.t 24), none, [], []⟩] false))))
def ic75_0 : IC := .loop [12, 13, 14] [] ic75_0_b
/-- corpora/corporaref04.ValidValue -/
def ic75 : IC :=
  (.seq (.region [
    ⟨some 2, .mov (.c (.int .i64 0)), none, [], []⟩] false)
  (.seq (.seq (.region [
    ⟨some 5, .mov (.t 0), none, [], []⟩,
    ⟨some 6, .len true (.t 5), none, [], []⟩,
    ⟨some 7, .bin .gtr (.t 6) (.c (.int .i64 120)), none, [], []⟩] false)
  (.cond (.t 7) (.seq (.region [
    ⟨some 2, .mov (.c (.int .i64 2)), none, [], []⟩] false)
  (.gmask [2] [] .ret))
  .skip))
  (.seq (.seq (.region [
    ⟨some 8, .mov (.t 0), none, [], []⟩,
    ⟨some 9, .call none 76 [.t 8], none, [], []⟩,
    ⟨some 10, .un .not (.t 9), none, [], []⟩] false)
  (.cond (.t 10) (.seq (.region [
    ⟨some 2, .mov (.c (.int .i64 7)), none, [], []⟩] false)
  (.gmask [2] [] .ret))
  .skip))
  (.seq (.seq (.region [
    ⟨some 11, .mov (.t 0), none, [], []⟩,
    ⟨some 12, .conv .strBytes (.t 11), none, [], []⟩,
    ⟨some 13, .len false (.t 12), none, [], []⟩,
    ⟨some 14, .mov (.c (.int .i64 0)), none, [], []⟩] false)
  (.block 0 (.gmask [12, 13, 14] [] ic75_0)))
  (.seq (.region [
    ⟨some 2, .mov (.c (.int .i64 0)), none, [], []⟩] false)
  (.gmask [2] [] .ret))))))
def F75 : IFunc := ⟨1, 25, [.tmp 2], ic75⟩

def ic76_0_b : IC :=
  (.seq (.region [
    ⟨some 9, .bin .lss (.t 8) (.t 7), none, [], []⟩] false)
  (.seq (.cond (.t 9) .skip
  (.gmask [] [] (.exit 0)))
  (.seq (.block 1 (.seq (.region [
    ⟨some 10, .iaddr 4 (.t 6) (.t 8), none, [], []⟩,
    ⟨some 11, .load 4 true (.t 10), none, [], []⟩,
    ⟨some 4, .alloc 100 [.int .i32 0, .int .i64 0, .int .i64 0, .bool false], none, [100], []⟩,
    ⟨none, .store 4 (.t 4) (.t 11), none, [100], []⟩] false)
  (.seq (.region [
    ⟨some 12, .faddr 3 (.t 4), none, [], []⟩,
    ⟨some 13, .load 1 false (.t 12), none, [100], []⟩,
    ⟨some 14, .un .not (.t 13), none, [], []⟩] false)
  (.cond (.t 14) (.seq (.region [
    ⟨some 2, .mov (.c (.bool false)), none, [], []⟩] false)
  (.gmask [2] [] .ret))
  .skip))))
  (.region [
    ⟨some 15, .bin .add (.t 8) (.c (.int .i64 1)), none, [], []⟩,
    ⟨some 8, .mov (.t 15), none, [], []⟩] false))))
def ic76_0 : IC := .loop [6, 7, 8] [] ic76_0_b
/-- corpora/corporaref01.Valid -/
def ic76 : IC :=
  (.seq (.region [
    ⟨some 2, .mov (.c (.bool false)), none, [], []⟩] false)
  (.seq (.seq (.region [
    ⟨some 5, .mov (.t 0), none, [], []⟩,
    ⟨some 6, .call none 77 [.t 5], none, [], []⟩,
    ⟨some 7, .len false (.t 6), none, [], []⟩,
    ⟨some 8, .mov (.c (.int .i64 0)), none, [], []⟩] false)
  (.block 0 (.gmask [6, 7, 8] [] ic76_0)))
  (.seq (.region [
    ⟨some 2, .mov (.c (.bool true)), none, [], []⟩] false)
  (.gmask [2] [] .ret))))
def F76 : IFunc := ⟨1, 16, [.tmp 2], ic76⟩

def ic77_0_b : IC :=
  (.seq (.region [
    ⟨some 9, .next (.t 8), none, [101], []⟩,
    ⟨some 10, .extract (.t 9) 0, none, [], []⟩] false)
  (.seq (.cond (.t 10) .skip
  (.gmask [0, 3] [100] (.exit 0)))
  (.block 1 (.seq (.region [
    ⟨some 11, .extract (.t 9) 1, none, [], []⟩,
    ⟨some 12, .extract (.t 9) 2, none, [], []⟩,
    ⟨some 4, .mov (.t 11), none, [], []⟩,
    ⟨some 5, .mov (.t 12), none, [], []⟩] false)
  (.seq (.seq (.region [
    ⟨some 13, .mov (.t 3), none, [], []⟩,
    ⟨some 14, .len false (.t 13), none, [100], []⟩,
    ⟨some 15, .bin .gtr (.t 14) (.c (.int .i64 0)), none, [], []⟩] false)
  (.gpost [0, 3, 4, 5, 8] [100, 101] (.cond (.t 15) (.region [
    ⟨some 16, .mov (.t 3), none, [], []⟩,
    ⟨some 17, .mov (.t 3), none, [], []⟩,
    ⟨some 18, .len false (.t 17), none, [100], []⟩,
    ⟨some 19, .bin .sub (.t 18) (.c (.int .i64 1)), none, [], []⟩,
    ⟨some 20, .mov (.t 4), none, [], []⟩,
    ⟨some 21, .mov (.t 3), none, [], []⟩,
    ⟨some 22, .mov (.t 3), none, [], []⟩,
    ⟨some 23, .len false (.t 22), none, [100], []⟩,
    ⟨some 24, .bin .sub (.t 23) (.c (.int .i64 1)), none, [], []⟩,
    ⟨some 25, .iaddr 4 (.t 21) (.t 24), none, [100], []⟩,
    ⟨some 26, .faddr 1 (.t 25), none, [100], []⟩,
    ⟨some 27, .load 1 false (.t 26), none, [100], []⟩,
    ⟨some 28, .bin .sub (.t 20) (.t 27), none, [], []⟩,
    ⟨some 29, .iaddr 4 (.t 16) (.t 19), none, [100], []⟩,
    ⟨some 30, .faddr 2 (.t 29), none, [100], []⟩,
    ⟨none, .store 1 (.t 30) (.t 28), none, [100], []⟩] false)
  .skip)))
  (.region [
    ⟨some 31, .mov (.t 3), none, [], []⟩,
    ⟨some 32, .mov (.t 5), none, [], []⟩,
    ⟨some 33, .mov (.t 4), none, [], []⟩,
    ⟨some 34, .build [.int .i32 0, .int .i64 0, .int .i64 0, .bool false] [(0, 1, .t 32), (1, 1, .t 33)], none, [], []⟩,
    ⟨some 35, .buildSl none 4 (.agg [.int .i32 0, .int .i64 0, .int .i64 0, .bool false]) 1 [(0, .t 34)], none, [], []⟩,
    ⟨some 36, .app none 4 32 (.t 31) (.t 35), none, [100], []⟩,
    ⟨some 3, .mov (.t 36), none, [], []⟩] false))))))
def ic77_0 : IC := .loop [0, 3, 8] [100, 101] ic77_0_b
def ic77_1_b : IC :=
  (.seq (.region [
    ⟨some 59, .bin .lss (.t 58) (.t 57), none, [], []⟩] false)
  (.seq (.cond (.t 59) .skip
  (.gmask [3] [100] (.exit 2)))
  (.seq (.block 3 (.seq (.region [
    ⟨some 60, .mov (.t 58), none, [], []⟩,
    ⟨some 6, .mov (.t 60), none, [], []⟩] false)
  (.region [
    ⟨some 61, .mov (.t 3), none, [], []⟩,
    ⟨some 62, .mov (.t 6), none, [], []⟩,
    ⟨some 63, .mov (.t 3), none, [], []⟩,
    ⟨some 64, .mov (.t 6), none, [], []⟩,
    ⟨some 65, .iaddr 4 (.t 63) (.t 64), none, [100], []⟩,
    ⟨some 66, .faddr 0 (.t 65), none, [100], []⟩,
    ⟨some 67, .load 1 false (.t 66), none, [100], []⟩,
    ⟨some 68, .bin .neq (.t 67) (.c (.int .i32 65533)), none, [], []⟩,
    ⟨some 69, .mov (.t 68), none, [], []⟩,
    ⟨some 70, .mov (.t 3), some (69, false), [], []⟩,
    ⟨some 71, .mov (.t 6), some (69, false), [], []⟩,
    ⟨some 72, .iaddr 4 (.t 70) (.t 71), some (69, false), [100], []⟩,
    ⟨some 73, .faddr 2 (.t 72), some (69, false), [100], []⟩,
    ⟨some 74, .load 1 false (.t 73), some (69, false), [100], []⟩,
    ⟨some 75, .bin .eql (.t 74) (.c (.int .i64 3)), some (69, false), [], []⟩,
    ⟨some 76, .pick (.t 69) (.c (.bool true)) (.t 75), none, [], []⟩,
    ⟨some 77, .iaddr 4 (.t 61) (.t 62), none, [100], []⟩,
    ⟨some 78, .faddr 3 (.t 77), none, [100], []⟩,
    ⟨none, .store 1 (.t 78) (.t 76), none, [100], []⟩] false)))
  (.region [
    ⟨some 79, .bin .add (.t 58) (.c (.int .i64 1)), none, [], []⟩,
    ⟨some 58, .mov (.t 79), none, [], []⟩] false))))
def ic77_1 : IC := .loop [3, 57, 58] [100] ic77_1_b
/-- corpora/corporaref01.Units -/
def ic77 : IC :=
  (.seq (.region [
    ⟨some 2, .movp (.c (.nil)), none, [], []⟩] false)
  (.seq (.region [
    ⟨some 3, .nilarr 100 4, none, [100], []⟩] false)
  (.seq (.seq (.region [
    ⟨some 7, .mov (.t 0), none, [], []⟩,
    ⟨some 8, .range 101 (.t 7), none, [101], []⟩] false)
  (.block 0 (.gmask [0, 3, 8] [100, 101] ic77_0)))
  (.seq (.seq (.region [
    ⟨some 37, .mov (.t 3), none, [], []⟩,
    ⟨some 38, .len false (.t 37), none, [100], []⟩,
    ⟨some 39, .bin .gtr (.t 38) (.c (.int .i64 0)), none, [], []⟩] false)
  (.gpost [3] [100] (.cond (.t 39) (.region [
    ⟨some 40, .mov (.t 3), none, [], []⟩,
    ⟨some 41, .mov (.t 3), none, [], []⟩,
    ⟨some 42, .len false (.t 41), none, [100], []⟩,
    ⟨some 43, .bin .sub (.t 42) (.c (.int .i64 1)), none, [], []⟩,
    ⟨some 44, .mov (.t 0), none, [], []⟩,
    ⟨some 45, .len true (.t 44), none, [], []⟩,
    ⟨some 46, .mov (.t 3), none, [], []⟩,
    ⟨some 47, .mov (.t 3), none, [], []⟩,
    ⟨some 48, .len false (.t 47), none, [100], []⟩,
    ⟨some 49, .bin .sub (.t 48) (.c (.int .i64 1)), none, [], []⟩,
    ⟨some 50, .iaddr 4 (.t 46) (.t 49), none, [100], []⟩,
    ⟨some 51, .faddr 1 (.t 50), none, [100], []⟩,
    ⟨some 52, .load 1 false (.t 51), none, [100], []⟩,
    ⟨some 53, .bin .sub (.t 45) (.t 52), none, [], []⟩,
    ⟨some 54, .iaddr 4 (.t 40) (.t 43), none, [100], []⟩,
    ⟨some 55, .faddr 2 (.t 54), none, [100], []⟩,
    ⟨none, .store 1 (.t 55) (.t 53), none, [100], []⟩] false)
  .skip)))
  (.seq (.seq (.region [
    ⟨some 56, .mov (.t 3), none, [], []⟩,
    ⟨some 57, .len false (.t 56), none, [100], []⟩,
    ⟨some 58, .mov (.c (.int .i64 0)), none, [], []⟩] false)
  (.block 2 (.gmask [3, 57, 58] [100] ic77_1)))
  (.seq (.region [
    ⟨some 80, .mov (.t 3), none, [], []⟩,
    ⟨some 2, .mov (.t 80), none, [], []⟩] false)
  (.gmask [2] [100] .ret)))))))
def F77 : IFunc := ⟨1, 81, [.tmp 2], ic77⟩


def fns : List (Nat × IFunc) := [(3, F3), (4, F4), (5, F5), (6, F6), (7, F7), (8, F8), (9, F9), (10, F10), (11, F11), (12, F12), (13, F13), (14, F14), (15, F15), (16, F16), (17, F17), (18, F18), (19, F19), (20, F20), (21, F21), (22, F22), (23, F23), (24, F24), (25, F25), (26, F26), (27, F27), (28, F28), (29, F29), (30, F30), (31, F31), (32, F32), (33, F33), (34, F34), (35, F35), (36, F36), (37, F37), (38, F38), (39, F39), (40, F40), (41, F41), (42, F42), (43, F43), (44, F44), (45, F45), (46, F46), (47, F47), (48, F48), (49, F49), (50, F50), (51, F51), (52, F52), (53, F53), (54, F54), (55, F55), (56, F56), (57, F57), (58, F58), (59, F59), (60, F60), (61, F61), (62, F62), (63, F63), (64, F64), (65, F65), (66, F66), (67, F67), (68, F68), (69, F69), (70, F70), (71, F71), (72, F72), (73, F73), (74, F74), (75, F75), (76, F76), (77, F77)]

def find (f : Nat) : List (Nat × IFunc) → Option IFunc
  | [] => none
  | (g, F) :: l => if f = g then some F else find f l

def prog (f : Nat) : Option IFunc := find f fns

end Go.Ab.Prog
