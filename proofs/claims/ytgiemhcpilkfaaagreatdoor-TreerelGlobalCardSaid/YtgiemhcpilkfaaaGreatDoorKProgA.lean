/- The annotated copies of the functions, as a program of my own printed them (gen.py), and the evaluator's program. -/
import Derived.Test.YtgiemhcpilkfaaaGreatDoorK0

namespace Go.Ab.Prog
open Go.Ab
set_option maxRecDepth 100000


def ic5_0_b : IC :=
  (.seq (.region [
    ⟨some 29, .bin .lss (.t 28) (.t 27), none, [], []⟩] false)
  (.seq (.cond (.t 29) .skip
  (.gmask [] [] (.exit 0)))
  (.seq (.block 1 (.seq (.region [
    ⟨some 30, .iaddr 3 (.t 26) (.t 28), none, [], []⟩,
    ⟨some 31, .load 3 true (.t 30), none, [], []⟩,
    ⟨some 10, .alloc 102 [.int .i64 0, .int .i64 0, .nil], none, [102], []⟩,
    ⟨none, .store 3 (.t 10) (.t 31), none, [102], []⟩] false)
  (.seq (.region [
    ⟨some 32, .load 7 true (.t 8), none, [101], []⟩,
    ⟨some 33, .mov (.t 1), none, [], []⟩,
    ⟨some 34, .mov (.t 1), none, [], []⟩,
    ⟨some 35, .mov (.t 2), none, [], []⟩,
    ⟨some 36, .bin .add (.t 34) (.t 35), none, [], [2, 3]⟩,
    ⟨some 37, .build [.int .i64 0, .str ⟨#[]⟩, .str ⟨#[]⟩, .str ⟨#[]⟩, .str ⟨#[]⟩, .str ⟨#[]⟩, .bool false, .int .i64 0, .int .i64 0, .nil, .nil] [(0, 1, .c (.int .i64 4)), (1, 1, .c (.str ⟨#[120]⟩)), (2, 1, .c (.str ⟨#[121]⟩)), (7, 1, .t 33), (8, 1, .t 36)], none, [], [1, 2, 3, 4]⟩,
    ⟨some 38, .call none 12 [], none, [], []⟩,
    ⟨some 39, .load 3 true (.t 10), none, [102], []⟩,
    ⟨some 40, .call none 14 [.t 32, .t 37, .t 38, .t 39], none, [], [0, 1, 2, 3, 4, 5, 6, 7]⟩,
    ⟨some 11, .mov (.t 40), none, [], [0, 1, 2, 3, 4, 5, 6, 7, 8]⟩] true)
  (.seq (.region [
    ⟨some 41, .load 7 true (.t 8), none, [101], []⟩,
    ⟨some 42, .mov (.t 1), none, [], []⟩,
    ⟨some 43, .un .neg (.t 42), none, [], [1]⟩,
    ⟨some 44, .mov (.t 2), none, [], []⟩,
    ⟨some 45, .bin .sub (.t 43) (.t 44), none, [], [1, 2, 3]⟩,
    ⟨some 46, .mov (.t 1), none, [], []⟩,
    ⟨some 47, .un .neg (.t 46), none, [], [5]⟩,
    ⟨some 48, .build [.int .i64 0, .str ⟨#[]⟩, .str ⟨#[]⟩, .str ⟨#[]⟩, .str ⟨#[]⟩, .str ⟨#[]⟩, .bool false, .int .i64 0, .int .i64 0, .nil, .nil] [(0, 1, .c (.int .i64 4)), (1, 1, .c (.str ⟨#[121]⟩)), (2, 1, .c (.str ⟨#[120]⟩)), (7, 1, .t 45), (8, 1, .t 47)], none, [], [1, 2, 3, 4, 5, 6]⟩,
    ⟨some 49, .call none 12 [], none, [], []⟩,
    ⟨some 50, .load 3 true (.t 10), none, [102], []⟩,
    ⟨some 51, .call none 14 [.t 41, .t 48, .t 49, .t 50], none, [], [0, 1, 2, 3, 4, 5, 6, 7, 8, 9]⟩,
    ⟨some 12, .mov (.t 51), none, [], [0, 1, 2, 3, 4, 5, 6, 7, 8, 9, 10]⟩] true)
  (.seq (.region [
    ⟨some 52, .load 7 true (.t 8), none, [101], []⟩,
    ⟨some 53, .build [.int .i64 0, .str ⟨#[]⟩, .str ⟨#[]⟩, .str ⟨#[]⟩, .str ⟨#[]⟩, .str ⟨#[]⟩, .bool false, .int .i64 0, .int .i64 0, .nil, .nil] [(0, 1, .c (.int .i64 3)), (1, 1, .c (.str ⟨#[120]⟩)), (3, 1, .c (.str ⟨#[119, 111, 114, 100]⟩)), (2, 1, .c (.str ⟨#[121]⟩)), (4, 1, .c (.str ⟨#[116, 97, 103]⟩))], none, [], []⟩,
    ⟨some 54, .call none 12 [], none, [], []⟩,
    ⟨some 55, .load 3 true (.t 10), none, [102], []⟩,
    ⟨some 56, .call none 14 [.t 52, .t 53, .t 54, .t 55], none, [], [0, 1, 2, 3]⟩,
    ⟨some 13, .mov (.t 56), none, [], [0, 1, 2, 3, 4]⟩] true)
  (.seq (.region [
    ⟨some 57, .load 7 true (.t 8), none, [101], []⟩,
    ⟨some 58, .build [.int .i64 0, .str ⟨#[]⟩, .str ⟨#[]⟩, .str ⟨#[]⟩, .str ⟨#[]⟩, .str ⟨#[]⟩, .bool false, .int .i64 0, .int .i64 0, .nil, .nil] [(0, 1, .c (.int .i64 3)), (1, 1, .c (.str ⟨#[121]⟩)), (3, 1, .c (.str ⟨#[116, 97, 103]⟩)), (2, 1, .c (.str ⟨#[120]⟩)), (4, 1, .c (.str ⟨#[119, 111, 114, 100]⟩))], none, [], []⟩,
    ⟨some 59, .call none 12 [], none, [], []⟩,
    ⟨some 60, .load 3 true (.t 10), none, [102], []⟩,
    ⟨some 61, .call none 14 [.t 57, .t 58, .t 59, .t 60], none, [], [0, 1, 2, 3]⟩,
    ⟨some 14, .mov (.t 61), none, [], [0, 1, 2, 3, 4]⟩] true)
  (.seq (.region [
    ⟨some 62, .mov (.t 11), none, [], []⟩,
    ⟨some 63, .mov (.t 12), none, [], []⟩,
    ⟨some 64, .eqB true (.t 62) (.t 63), none, [], []⟩,
    ⟨some 65, .mov (.t 64), none, [], []⟩,
    ⟨some 66, .mov (.t 13), some (65, false), [], []⟩,
    ⟨some 67, .mov (.t 14), some (65, false), [], []⟩,
    ⟨some 68, .eqB true (.t 66) (.t 67), some (65, false), [], []⟩,
    ⟨some 69, .pick (.t 65) (.c (.bool true)) (.t 68), none, [], []⟩] false)
  (.cond (.t 69) (.seq (.region [
    ⟨some 6, .mov (.c (.bool false)), none, [], []⟩] false)
  (.gmask [6] [] .ret))
  .skip))))))))
  (.region [
    ⟨some 70, .bin .add (.t 28) (.c (.int .i64 1)), none, [], []⟩,
    ⟨some 28, .mov (.t 70), none, [], []⟩] false))))
def ic5_0 : IC := .loop [1, 2, 8, 26, 27, 28] [101] ic5_0_b
/-- corpora/corporalaw26.GlobalOrder -/
def ic5 : IC :=
  (.seq (.region [
    ⟨some 6, .mov (.c (.bool false)), none, [], []⟩] false)
  (.seq (.region [
    ⟨some 15, .mov (.t 0), none, [], []⟩,
    ⟨some 16, .call (some 100) 9 [.t 15], none, [100], []⟩,
    ⟨some 7, .mov (.t 16), none, [], []⟩] false)
  (.seq (.region [
    ⟨some 17, .mov (.t 7), none, [], []⟩,
    ⟨some 18, .call none 10 [.t 17, .c (.int .i64 6)], none, [100], []⟩,
    ⟨some 8, .alloc 101 [.nil, .nil, .nil, .nil, .nil, .nil, .nil], none, [101], []⟩,
    ⟨none, .store 7 (.t 8) (.t 18), none, [101], []⟩] false)
  (.seq (.region [
    ⟨some 19, .mov (.t 1), none, [], []⟩,
    ⟨some 20, .call none 17 [.t 19, .c (.int .i64 9)], none, [], []⟩,
    ⟨some 21, .bin .sub (.t 20) (.c (.int .i64 4)), none, [], []⟩,
    ⟨some 22, .mov (.t 2), none, [], []⟩,
    ⟨some 23, .call none 17 [.t 22, .c (.int .i64 5)], none, [], []⟩,
    ⟨some 1, .mov (.t 21), none, [], []⟩,
    ⟨some 2, .mov (.t 23), none, [], []⟩] false)
  (.seq (.seq (.region [
    ⟨some 24, .mov (.t 7), none, [], []⟩,
    ⟨some 25, .load 7 true (.t 8), none, [101], []⟩,
    ⟨some 26, .call none 13 [.t 24, .t 25, .c (.int .i64 2), .c (.int .i64 6)], none, [100], []⟩,
    ⟨some 27, .len false (.t 26), none, [], []⟩,
    ⟨some 28, .mov (.c (.int .i64 0)), none, [], []⟩] false)
  (.block 0 (.gmask [1, 2, 8, 26, 27, 28] [101] ic5_0)))
  (.seq (.region [
    ⟨some 71, .call none 16 [], none, [], []⟩,
    ⟨some 6, .mov (.t 71), none, [], []⟩] false)
  (.gmask [6] [] .ret)))))))
def F5 : IFunc := ⟨3, 72, [.tmp 6], ic5, none⟩

def ic8_0_b : IC :=
  (.seq (.region [
    ⟨some 49, .bin .lss (.t 48) (.t 47), none, [], []⟩] false)
  (.seq (.cond (.t 49) .skip
  (.gmask [1, 2, 7, 8, 9, 10, 11] [101, 102] (.exit 0)))
  (.seq (.block 1 (.seq (.region [
    ⟨some 50, .iaddr 1 (.t 46) (.t 48), none, [], []⟩,
    ⟨some 51, .load 1 false (.t 50), none, [], []⟩,
    ⟨some 13, .mov (.t 51), none, [], []⟩] false)
  (.region [
    ⟨some 52, .mov (.t 11), none, [], []⟩,
    ⟨some 53, .mov (.t 52), none, [], []⟩,
    ⟨some 54, .mov (.t 13), some (53, false), [], []⟩,
    ⟨some 55, .mov (.t 2), some (53, false), [], []⟩,
    ⟨some 56, .bin .eql (.t 54) (.t 55), some (53, false), [], []⟩,
    ⟨some 57, .pick (.t 53) (.c (.bool true)) (.t 56), none, [], []⟩,
    ⟨some 11, .mov (.t 57), none, [], []⟩] false)))
  (.region [
    ⟨some 58, .bin .add (.t 48) (.c (.int .i64 1)), none, [], []⟩,
    ⟨some 48, .mov (.t 58), none, [], []⟩] false))))
def ic8_0 : IC := .loop [1, 2, 7, 8, 9, 10, 11, 46, 47, 48] [101, 102] ic8_0_b
/-- corpora/corporalaw29.TreerelGlobal -/
def ic8 : IC :=
  (.seq (.region [
    ⟨some 6, .mov (.c (.bool false)), none, [], []⟩] false)
  (.seq (.region [
    ⟨some 22, .mov (.t 0), none, [], []⟩,
    ⟨some 23, .call (some 100) 9 [.t 22], none, [100], []⟩,
    ⟨some 24, .call none 10 [.t 23, .c (.int .i64 6)], none, [100], []⟩,
    ⟨some 7, .alloc 101 [.nil, .nil, .nil, .nil, .nil, .nil, .nil], none, [101], []⟩,
    ⟨none, .store 7 (.t 7) (.t 24), none, [101], []⟩] false)
  (.seq (.region [
    ⟨some 25, .mov (.t 1), none, [], []⟩,
    ⟨some 26, .faddr 1 (.t 7), none, [], []⟩,
    ⟨some 27, .load 1 false (.t 26), none, [101], [1]⟩,
    ⟨some 28, .len false (.t 27), none, [], [1, 2]⟩,
    ⟨some 29, .call none 17 [.t 25, .t 28], none, [], [0, 1, 2, 3]⟩,
    ⟨some 30, .mov (.t 2), none, [], []⟩,
    ⟨some 31, .faddr 1 (.t 7), none, [], []⟩,
    ⟨some 32, .load 1 false (.t 31), none, [101], [6]⟩,
    ⟨some 33, .len false (.t 32), none, [], [6, 7]⟩,
    ⟨some 34, .call none 17 [.t 30, .t 33], none, [], [0, 1, 2, 3, 4, 5, 6, 7, 8]⟩,
    ⟨some 1, .mov (.t 29), none, [], [0, 1, 2, 3, 4, 5, 6, 7, 8, 9]⟩,
    ⟨some 2, .mov (.t 34), none, [], [0, 1, 2, 3, 4, 5, 6, 7, 8, 9, 10]⟩] true)
  (.seq (.region [
    ⟨some 35, .buildSl none 1 (.str ⟨#[]⟩) 2 [(0, .c (.str ⟨#[120]⟩)), (1, .c (.str ⟨#[121]⟩))], none, [], []⟩,
    ⟨some 8, .mov (.t 35), none, [], []⟩] false)
  (.seq (.region [
    ⟨some 36, .mov (.t 1), none, [], []⟩,
    ⟨some 37, .mov (.t 1), none, [], []⟩,
    ⟨some 38, .bin .add (.t 37) (.c (.int .i64 1)), none, [], []⟩,
    ⟨some 39, .mov (.t 1), none, [], []⟩,
    ⟨some 40, .mov (.t 2), none, [], []⟩,
    ⟨some 41, .buildSl none 1 (.int .i64 0) 2 [(0, .t 39), (1, .t 40)], none, [], []⟩,
    ⟨some 42, .build [.int .i64 0, .int .i64 0, .nil] [(0, 1, .t 36), (1, 1, .t 38), (2, 1, .t 41)], none, [], []⟩,
    ⟨some 9, .alloc 102 [.int .i64 0, .int .i64 0, .nil], none, [102], []⟩,
    ⟨none, .store 3 (.t 9) (.t 42), none, [102], []⟩] false)
  (.seq (.region [
    ⟨some 43, .load 7 true (.t 7), none, [101], []⟩,
    ⟨some 44, .mov (.t 1), none, [], []⟩,
    ⟨some 45, .call none 21 [.t 43, .t 44], none, [], []⟩,
    ⟨some 10, .mov (.t 45), none, [], []⟩] false)
  (.seq (.region [
    ⟨some 11, .mov (.c (.bool false)), none, [], []⟩] false)
  (.seq (.seq (.region [
    ⟨some 46, .mov (.t 10), none, [], []⟩,
    ⟨some 47, .len false (.t 46), none, [], []⟩,
    ⟨some 48, .mov (.c (.int .i64 0)), none, [], []⟩] false)
  (.block 0 (.gmask [1, 2, 7, 8, 9, 10, 11, 46, 47, 48] [101, 102] ic8_0)))
  (.seq (.region [
    ⟨some 60, .load 7 true (.t 7), none, [101], []⟩,
    ⟨some 61, .mov (.t 1), none, [], []⟩,
    ⟨some 62, .mov (.t 2), none, [], []⟩,
    ⟨some 63, .call none 22 [.t 60, .t 61, .t 62], none, [], []⟩,
    ⟨some 59, .mov (.t 63), none, [], []⟩,
    ⟨some 64, .extract (.t 59) 0, none, [], []⟩,
    ⟨some 65, .extract (.t 59) 1, none, [], []⟩,
    ⟨some 14, .mov (.t 64), none, [], []⟩,
    ⟨some 15, .mov (.t 65), none, [], []⟩] false)
  (.seq (.region [
    ⟨some 66, .load 7 true (.t 7), none, [101], []⟩,
    ⟨some 67, .build [.int .i64 0, .str ⟨#[]⟩, .str ⟨#[]⟩, .str ⟨#[]⟩, .str ⟨#[]⟩, .str ⟨#[]⟩, .bool false, .int .i64 0, .int .i64 0, .nil, .nil] [(0, 1, .c (.int .i64 6)), (1, 1, .c (.str ⟨#[120]⟩)), (2, 1, .c (.str ⟨#[121]⟩))], none, [], []⟩,
    ⟨some 68, .mov (.t 8), none, [], []⟩,
    ⟨some 69, .load 3 true (.t 9), none, [102], []⟩,
    ⟨some 70, .call none 14 [.t 66, .t 67, .t 68, .t 69], none, [], []⟩,
    ⟨some 16, .mov (.t 70), none, [], []⟩] false)
  (.seq (.region [
    ⟨some 71, .load 7 true (.t 7), none, [101], []⟩,
    ⟨some 72, .build [.int .i64 0, .str ⟨#[]⟩, .str ⟨#[]⟩, .str ⟨#[]⟩, .str ⟨#[]⟩, .str ⟨#[]⟩, .bool false, .int .i64 0, .int .i64 0, .nil, .nil] [(0, 1, .c (.int .i64 7)), (1, 1, .c (.str ⟨#[120]⟩)), (2, 1, .c (.str ⟨#[121]⟩))], none, [], []⟩,
    ⟨some 73, .mov (.t 8), none, [], []⟩,
    ⟨some 74, .load 3 true (.t 9), none, [102], []⟩,
    ⟨some 75, .call none 14 [.t 71, .t 72, .t 73, .t 74], none, [], []⟩,
    ⟨some 17, .mov (.t 75), none, [], []⟩] false)
  (.seq (.region [
    ⟨some 76, .load 7 true (.t 7), none, [101], []⟩,
    ⟨some 77, .mov (.t 14), none, [], []⟩,
    ⟨some 78, .build [.int .i64 0, .str ⟨#[]⟩, .str ⟨#[]⟩, .str ⟨#[]⟩, .str ⟨#[]⟩, .str ⟨#[]⟩, .bool false, .int .i64 0, .int .i64 0, .nil, .nil] [(0, 1, .c (.int .i64 8)), (1, 1, .c (.str ⟨#[120]⟩)), (2, 1, .c (.str ⟨#[121]⟩)), (9, 1, .t 77)], none, [], []⟩,
    ⟨some 79, .mov (.t 8), none, [], []⟩,
    ⟨some 80, .load 3 true (.t 9), none, [102], []⟩,
    ⟨some 81, .call none 14 [.t 76, .t 78, .t 79, .t 80], none, [], []⟩,
    ⟨some 18, .mov (.t 81), none, [], []⟩] false)
  (.seq (.region [
    ⟨some 82, .load 7 true (.t 7), none, [101], []⟩,
    ⟨some 83, .mov (.t 10), none, [], []⟩,
    ⟨some 84, .len false (.t 83), none, [], []⟩,
    ⟨some 85, .mov (.t 10), none, [], []⟩,
    ⟨some 86, .len false (.t 85), none, [], []⟩,
    ⟨some 87, .build [.int .i64 0, .str ⟨#[]⟩, .str ⟨#[]⟩, .str ⟨#[]⟩, .str ⟨#[]⟩, .str ⟨#[]⟩, .bool false, .int .i64 0, .int .i64 0, .nil, .nil] [(0, 1, .c (.int .i64 10)), (1, 1, .c (.str ⟨#[120]⟩)), (7, 1, .t 84), (8, 1, .t 86)], none, [], []⟩,
    ⟨some 88, .mov (.t 8), none, [], []⟩,
    ⟨some 89, .load 3 true (.t 9), none, [102], []⟩,
    ⟨some 90, .call none 14 [.t 82, .t 87, .t 88, .t 89], none, [], []⟩,
    ⟨some 19, .mov (.t 90), none, [], []⟩] false)
  (.seq (.region [
    ⟨some 91, .load 7 true (.t 7), none, [101], []⟩,
    ⟨some 92, .mov (.t 1), none, [], []⟩,
    ⟨some 93, .mov (.t 2), none, [], []⟩,
    ⟨some 94, .call none 23 [.t 91, .t 92, .t 93], none, [], []⟩,
    ⟨some 20, .mov (.t 94), none, [], []⟩] false)
  (.seq (.seq (.region [
    ⟨some 95, .mov (.t 20), none, [], []⟩,
    ⟨some 96, .faddr 4 (.t 7), none, [], []⟩,
    ⟨some 97, .load 1 false (.t 96), none, [101], []⟩,
    ⟨some 98, .len false (.t 97), none, [], []⟩,
    ⟨some 99, .bin .geq (.t 95) (.t 98), none, [], []⟩] false)
  (.cond (.t 99) (.seq (.region [
    ⟨some 6, .mov (.c (.bool false)), none, [], []⟩] false)
  (.gmask [6] [] .ret))
  .skip))
  (.seq (.region [
    ⟨some 100, .mov (.t 20), none, [], []⟩,
    ⟨some 101, .bin .lss (.t 100) (.c (.int .i64 0)), none, [], [0]⟩,
    ⟨some 102, .mov (.t 101), none, [], [0, 1]⟩,
    ⟨some 103, .load 7 true (.t 7), some (102, false), [101], [0, 1, 2]⟩,
    ⟨some 104, .faddr 4 (.t 7), some (102, false), [], [0, 1, 2]⟩,
    ⟨some 105, .load 1 false (.t 104), some (102, false), [101], [0, 1, 2, 4]⟩,
    ⟨some 106, .mov (.t 20), some (102, false), [], [0, 1, 2]⟩,
    ⟨some 107, .iaddr 4 (.t 105) (.t 106), some (102, false), [], [0, 1, 2, 4, 5, 6]⟩,
    ⟨some 108, .faddr 0 (.t 107), some (102, false), [], [0, 1, 2, 4, 5, 6, 7]⟩,
    ⟨some 109, .load 1 false (.t 108), some (102, false), [], [0, 1, 2, 4, 5, 6, 7, 8]⟩,
    ⟨some 110, .build [.int .i64 0, .str ⟨#[]⟩, .str ⟨#[]⟩, .str ⟨#[]⟩, .str ⟨#[]⟩, .str ⟨#[]⟩, .bool false, .int .i64 0, .int .i64 0, .nil, .nil] [(0, 1, .c (.int .i64 9)), (1, 1, .c (.str ⟨#[120]⟩)), (2, 1, .c (.str ⟨#[121]⟩)), (3, 1, .t 109)], some (102, false), [], [0, 1, 2, 4, 5, 6, 7, 8, 9]⟩,
    ⟨some 111, .mov (.t 8), some (102, false), [], [0, 1, 2]⟩,
    ⟨some 112, .load 3 true (.t 9), some (102, false), [102], [0, 1, 2]⟩,
    ⟨some 113, .call none 14 [.t 103, .t 110, .t 111, .t 112], some (102, false), [], [0, 1, 2, 3, 4, 5, 6, 7, 8, 9, 10, 11, 12]⟩,
    ⟨some 114, .pick (.t 102) (.c (.bool true)) (.t 113), none, [], [0, 1, 2, 3, 4, 5, 6, 7, 8, 9, 10, 11, 12, 13]⟩,
    ⟨some 21, .mov (.t 114), none, [], [0, 1, 2, 3, 4, 5, 6, 7, 8, 9, 10, 11, 12, 13, 14]⟩] true)
  (.seq (.region [
    ⟨some 115, .mov (.t 16), none, [], []⟩,
    ⟨some 116, .mov (.t 10), none, [], []⟩,
    ⟨some 117, .len false (.t 116), none, [], []⟩,
    ⟨some 118, .bin .gtr (.t 117) (.c (.int .i64 0)), none, [], []⟩,
    ⟨some 119, .mov (.t 118), none, [], []⟩,
    ⟨some 120, .mov (.t 10), some (119, true), [], []⟩,
    ⟨some 121, .iaddr 1 (.t 120) (.c (.int .i64 0)), some (119, true), [], []⟩,
    ⟨some 122, .load 1 false (.t 121), some (119, true), [], []⟩,
    ⟨some 123, .mov (.t 2), some (119, true), [], []⟩,
    ⟨some 124, .bin .eql (.t 122) (.t 123), some (119, true), [], []⟩,
    ⟨some 125, .pick (.t 119) (.t 124) (.c (.bool false)), none, [], []⟩,
    ⟨some 126, .eqB false (.t 115) (.t 125), none, [], []⟩,
    ⟨some 127, .mov (.t 126), none, [], []⟩,
    ⟨some 128, .mov (.t 17), some (127, true), [], []⟩,
    ⟨some 129, .mov (.t 11), some (127, true), [], []⟩,
    ⟨some 130, .eqB false (.t 128) (.t 129), some (127, true), [], []⟩,
    ⟨some 131, .pick (.t 127) (.t 130) (.c (.bool false)), none, [], []⟩,
    ⟨some 132, .mov (.t 131), none, [], []⟩,
    ⟨some 133, .mov (.t 18), some (132, true), [], []⟩,
    ⟨some 134, .mov (.t 15), some (132, true), [], []⟩,
    ⟨some 135, .eqB false (.t 133) (.t 134), some (132, true), [], []⟩,
    ⟨some 136, .pick (.t 132) (.t 135) (.c (.bool false)), none, [], []⟩,
    ⟨some 137, .mov (.t 136), none, [], []⟩,
    ⟨some 138, .mov (.t 19), some (137, true), [], []⟩,
    ⟨some 139, .pick (.t 137) (.t 138) (.c (.bool false)), none, [], []⟩,
    ⟨some 140, .mov (.t 139), none, [], []⟩,
    ⟨some 141, .mov (.t 21), some (140, true), [], []⟩,
    ⟨some 142, .pick (.t 140) (.t 141) (.c (.bool false)), none, [], []⟩,
    ⟨some 143, .mov (.t 142), none, [], []⟩,
    ⟨some 144, .call none 24 [], some (143, true), [], []⟩,
    ⟨some 145, .pick (.t 143) (.t 144) (.c (.bool false)), none, [], []⟩,
    ⟨some 6, .mov (.t 145), none, [], []⟩] false)
  (.gmask [6] [] .ret))))))))))))))))))
def F8 : IFunc := ⟨3, 146, [.tmp 6], ic8, none⟩

/-- corpora/corporamade.New -/
def ic9 : IC :=
  (.seq (.region [
    ⟨some 2, .mov (.c (.nilp)), none, [], []⟩] false)
  (.seq (.seq (.region [
    ⟨some 3, .mov (.t 0), none, [], []⟩,
    ⟨some 4, .len false (.t 3), none, [], []⟩,
    ⟨some 5, .bin .gtr (.t 4) (.c (.int .i64 120)), none, [], []⟩] false)
  (.gpost [0] [] (.cond (.t 5) (.region [
    ⟨some 6, .mov (.t 0), none, [], []⟩,
    ⟨some 7, .slice false 1 (.t 6) none (some (.c (.int .i64 120))), none, [], []⟩,
    ⟨some 0, .mov (.t 7), none, [], []⟩] false)
  .skip)))
  (.seq (.region [
    ⟨some 8, .mov (.t 0), none, [], []⟩,
    ⟨some 9, .build [.nil, .int .i64 0] [(0, 1, .t 8)], none, [], []⟩,
    ⟨some 10, .box 100 2 (.t 9), none, [100], []⟩,
    ⟨some 2, .mov (.t 10), none, [], []⟩] false)
  (.gmask [2] [100] .ret))))
def F9 : IFunc := ⟨1, 11, [.tmp 2], ic9, none⟩

def ic10_0_b : IC :=
  (.seq (.seq (.region [
    ⟨some 15, .mov (.t 6), none, [], []⟩,
    ⟨some 16, .bin .gtr (.t 15) (.c (.int .i64 0)), none, [], []⟩] false)
  (.cond (.t 16) .skip
  (.gmask [4, 5] [0, 100, 101] (.exit 0))))
  (.seq (.block 1 (.seq (.region [
    ⟨some 19, .mov (.t 0), none, [], []⟩,
    ⟨some 20, .buildSl none 1 (.str ⟨#[]⟩) 3 [(0, .c (.str ⟨#[116, 48]⟩)), (1, .c (.str ⟨#[116, 49]⟩)), (2, .c (.str ⟨#[116, 50]⟩))], none, [], []⟩,
    ⟨some 21, .mov (.t 6), none, [], []⟩,
    ⟨some 22, .iaddr 1 (.t 20) (.t 21), none, [], []⟩,
    ⟨some 23, .load 1 false (.t 22), none, [], []⟩,
    ⟨some 24, .mov (.t 1), none, [], []⟩,
    ⟨some 25, .call none 25 [.t 19, .t 23, .t 24], none, [0], []⟩,
    ⟨some 7, .alloc 102 [.nil, .nil, .nil, .nil, .nil, .nil, .nil], none, [102], []⟩,
    ⟨none, .store 7 (.t 7) (.t 25), none, [102], []⟩] false)
  (.seq (.region [
    ⟨some 27, .load 7 true (.t 5), none, [101], []⟩,
    ⟨some 28, .load 7 true (.t 7), none, [102], []⟩,
    ⟨some 29, .call none 27 [.t 27, .t 28], none, [], []⟩,
    ⟨some 26, .mov (.t 29), none, [], []⟩,
    ⟨some 30, .extract (.t 26) 0, none, [], []⟩,
    ⟨some 31, .extract (.t 26) 1, none, [], []⟩,
    ⟨some 8, .alloc 103 [.nil, .nil, .nil, .nil, .nil, .nil, .nil], none, [103], []⟩,
    ⟨none, .store 7 (.t 8) (.t 30), none, [103], []⟩,
    ⟨some 9, .mov (.t 31), none, [], []⟩] false)
  (.seq (.region [
    ⟨some 32, .mov (.t 9), none, [], []⟩,
    ⟨some 33, .bin .eql (.t 32) (.c (.int .i64 0)), none, [], []⟩] false)
  (.gpost [0, 1, 4, 5, 6] [0, 100, 101] (.cond (.t 33) (.region [
    ⟨some 34, .load 7 true (.t 8), none, [103], []⟩,
    ⟨none, .store 7 (.t 5) (.t 34), none, [101], []⟩] false)
  .skip))))))
  (.region [
    ⟨some 17, .mov (.t 6), none, [], []⟩,
    ⟨some 18, .bin .sub (.t 17) (.c (.int .i64 1)), none, [], []⟩,
    ⟨some 6, .mov (.t 18), none, [], []⟩] false)))
def ic10_0 : IC := .loop [0, 1, 4, 5, 6] [0, 100, 101] ic10_0_b
/-- (*corpora/corporamade.Tape).Corpus -/
def ic10 : IC :=
  (.seq (.region [
    ⟨some 4, .alloc 100 [.nil, .nil, .nil, .nil, .nil, .nil, .nil], none, [100], []⟩] false)
  (.seq (.region [
    ⟨some 10, .mov (.t 0), none, [], []⟩,
    ⟨some 11, .mov (.t 1), none, [], []⟩,
    ⟨some 12, .call none 25 [.t 10, .c (.str ⟨#[116, 48]⟩), .t 11], none, [0], []⟩,
    ⟨some 5, .alloc 101 [.nil, .nil, .nil, .nil, .nil, .nil, .nil], none, [101], []⟩,
    ⟨none, .store 7 (.t 5) (.t 12), none, [101], []⟩] false)
  (.seq (.seq (.region [
    ⟨some 13, .mov (.t 0), none, [], []⟩,
    ⟨some 14, .call none 26 [.t 13, .c (.int .i64 3)], none, [0], []⟩,
    ⟨some 6, .mov (.t 14), none, [], []⟩] false)
  (.block 0 (.gmask [0, 1, 4, 5, 6] [0, 100, 101] ic10_0)))
  (.seq (.region [
    ⟨some 35, .load 7 true (.t 5), none, [101], []⟩,
    ⟨none, .store 7 (.t 4) (.t 35), none, [100], []⟩] false)
  (.gmask [4] [0, 100] .ret)))))
def F10 : IFunc := ⟨2, 36, [.cell 4 7 true], ic10, none⟩

/-- corpora/corporalaw26.labels -/
def ic12 : IC :=
  (.seq (.region [
    ⟨some 0, .movp (.c (.nil)), none, [], []⟩] false)
  (.seq (.region [
    ⟨some 1, .buildSl none 1 (.str ⟨#[]⟩) 2 [(0, .c (.str ⟨#[120]⟩)), (1, .c (.str ⟨#[121]⟩))], none, [], []⟩,
    ⟨some 0, .mov (.t 1), none, [], []⟩] false)
  (.gmask [0] [] .ret)))
def F12 : IFunc := ⟨0, 2, [.tmp 0], ic12, none⟩

def ic13_0_b : IC :=
  (.seq (.seq (.region [
    ⟨some 53, .mov (.t 14), none, [], []⟩,
    ⟨some 54, .mov (.t 2), none, [], []⟩,
    ⟨some 55, .bin .lss (.t 53) (.t 54), none, [], []⟩] false)
  (.cond (.t 55) .skip
  (.gmask [0, 2, 5, 9, 10, 13] [0, 101, 102, 104, 105] (.exit 2))))
  (.seq (.block 3 (.seq (.region [
    ⟨some 58, .faddr 2 (.t 13), none, [], []⟩,
    ⟨some 59, .load 1 false (.t 58), none, [104], [0]⟩,
    ⟨some 60, .faddr 1 (.t 11), none, [], []⟩,
    ⟨some 61, .load 1 false (.t 60), none, [103], [2]⟩,
    ⟨some 62, .mov (.t 0), none, [], []⟩,
    ⟨some 63, .faddr 2 (.t 11), none, [], []⟩,
    ⟨some 64, .load 1 false (.t 63), none, [103], [5]⟩,
    ⟨some 65, .faddr 1 (.t 11), none, [], []⟩,
    ⟨some 66, .load 1 false (.t 65), none, [103], [7]⟩,
    ⟨some 67, .bin .sub (.t 64) (.t 66), none, [], [5, 6, 7, 8]⟩,
    ⟨some 68, .bin .add (.t 67) (.c (.int .i64 1)), none, [], [5, 6, 7, 8, 9]⟩,
    ⟨some 69, .call none 26 [.t 62, .t 68], none, [0], [4, 5, 6, 7, 8, 9, 10]⟩,
    ⟨some 70, .bin .add (.t 61) (.t 69), none, [], [2, 3, 4, 5, 6, 7, 8, 9, 10, 11]⟩,
    ⟨some 71, .bin .sub (.t 70) (.c (.int .i64 1)), none, [], [2, 3, 4, 5, 6, 7, 8, 9, 10, 11, 12]⟩,
    ⟨some 72, .buildSl none 1 (.int .i64 0) 1 [(0, .t 71)], none, [], [2, 3, 4, 5, 6, 7, 8, 9, 10, 11, 12, 13]⟩,
    ⟨some 73, .app (some 105) 1 8 (.t 59) (.t 72), none, [105], [0, 1, 2, 3, 4, 5, 6, 7, 8, 9, 10, 11, 12, 13, 14]⟩,
    ⟨some 74, .faddr 2 (.t 13), none, [], [0, 1, 2, 3, 4, 5, 6, 7, 8, 9, 10, 11, 12, 13, 14, 15]⟩,
    ⟨none, .store 1 (.t 74) (.t 73), none, [104], [0, 1, 2, 3, 4, 5, 6, 7, 8, 9, 10, 11, 12, 13, 14, 15, 16]⟩] true)
  (.seq (.region [
    ⟨some 75, .faddr 2 (.t 13), none, [], []⟩,
    ⟨some 76, .load 1 false (.t 75), none, [104], [0]⟩,
    ⟨some 77, .mov (.t 14), none, [], []⟩,
    ⟨some 78, .iaddr 1 (.t 76) (.t 77), none, [105], [0, 1, 2]⟩,
    ⟨some 79, .load 1 false (.t 78), none, [105], [0, 1, 2, 3]⟩,
    ⟨some 80, .faddr 1 (.t 11), none, [], []⟩,
    ⟨some 81, .load 1 false (.t 80), none, [103], [5]⟩,
    ⟨some 82, .bin .lss (.t 79) (.t 81), none, [], [0, 1, 2, 3, 4, 5, 6]⟩] true)
  (.gpost [0, 2, 5, 9, 10, 11, 13, 14] [0, 101, 102, 103, 104, 105] (.cond (.t 82) (.region [
    ⟨some 83, .faddr 2 (.t 13), none, [], []⟩,
    ⟨some 84, .load 1 false (.t 83), none, [104], []⟩,
    ⟨some 85, .mov (.t 14), none, [], []⟩,
    ⟨some 86, .iaddr 1 (.t 84) (.t 85), none, [105], []⟩,
    ⟨none, .store 1 (.t 86) (.c (.int .i64 (-1))), none, [105], []⟩] false)
  .skip)))))
  (.region [
    ⟨some 56, .mov (.t 14), none, [], []⟩,
    ⟨some 57, .bin .add (.t 56) (.c (.int .i64 1)), none, [], []⟩,
    ⟨some 14, .mov (.t 57), none, [], []⟩] false)))
def ic13_0 : IC := .loop [0, 2, 5, 9, 10, 11, 13, 14] [0, 101, 102, 103, 104, 105] ic13_0_b
def ic13_1_b : IC :=
  (.seq (.seq (.region [
    ⟨some 19, .mov (.t 10), none, [], []⟩,
    ⟨some 20, .bin .gtr (.t 19) (.c (.int .i64 0)), none, [], []⟩] false)
  (.cond (.t 20) .skip
  (.gmask [9] [0, 101] (.exit 0))))
  (.seq (.block 1 (.seq (.region [
    ⟨some 23, .faddr 2 (.t 5), none, [], []⟩,
    ⟨some 24, .load 1 false (.t 23), none, [102], [0]⟩,
    ⟨some 25, .mov (.t 0), none, [], []⟩,
    ⟨some 26, .faddr 2 (.t 5), none, [], []⟩,
    ⟨some 27, .load 1 false (.t 26), none, [102], [3]⟩,
    ⟨some 28, .len false (.t 27), none, [], [3, 4]⟩,
    ⟨some 29, .call none 26 [.t 25, .t 28], none, [0], [2, 3, 4, 5]⟩,
    ⟨some 30, .iaddr 4 (.t 24) (.t 29), none, [], [0, 1, 2, 3, 4, 5, 6]⟩,
    ⟨some 31, .load 4 true (.t 30), none, [], [0, 1, 2, 3, 4, 5, 6, 7]⟩,
    ⟨some 11, .alloc 103 [.str ⟨#[]⟩, .int .i64 0, .int .i64 0, .nil], none, [103], []⟩,
    ⟨none, .store 4 (.t 11) (.t 31), none, [103], [0, 1, 2, 3, 4, 5, 6, 7, 8, 9]⟩] true)
  (.seq (.region [
    ⟨some 32, .faddr 1 (.t 11), none, [], []⟩,
    ⟨some 33, .load 1 false (.t 32), none, [103], [0]⟩,
    ⟨some 34, .mov (.t 0), none, [], []⟩,
    ⟨some 35, .faddr 2 (.t 11), none, [], []⟩,
    ⟨some 36, .load 1 false (.t 35), none, [103], [3]⟩,
    ⟨some 37, .faddr 1 (.t 11), none, [], []⟩,
    ⟨some 38, .load 1 false (.t 37), none, [103], [5]⟩,
    ⟨some 39, .bin .sub (.t 36) (.t 38), none, [], [3, 4, 5, 6]⟩,
    ⟨some 40, .call none 26 [.t 34, .t 39], none, [0], [2, 3, 4, 5, 6, 7]⟩,
    ⟨some 41, .bin .add (.t 33) (.t 40), none, [], [0, 1, 2, 3, 4, 5, 6, 7, 8]⟩,
    ⟨some 12, .mov (.t 41), none, [], [0, 1, 2, 3, 4, 5, 6, 7, 8, 9]⟩] true)
  (.seq (.region [
    ⟨some 42, .mov (.t 12), none, [], []⟩,
    ⟨some 43, .mov (.t 12), none, [], []⟩,
    ⟨some 44, .bin .add (.t 43) (.c (.int .i64 1)), none, [], []⟩,
    ⟨some 45, .mov (.t 0), none, [], []⟩,
    ⟨some 46, .faddr 2 (.t 11), none, [], []⟩,
    ⟨some 47, .load 1 false (.t 46), none, [103], []⟩,
    ⟨some 48, .mov (.t 12), none, [], []⟩,
    ⟨some 49, .bin .sub (.t 47) (.t 48), none, [], []⟩,
    ⟨some 50, .call none 26 [.t 45, .t 49], none, [0], []⟩,
    ⟨some 51, .bin .add (.t 44) (.t 50), none, [], []⟩,
    ⟨some 52, .build [.int .i64 0, .int .i64 0, .nil] [(0, 1, .t 42), (1, 1, .t 51)], none, [], []⟩,
    ⟨some 13, .alloc 104 [.int .i64 0, .int .i64 0, .nil], none, [104], []⟩,
    ⟨none, .store 3 (.t 13) (.t 52), none, [104], []⟩] false)
  (.seq (.seq (.region [
    ⟨some 14, .mov (.c (.int .i64 0)), none, [], []⟩] false)
  (.block 2 (.gmask [0, 2, 5, 9, 10, 11, 13, 14] [0, 101, 102, 103, 104, 105] ic13_0)))
  (.region [
    ⟨some 87, .mov (.t 9), none, [], []⟩,
    ⟨some 88, .load 3 true (.t 13), none, [104], []⟩,
    ⟨some 89, .buildSl none 3 (.agg [.int .i64 0, .int .i64 0, .nil]) 1 [(0, .t 88)], none, [105], []⟩,
    ⟨some 90, .app none 3 40 (.t 87) (.t 89), none, [101], []⟩,
    ⟨some 9, .mov (.t 90), none, [], []⟩] false))))))
  (.region [
    ⟨some 21, .mov (.t 10), none, [], []⟩,
    ⟨some 22, .bin .sub (.t 21) (.c (.int .i64 1)), none, [], []⟩,
    ⟨some 10, .mov (.t 22), none, [], []⟩] false)))
def ic13_1 : IC := .loop [0, 2, 5, 9, 10] [0, 101, 102] ic13_1_b
/-- (*corpora/corporamade.Tape).Matches -/
def ic13 : IC :=
  (.seq (.region [
    ⟨some 5, .box 102 7 (.t 1), none, [102], []⟩,
    ⟨some 8, .movp (.c (.nil)), none, [], []⟩] false)
  (.seq (.region [
    ⟨some 9, .nilarr 101 3, none, [101], []⟩] false)
  (.seq (.seq (.region [
    ⟨some 15, .mov (.t 0), none, [], []⟩,
    ⟨some 16, .mov (.t 3), none, [], []⟩,
    ⟨some 17, .bin .add (.t 16) (.c (.int .i64 1)), none, [], []⟩,
    ⟨some 18, .call none 26 [.t 15, .t 17], none, [0], []⟩,
    ⟨some 10, .mov (.t 18), none, [], []⟩] false)
  (.block 0 (.gmask [0, 2, 5, 9, 10] [0, 101, 102] ic13_1)))
  (.seq (.region [
    ⟨some 91, .mov (.t 9), none, [], []⟩,
    ⟨some 8, .mov (.t 91), none, [], []⟩] false)
  (.gmask [8] [0, 101] .ret)))))
def F13 : IFunc := ⟨4, 92, [.tmp 8], ic13, none⟩

/-- corpora/global.Holds -/
def ic14 : IC :=
  (.seq (.region [
    ⟨some 4, .box 100 7 (.t 0), none, [100], []⟩,
    ⟨some 5, .box 101 11 (.t 1), none, [101], []⟩,
    ⟨some 7, .box 102 3 (.t 3), none, [102], []⟩,
    ⟨some 8, .mov (.c (.bool false)), none, [], []⟩] false)
  (.seq (.region [
    ⟨some 9, .load 11 true (.t 5), none, [101], []⟩,
    ⟨some 10, .call none 29 [.t 9], none, [], []⟩,
    ⟨some 11, .mov (.t 10), none, [], []⟩,
    ⟨some 12, .load 7 true (.t 4), some (11, true), [100], []⟩,
    ⟨some 13, .load 11 true (.t 5), some (11, true), [101], []⟩,
    ⟨some 14, .call none 30 [.t 12, .t 13], some (11, true), [], []⟩,
    ⟨some 15, .pick (.t 11) (.t 14) (.c (.bool false)), none, [], []⟩,
    ⟨some 16, .mov (.t 15), none, [], []⟩,
    ⟨some 17, .load 7 true (.t 4), some (16, true), [100], []⟩,
    ⟨some 18, .mov (.t 2), some (16, true), [], []⟩,
    ⟨some 19, .load 3 true (.t 7), some (16, true), [102], []⟩,
    ⟨some 20, .call none 31 [.t 17, .t 18, .t 19], some (16, true), [], []⟩,
    ⟨some 21, .pick (.t 16) (.t 20) (.c (.bool false)), none, [], []⟩,
    ⟨some 22, .mov (.t 21), none, [], []⟩,
    ⟨some 23, .load 7 true (.t 4), some (22, true), [100], []⟩,
    ⟨some 24, .load 11 true (.t 5), some (22, true), [101], []⟩,
    ⟨some 25, .mov (.t 2), some (22, true), [], []⟩,
    ⟨some 26, .load 3 true (.t 7), some (22, true), [102], []⟩,
    ⟨some 27, .call none 32 [.t 23, .t 24, .t 25, .t 26], some (22, true), [], []⟩,
    ⟨some 28, .pick (.t 22) (.t 27) (.c (.bool false)), none, [], []⟩,
    ⟨some 8, .mov (.t 28), none, [], []⟩] false)
  (.gmask [8] [] .ret)))
def F14 : IFunc := ⟨4, 29, [.tmp 8], ic14, none⟩

/-- corpora/corporalaw26.known -/
def ic16 : IC :=
  (.seq (.region [
    ⟨some 0, .mov (.c (.bool false)), none, [], []⟩] false)
  (.seq (.region [
    ⟨some 2, .buildSl none 1 (.int .i64 0) 2 [(0, .c (.int .i64 0)), (1, .c (.int .i64 1))], none, [], []⟩,
    ⟨some 3, .build [.int .i64 0, .int .i64 0, .nil] [(1, 1, .c (.int .i64 2)), (2, 1, .t 2)], none, [], []⟩,
    ⟨some 1, .alloc 100 [.int .i64 0, .int .i64 0, .nil], none, [100], []⟩,
    ⟨none, .store 3 (.t 1) (.t 3), none, [100], []⟩] false)
  (.seq (.region [
    ⟨some 4, .call none 36 [], none, [], []⟩,
    ⟨some 5, .build [.int .i64 0, .str ⟨#[]⟩, .str ⟨#[]⟩, .str ⟨#[]⟩, .str ⟨#[]⟩, .str ⟨#[]⟩, .bool false, .int .i64 0, .int .i64 0, .nil, .nil] [(0, 1, .c (.int .i64 6)), (1, 1, .c (.str ⟨#[120]⟩)), (2, 1, .c (.str ⟨#[121]⟩))], none, [], []⟩,
    ⟨some 6, .call none 12 [], none, [], [0]⟩,
    ⟨some 7, .load 3 true (.t 1), none, [100], []⟩,
    ⟨some 8, .call none 14 [.t 4, .t 5, .t 6, .t 7], none, [], [0, 1, 2, 3]⟩,
    ⟨some 9, .mov (.t 8), none, [], [0, 1, 2, 3, 4]⟩,
    ⟨some 10, .call none 36 [], some (9, true), [], [0, 1, 2, 3, 4, 5]⟩,
    ⟨some 11, .buildSl none 1 (.str ⟨#[]⟩) 1 [(0, .c (.str ⟨#[100, 101, 116]⟩))], some (9, true), [], [0, 1, 2, 3, 4, 5]⟩,
    ⟨some 12, .build [.int .i64 0, .str ⟨#[]⟩, .str ⟨#[]⟩, .str ⟨#[]⟩, .str ⟨#[]⟩, .str ⟨#[]⟩, .bool false, .int .i64 0, .int .i64 0, .nil, .nil] [(0, 1, .c (.int .i64 8)), (1, 1, .c (.str ⟨#[120]⟩)), (2, 1, .c (.str ⟨#[121]⟩)), (9, 1, .t 11)], some (9, true), [], [0, 1, 2, 3, 4, 5, 7]⟩,
    ⟨some 13, .call none 12 [], some (9, true), [], [0, 1, 2, 3, 4, 5, 6]⟩,
    ⟨some 14, .load 3 true (.t 1), some (9, true), [100], [0, 1, 2, 3, 4, 5]⟩,
    ⟨some 15, .call none 14 [.t 10, .t 12, .t 13, .t 14], some (9, true), [], [0, 1, 2, 3, 4, 5, 6, 7, 8, 9, 10]⟩,
    ⟨some 16, .pick (.t 9) (.t 15) (.c (.bool false)), none, [], [0, 1, 2, 3, 4, 5, 6, 7, 8, 9, 10, 11]⟩,
    ⟨some 17, .mov (.t 16), none, [], [0, 1, 2, 3, 4, 5, 6, 7, 8, 9, 10, 11, 12]⟩,
    ⟨some 18, .call none 36 [], some (17, true), [], [0, 1, 2, 3, 4, 5, 6, 7, 8, 9, 10, 11, 12, 13]⟩,
    ⟨some 19, .build [.int .i64 0, .str ⟨#[]⟩, .str ⟨#[]⟩, .str ⟨#[]⟩, .str ⟨#[]⟩, .str ⟨#[]⟩, .bool false, .int .i64 0, .int .i64 0, .nil, .nil] [(0, 1, .c (.int .i64 7)), (1, 1, .c (.str ⟨#[121]⟩)), (2, 1, .c (.str ⟨#[120]⟩))], some (17, true), [], [0, 1, 2, 3, 4, 5, 6, 7, 8, 9, 10, 11, 12, 13]⟩,
    ⟨some 20, .call none 12 [], some (17, true), [], [0, 1, 2, 3, 4, 5, 6, 7, 8, 9, 10, 11, 12, 13, 14]⟩,
    ⟨some 21, .load 3 true (.t 1), some (17, true), [100], [0, 1, 2, 3, 4, 5, 6, 7, 8, 9, 10, 11, 12, 13]⟩,
    ⟨some 22, .call none 14 [.t 18, .t 19, .t 20, .t 21], some (17, true), [], [0, 1, 2, 3, 4, 5, 6, 7, 8, 9, 10, 11, 12, 13, 14, 15, 16, 17]⟩,
    ⟨some 23, .un .not (.t 22), some (17, true), [], [0, 1, 2, 3, 4, 5, 6, 7, 8, 9, 10, 11, 12, 13, 14, 15, 16, 17, 18]⟩,
    ⟨some 24, .pick (.t 17) (.t 23) (.c (.bool false)), none, [], [0, 1, 2, 3, 4, 5, 6, 7, 8, 9, 10, 11, 12, 13, 14, 15, 16, 17, 18, 19]⟩,
    ⟨some 25, .mov (.t 24), none, [], [0, 1, 2, 3, 4, 5, 6, 7, 8, 9, 10, 11, 12, 13, 14, 15, 16, 17, 18, 19, 20]⟩,
    ⟨some 26, .call none 36 [], some (25, true), [], [0, 1, 2, 3, 4, 5, 6, 7, 8, 9, 10, 11, 12, 13, 14, 15, 16, 17, 18, 19, 20, 21]⟩,
    ⟨some 27, .build [.int .i64 0, .str ⟨#[]⟩, .str ⟨#[]⟩, .str ⟨#[]⟩, .str ⟨#[]⟩, .str ⟨#[]⟩, .bool false, .int .i64 0, .int .i64 0, .nil, .nil] [(0, 1, .c (.int .i64 10)), (1, 1, .c (.str ⟨#[120]⟩)), (7, 1, .c (.int .i64 1)), (8, 1, .c (.int .i64 1))], some (25, true), [], [0, 1, 2, 3, 4, 5, 6, 7, 8, 9, 10, 11, 12, 13, 14, 15, 16, 17, 18, 19, 20, 21]⟩,
    ⟨some 28, .call none 12 [], some (25, true), [], [0, 1, 2, 3, 4, 5, 6, 7, 8, 9, 10, 11, 12, 13, 14, 15, 16, 17, 18, 19, 20, 21, 22]⟩,
    ⟨some 29, .load 3 true (.t 1), some (25, true), [100], [0, 1, 2, 3, 4, 5, 6, 7, 8, 9, 10, 11, 12, 13, 14, 15, 16, 17, 18, 19, 20, 21]⟩,
    ⟨some 30, .call none 14 [.t 26, .t 27, .t 28, .t 29], some (25, true), [], [0, 1, 2, 3, 4, 5, 6, 7, 8, 9, 10, 11, 12, 13, 14, 15, 16, 17, 18, 19, 20, 21, 22, 23, 24, 25]⟩,
    ⟨some 31, .pick (.t 25) (.t 30) (.c (.bool false)), none, [], [0, 1, 2, 3, 4, 5, 6, 7, 8, 9, 10, 11, 12, 13, 14, 15, 16, 17, 18, 19, 20, 21, 22, 23, 24, 25, 26]⟩,
    ⟨some 0, .mov (.t 31), none, [], [0, 1, 2, 3, 4, 5, 6, 7, 8, 9, 10, 11, 12, 13, 14, 15, 16, 17, 18, 19, 20, 21, 22, 23, 24, 25, 26, 27]⟩] true)
  (.gmask [0] [] .ret))))
def F16 : IFunc := ⟨0, 32, [.tmp 0], ic16, none⟩

/-- corpora/corporamade.Mod -/
def ic17 : IC :=
  (.seq (.region [
    ⟨some 4, .mov (.c (.int .i64 0)), none, [], []⟩] false)
  (.seq (.seq (.region [
    ⟨some 5, .mov (.t 1), none, [], []⟩,
    ⟨some 6, .bin .lss (.t 5) (.c (.int .i64 1)), none, [], []⟩] false)
  (.cond (.t 6) (.seq (.region [
    ⟨some 4, .mov (.c (.int .i64 0)), none, [], []⟩] false)
  (.gmask [4] [] .ret))
  .skip))
  (.seq (.region [
    ⟨some 7, .mov (.t 0), none, [], []⟩,
    ⟨some 8, .mov (.t 1), none, [], []⟩,
    ⟨some 9, .bin .rem (.t 7) (.t 8), none, [], []⟩,
    ⟨some 0, .mov (.t 9), none, [], []⟩] false)
  (.seq (.seq (.region [
    ⟨some 10, .mov (.t 0), none, [], []⟩,
    ⟨some 11, .bin .lss (.t 10) (.c (.int .i64 0)), none, [], []⟩] false)
  (.gpost [0] [] (.cond (.t 11) (.region [
    ⟨some 12, .mov (.t 0), none, [], []⟩,
    ⟨some 13, .mov (.t 1), none, [], []⟩,
    ⟨some 14, .bin .add (.t 12) (.t 13), none, [], []⟩,
    ⟨some 0, .mov (.t 14), none, [], []⟩] false)
  .skip)))
  (.seq (.region [
    ⟨some 15, .mov (.t 0), none, [], []⟩,
    ⟨some 4, .mov (.t 15), none, [], []⟩] false)
  (.gmask [4] [] .ret))))))
def F17 : IFunc := ⟨2, 16, [.tmp 4], ic17, none⟩

def ic21_0_b : IC :=
  (.seq (.seq (.region [
    ⟨some 13, .mov (.t 1), none, [], []⟩,
    ⟨some 14, .bin .geq (.t 13) (.c (.int .i64 0)), none, [], []⟩,
    ⟨some 15, .mov (.t 14), none, [], []⟩,
    ⟨some 16, .mov (.t 5), some (15, true), [], []⟩,
    ⟨some 17, .len false (.t 16), some (15, true), [100], []⟩,
    ⟨some 18, .faddr 1 (.t 2), some (15, true), [], []⟩,
    ⟨some 19, .load 1 false (.t 18), some (15, true), [101], []⟩,
    ⟨some 20, .len false (.t 19), some (15, true), [], []⟩,
    ⟨some 21, .bin .lss (.t 17) (.t 20), some (15, true), [], []⟩,
    ⟨some 22, .pick (.t 15) (.t 21) (.c (.bool false)), none, [], []⟩] false)
  (.cond (.t 22) .skip
  (.gmask [5] [100] (.exit 0))))
  (.seq (.block 1 (.region [
    ⟨some 26, .mov (.t 5), none, [], []⟩,
    ⟨some 27, .mov (.t 1), none, [], []⟩,
    ⟨some 28, .buildSl none 1 (.int .i64 0) 1 [(0, .t 27)], none, [], []⟩,
    ⟨some 29, .app none 1 8 (.t 26) (.t 28), none, [100], []⟩,
    ⟨some 5, .mov (.t 29), none, [], []⟩] false))
  (.region [
    ⟨some 23, .load 7 true (.t 2), none, [101], []⟩,
    ⟨some 24, .mov (.t 1), none, [], []⟩,
    ⟨some 25, .call none 40 [.t 23, .t 24], none, [], []⟩,
    ⟨some 1, .mov (.t 25), none, [], []⟩] false)))
def ic21_0 : IC := .loop [1, 2, 5] [100, 101] ic21_0_b
/-- corpora/treerel.Up -/
def ic21 : IC :=
  (.seq (.region [
    ⟨some 2, .box 101 7 (.t 0), none, [101], []⟩,
    ⟨some 4, .movp (.c (.nil)), none, [], []⟩] false)
  (.seq (.seq (.region [
    ⟨some 6, .load 7 true (.t 2), none, [101], []⟩,
    ⟨some 7, .mov (.t 1), none, [], []⟩,
    ⟨some 8, .call none 39 [.t 6, .t 7], none, [], []⟩,
    ⟨some 9, .un .not (.t 8), none, [], []⟩] false)
  (.cond (.t 9) (.seq (.region [
    ⟨some 4, .movp (.c (.nil)), none, [], []⟩] false)
  (.gmask [4] [100] .ret))
  .skip))
  (.seq (.region [
    ⟨some 5, .nilarr 100 1, none, [100], []⟩] false)
  (.seq (.seq (.region [
    ⟨some 10, .load 7 true (.t 2), none, [101], []⟩,
    ⟨some 11, .mov (.t 1), none, [], []⟩,
    ⟨some 12, .call none 40 [.t 10, .t 11], none, [], []⟩,
    ⟨some 1, .mov (.t 12), none, [], []⟩] false)
  (.block 0 (.gmask [1, 2, 5] [100, 101] ic21_0)))
  (.seq (.region [
    ⟨some 30, .mov (.t 5), none, [], []⟩,
    ⟨some 4, .mov (.t 30), none, [], []⟩] false)
  (.gmask [4] [100] .ret))))))
def F21 : IFunc := ⟨2, 31, [.tmp 4], ic21, none⟩

def ic22_0_b : IC :=
  (.seq (.region [
    ⟨some 32, .bin .lss (.t 31) (.t 30), none, [], []⟩] false)
  (.seq (.cond (.t 32) .skip
  (.gmask [] [] (.exit 0)))
  (.seq (.block 1 (.seq (.region [
    ⟨some 33, .iaddr 1 (.t 29) (.t 31), none, [], []⟩,
    ⟨some 34, .load 1 false (.t 33), none, [], []⟩,
    ⟨some 11, .mov (.t 34), none, [], []⟩] false)
  (.seq (.seq (.region [
    ⟨some 35, .mov (.t 11), none, [], []⟩,
    ⟨some 36, .mov (.t 2), none, [], []⟩,
    ⟨some 37, .bin .eql (.t 35) (.t 36), none, [], []⟩] false)
  (.cond (.t 37) (.seq (.region [
    ⟨some 38, .mov (.t 8), none, [], []⟩,
    ⟨some 6, .mov (.t 38), none, [], []⟩,
    ⟨some 7, .mov (.c (.bool true)), none, [], []⟩] false)
  (.gmask [6, 7] [100] .ret))
  .skip))
  (.seq (.region [
    ⟨some 12, .mov (.c (.str ⟨#[]⟩)), none, [], []⟩] false)
  (.seq (.seq (.region [
    ⟨some 39, .mov (.t 11), none, [], []⟩,
    ⟨some 40, .faddr 6 (.t 3), none, [], []⟩,
    ⟨some 41, .load 1 false (.t 40), none, [102], []⟩,
    ⟨some 42, .len false (.t 41), none, [], []⟩,
    ⟨some 43, .bin .lss (.t 39) (.t 42), none, [], []⟩] false)
  (.gpost [2, 3, 8, 12, 29, 30, 31] [100, 102] (.cond (.t 43) (.region [
    ⟨some 44, .faddr 6 (.t 3), none, [], []⟩,
    ⟨some 45, .load 1 false (.t 44), none, [102], []⟩,
    ⟨some 46, .mov (.t 11), none, [], []⟩,
    ⟨some 47, .iaddr 1 (.t 45) (.t 46), none, [], []⟩,
    ⟨some 48, .load 1 false (.t 47), none, [], []⟩,
    ⟨some 12, .mov (.t 48), none, [], []⟩] false)
  .skip)))
  (.region [
    ⟨some 49, .mov (.t 8), none, [], []⟩,
    ⟨some 50, .mov (.t 12), none, [], []⟩,
    ⟨some 51, .buildSl none 1 (.str ⟨#[]⟩) 1 [(0, .t 50)], none, [], []⟩,
    ⟨some 52, .app none 1 16 (.t 49) (.t 51), none, [100], []⟩,
    ⟨some 8, .mov (.t 52), none, [], []⟩] false))))))
  (.region [
    ⟨some 53, .bin .add (.t 31) (.c (.int .i64 1)), none, [], []⟩,
    ⟨some 31, .mov (.t 53), none, [], []⟩] false))))
def ic22_0 : IC := .loop [2, 3, 8, 29, 30, 31] [100, 102] ic22_0_b
/-- corpora/treerel.Route -/
def ic22 : IC :=
  (.seq (.region [
    ⟨some 3, .box 102 7 (.t 0), none, [102], []⟩,
    ⟨some 6, .movp (.c (.nil)), none, [], []⟩,
    ⟨some 7, .mov (.c (.bool false)), none, [], []⟩] false)
  (.seq (.seq (.region [
    ⟨some 13, .load 7 true (.t 3), none, [102], []⟩,
    ⟨some 14, .mov (.t 1), none, [], []⟩,
    ⟨some 15, .call none 39 [.t 13, .t 14], none, [], []⟩,
    ⟨some 16, .un .not (.t 15), none, [], []⟩,
    ⟨some 17, .mov (.t 16), none, [], []⟩,
    ⟨some 18, .load 7 true (.t 3), some (17, false), [102], []⟩,
    ⟨some 19, .mov (.t 2), some (17, false), [], []⟩,
    ⟨some 20, .call none 39 [.t 18, .t 19], some (17, false), [], []⟩,
    ⟨some 21, .un .not (.t 20), some (17, false), [], []⟩,
    ⟨some 22, .pick (.t 17) (.c (.bool true)) (.t 21), none, [], []⟩] false)
  (.cond (.t 22) (.seq (.region [
    ⟨some 6, .movp (.c (.nil)), none, [], []⟩,
    ⟨some 7, .mov (.c (.bool false)), none, [], []⟩] false)
  (.gmask [6, 7] [100] .ret))
  .skip))
  (.seq (.region [
    ⟨some 8, .nilarr 100 1, none, [100], []⟩] false)
  (.seq (.region [
    ⟨some 23, .mov (.t 1), none, [], []⟩,
    ⟨some 24, .buildSl (some 101) 1 (.int .i64 0) 1 [(0, .t 23)], none, [101], []⟩,
    ⟨some 25, .load 7 true (.t 3), none, [102], []⟩,
    ⟨some 26, .mov (.t 1), none, [], []⟩,
    ⟨some 27, .call none 21 [.t 25, .t 26], none, [], []⟩,
    ⟨some 28, .app none 1 8 (.t 24) (.t 27), none, [101], []⟩,
    ⟨some 9, .movp (.t 28), none, [101], []⟩] false)
  (.seq (.seq (.region [
    ⟨some 29, .mov (.t 9), none, [], []⟩,
    ⟨some 30, .len false (.t 29), none, [], []⟩,
    ⟨some 31, .mov (.c (.int .i64 0)), none, [], []⟩] false)
  (.block 0 (.gmask [2, 3, 8, 29, 30, 31] [100, 102] ic22_0)))
  (.seq (.region [
    ⟨some 6, .movp (.c (.nil)), none, [], []⟩,
    ⟨some 7, .mov (.c (.bool false)), none, [], []⟩] false)
  (.gmask [6, 7] [100] .ret)))))))
def F22 : IFunc := ⟨3, 54, [.tmp 6, .tmp 7], ic22, none⟩

/-- corpora/treerel.Common -/
def ic23 : IC :=
  (.seq (.region [
    ⟨some 3, .box 100 7 (.t 0), none, [100], []⟩,
    ⟨some 6, .mov (.c (.int .i64 0)), none, [], []⟩] false)
  (.seq (.seq (.region [
    ⟨some 8, .load 7 true (.t 3), none, [100], []⟩,
    ⟨some 9, .mov (.t 1), none, [], []⟩,
    ⟨some 10, .call none 39 [.t 8, .t 9], none, [], []⟩,
    ⟨some 11, .un .not (.t 10), none, [], []⟩,
    ⟨some 12, .mov (.t 11), none, [], []⟩,
    ⟨some 13, .load 7 true (.t 3), some (12, false), [100], []⟩,
    ⟨some 14, .mov (.t 2), some (12, false), [], []⟩,
    ⟨some 15, .call none 39 [.t 13, .t 14], some (12, false), [], []⟩,
    ⟨some 16, .un .not (.t 15), some (12, false), [], []⟩,
    ⟨some 17, .pick (.t 12) (.c (.bool true)) (.t 16), none, [], []⟩] false)
  (.cond (.t 17) (.seq (.region [
    ⟨some 6, .mov (.c (.int .i64 (-1))), none, [], []⟩] false)
  (.gmask [6] [] .ret))
  .skip))
  (.seq (.region [
    ⟨some 18, .load 7 true (.t 3), none, [100], []⟩,
    ⟨some 19, .mov (.t 1), none, [], []⟩,
    ⟨some 20, .mov (.t 2), none, [], []⟩,
    ⟨some 21, .mm false (.t 19) (.t 20), none, [], []⟩,
    ⟨some 22, .mov (.t 1), none, [], []⟩,
    ⟨some 23, .mov (.t 2), none, [], []⟩,
    ⟨some 24, .mm true (.t 22) (.t 23), none, [], []⟩,
    ⟨some 25, .bin .add (.t 24) (.c (.int .i64 1)), none, [], []⟩,
    ⟨some 26, .build [.int .i64 0, .int .i64 0] [(0, 1, .t 21), (1, 1, .t 25)], none, [], []⟩,
    ⟨some 27, .call none 41 [.t 18, .t 26], none, [], []⟩,
    ⟨some 7, .mov (.t 27), none, [], []⟩] false)
  (.seq (.seq (.region [
    ⟨some 28, .mov (.t 7), none, [], []⟩,
    ⟨some 29, .len false (.t 28), none, [], []⟩,
    ⟨some 30, .bin .eql (.t 29) (.c (.int .i64 0)), none, [], []⟩] false)
  (.cond (.t 30) (.seq (.region [
    ⟨some 6, .mov (.c (.int .i64 (-1))), none, [], []⟩] false)
  (.gmask [6] [] .ret))
  .skip))
  (.seq (.region [
    ⟨some 31, .mov (.t 7), none, [], []⟩,
    ⟨some 32, .mov (.t 7), none, [], []⟩,
    ⟨some 33, .len false (.t 32), none, [], []⟩,
    ⟨some 34, .bin .sub (.t 33) (.c (.int .i64 1)), none, [], []⟩,
    ⟨some 35, .iaddr 1 (.t 31) (.t 34), none, [], []⟩,
    ⟨some 36, .load 1 false (.t 35), none, [], []⟩,
    ⟨some 6, .mov (.t 36), none, [], []⟩] false)
  (.gmask [6] [] .ret))))))
def F23 : IFunc := ⟨3, 37, [.tmp 6], ic23, none⟩

/-- corpora/corporalaw29.known -/
def ic24 : IC :=
  (.seq (.region [
    ⟨some 0, .mov (.c (.bool false)), none, [], []⟩] false)
  (.seq (.region [
    ⟨some 2, .build [.str ⟨#[]⟩, .bool false] [(0, 1, .c (.str ⟨#[119]⟩))], none, [], []⟩,
    ⟨some 3, .buildSl none 2 (.agg [.str ⟨#[]⟩, .bool false]) 1 [(0, .t 2)], none, [], []⟩,
    ⟨some 4, .buildSl none 1 (.str ⟨#[]⟩) 1 [(0, .c (.str ⟨#[97]⟩))], none, [], []⟩,
    ⟨some 5, .buildSl none 1 (.str ⟨#[]⟩) 1 [(0, .c (.str ⟨#[98]⟩))], none, [], []⟩,
    ⟨some 6, .buildSl none 1 (.str ⟨#[]⟩) 1 [(0, .c (.str ⟨#[99]⟩))], none, [], []⟩,
    ⟨some 7, .buildSl none 1 (.str ⟨#[]⟩) 1 [(0, .c (.str ⟨#[100]⟩))], none, [], []⟩,
    ⟨some 8, .buildSl none 1 (.nil) 4 [(0, .t 4), (1, .t 5), (2, .t 6), (3, .t 7)], none, [], []⟩,
    ⟨some 9, .build [.str ⟨#[]⟩, .int .i64 0, .int .i64 0, .nil] [(0, 1, .c (.str ⟨#[116]⟩)), (2, 1, .c (.int .i64 4))], none, [], []⟩,
    ⟨some 10, .buildSl none 4 (.agg [.str ⟨#[]⟩, .int .i64 0, .int .i64 0, .nil]) 1 [(0, .t 9)], none, [], []⟩,
    ⟨some 11, .buildSl none 1 (.int .i64 0) 4 [(0, .c (.int .i64 1)), (1, .c (.int .i64 (-1))), (2, .c (.int .i64 1)), (3, .c (.int .i64 2))], none, [], []⟩,
    ⟨some 12, .buildSl none 1 (.str ⟨#[]⟩) 4 [(0, .c (.str ⟨#[120]⟩)), (1, .c (.str ⟨#[]⟩)), (2, .c (.str ⟨#[121]⟩)), (3, .c (.str ⟨#[122]⟩))], none, [], []⟩,
    ⟨some 13, .build [.nil, .nil, .nil, .nil, .nil, .nil, .nil] [(0, 1, .t 3), (1, 1, .t 8), (2, 1, .t 10), (5, 1, .t 11), (6, 1, .t 12)], none, [], []⟩,
    ⟨some 1, .alloc 100 [.nil, .nil, .nil, .nil, .nil, .nil, .nil], none, [100], []⟩,
    ⟨none, .store 7 (.t 1) (.t 13), none, [100], []⟩] false)
  (.seq (.region [
    ⟨some 14, .load 7 true (.t 1), none, [100], []⟩,
    ⟨some 15, .call none 21 [.t 14, .c (.int .i64 3)], none, [], []⟩,
    ⟨some 16, .buildSl none 1 (.int .i64 0) 2 [(0, .c (.int .i64 2)), (1, .c (.int .i64 1))], none, [], []⟩,
    ⟨some 17, .call none 42 [.t 15, .t 16], none, [], []⟩,
    ⟨some 18, .mov (.t 17), none, [], []⟩,
    ⟨some 19, .load 7 true (.t 1), some (18, true), [100], []⟩,
    ⟨some 20, .call none 43 [.t 19, .c (.int .i64 1)], some (18, true), [], []⟩,
    ⟨some 21, .buildSl none 1 (.int .i64 0) 2 [(0, .c (.int .i64 0)), (1, .c (.int .i64 2))], some (18, true), [], []⟩,
    ⟨some 22, .call none 42 [.t 20, .t 21], some (18, true), [], []⟩,
    ⟨some 23, .pick (.t 18) (.t 22) (.c (.bool false)), none, [], []⟩,
    ⟨some 24, .mov (.t 23), none, [], []⟩,
    ⟨some 25, .load 7 true (.t 1), some (24, true), [100], []⟩,
    ⟨some 26, .call none 44 [.t 25, .c (.int .i64 2)], some (24, true), [], []⟩,
    ⟨some 27, .buildSl none 1 (.int .i64 0) 2 [(0, .c (.int .i64 2)), (1, .c (.int .i64 3))], some (24, true), [], []⟩,
    ⟨some 28, .call none 42 [.t 26, .t 27], some (24, true), [], []⟩,
    ⟨some 29, .pick (.t 24) (.t 28) (.c (.bool false)), none, [], []⟩,
    ⟨some 30, .mov (.t 29), none, [], []⟩,
    ⟨some 31, .load 7 true (.t 1), some (30, true), [100], []⟩,
    ⟨some 32, .call none 45 [.t 31, .c (.int .i64 0), .c (.int .i64 3)], some (30, true), [], []⟩,
    ⟨some 33, .bin .eql (.t 32) (.c (.int .i64 1)), some (30, true), [], []⟩,
    ⟨some 34, .pick (.t 30) (.t 33) (.c (.bool false)), none, [], []⟩,
    ⟨some 0, .mov (.t 34), none, [], []⟩] false)
  (.gmask [0] [] .ret))))
def F24 : IFunc := ⟨0, 35, [.tmp 0], ic24, none⟩

def ic25_0_b : IC :=
  (.seq (.seq (.region [
    ⟨some 42, .mov (.t 9), none, [], []⟩,
    ⟨some 43, .mov (.t 7), none, [], []⟩,
    ⟨some 44, .bin .lss (.t 42) (.t 43), none, [], []⟩] false)
  (.cond (.t 44) .skip
  (.gmask [0, 6, 7, 8] [0, 100, 103, 104, 105] (.exit 0))))
  (.seq (.block 1 (.seq (.region [
    ⟨some 47, .mov (.t 0), none, [], []⟩,
    ⟨some 48, .call none 26 [.t 47, .c (.int .i64 48)], none, [0], []⟩,
    ⟨some 10, .mov (.t 48), none, [], []⟩] false)
  (.region [
    ⟨some 49, .faddr 1 (.t 8), none, [], []⟩,
    ⟨some 50, .load 1 false (.t 49), none, [104], [0]⟩,
    ⟨some 51, .buildSl none 1 (.int .i64 0) 8 [(0, .c (.int .i64 0)), (1, .c (.int .i64 1)), (2, .c (.int .i64 0)), (3, .c (.int .i64 2)), (4, .c (.int .i64 3)), (5, .c (.int .i64 4)), (6, .c (.int .i64 1)), (7, .c (.int .i64 5))], none, [], []⟩,
    ⟨some 52, .mov (.t 10), none, [], []⟩,
    ⟨some 53, .bin .rem (.t 52) (.c (.int .i64 8)), none, [], [3]⟩,
    ⟨some 54, .iaddr 1 (.t 51) (.t 53), none, [], [2, 3, 4]⟩,
    ⟨some 55, .load 1 false (.t 54), none, [], [2, 3, 4, 5]⟩,
    ⟨some 56, .call none 47 [.t 55], none, [], [2, 3, 4, 5, 6]⟩,
    ⟨some 57, .mov (.t 10), none, [], []⟩,
    ⟨some 58, .bin .quo (.t 57) (.c (.int .i64 8)), none, [], [8]⟩,
    ⟨some 59, .bin .rem (.t 58) (.c (.int .i64 2)), none, [], [8, 9]⟩,
    ⟨some 60, .call none 48 [.t 59], none, [], [2, 3, 4, 5, 6, 7, 8, 9, 10]⟩,
    ⟨some 61, .mov (.t 10), none, [], []⟩,
    ⟨some 62, .bin .quo (.t 61) (.c (.int .i64 12)), none, [], [12]⟩,
    ⟨some 63, .call none 49 [.t 62], none, [], [2, 3, 4, 5, 6, 7, 8, 9, 10, 11, 12, 13]⟩,
    ⟨some 64, .buildSl none 1 (.str ⟨#[]⟩) 3 [(0, .t 56), (1, .t 60), (2, .t 63)], none, [], [2, 3, 4, 5, 6, 7, 8, 9, 10, 11, 12, 13, 14]⟩,
    ⟨some 65, .buildSl none 1 (.nil) 1 [(0, .t 64)], none, [], [2, 3, 4, 5, 6, 7, 8, 9, 10, 11, 12, 13, 14, 15]⟩,
    ⟨some 66, .app none 1 24 (.t 50) (.t 65), none, [100], [0, 1, 2, 3, 4, 5, 6, 7, 8, 9, 10, 11, 12, 13, 14, 15, 16]⟩,
    ⟨some 67, .faddr 1 (.t 8), none, [], [0, 1, 2, 3, 4, 5, 6, 7, 8, 9, 10, 11, 12, 13, 14, 15, 16, 17]⟩,
    ⟨none, .store 1 (.t 67) (.t 66), none, [104], [0, 1, 2, 3, 4, 5, 6, 7, 8, 9, 10, 11, 12, 13, 14, 15, 16, 17, 18]⟩] true)))
  (.region [
    ⟨some 45, .mov (.t 9), none, [], []⟩,
    ⟨some 46, .bin .add (.t 45) (.c (.int .i64 1)), none, [], []⟩,
    ⟨some 9, .mov (.t 46), none, [], []⟩] false)))
def ic25_0 : IC := .loop [0, 6, 7, 8, 9] [0, 100, 103, 104, 105] ic25_0_b
def ic25_1_b : IC :=
  (.seq (.region [
    ⟨some 104, .bin .lss (.t 103) (.t 102), none, [], []⟩] false)
  (.seq (.cond (.t 104) .skip
  (.gmask [0, 6, 7, 8, 11, 12, 14, 15] [0, 100, 102, 103, 104, 105, 106] (.exit 4)))
  (.seq (.block 5 (.seq (.region [
    ⟨some 105, .iaddr 4 (.t 101) (.t 103), none, [102], []⟩,
    ⟨some 106, .load 4 true (.t 105), none, [102], []⟩,
    ⟨some 17, .alloc 107 [.str ⟨#[]⟩, .int .i64 0, .int .i64 0, .nil], none, [107], []⟩,
    ⟨none, .store 4 (.t 17) (.t 106), none, [107], []⟩] false)
  (.region [
    ⟨some 107, .mov (.t 15), none, [], []⟩,
    ⟨some 108, .mov (.t 107), none, [], []⟩,
    ⟨some 109, .faddr 0 (.t 17), some (108, false), [], []⟩,
    ⟨some 110, .load 1 false (.t 109), some (108, false), [107], []⟩,
    ⟨some 111, .faddr 0 (.t 14), some (108, false), [], []⟩,
    ⟨some 112, .load 1 false (.t 111), some (108, false), [106], []⟩,
    ⟨some 113, .bin .eql (.t 110) (.t 112), some (108, false), [], []⟩,
    ⟨some 114, .mov (.t 113), some (108, false), [], []⟩,
    ⟨some 115, .faddr 1 (.t 17), some (114, true), [], []⟩,
    ⟨some 116, .load 1 false (.t 115), some (114, true), [107], []⟩,
    ⟨some 117, .faddr 2 (.t 14), some (114, true), [], []⟩,
    ⟨some 118, .load 1 false (.t 117), some (114, true), [106], []⟩,
    ⟨some 119, .bin .lss (.t 116) (.t 118), some (114, true), [], []⟩,
    ⟨some 120, .pick (.t 114) (.t 119) (.c (.bool false)), some (108, false), [], []⟩,
    ⟨some 121, .mov (.t 120), some (108, false), [], []⟩,
    ⟨some 122, .faddr 1 (.t 14), some (121, true), [], []⟩,
    ⟨some 123, .load 1 false (.t 122), some (121, true), [106], []⟩,
    ⟨some 124, .faddr 2 (.t 17), some (121, true), [], []⟩,
    ⟨some 125, .load 1 false (.t 124), some (121, true), [107], []⟩,
    ⟨some 126, .bin .lss (.t 123) (.t 125), some (121, true), [], []⟩,
    ⟨some 127, .pick (.t 121) (.t 126) (.c (.bool false)), some (108, false), [], []⟩,
    ⟨some 128, .mov (.t 127), some (108, false), [], []⟩,
    ⟨some 129, .faddr 1 (.t 17), some (128, true), [], []⟩,
    ⟨some 130, .load 1 false (.t 129), some (128, true), [107], []⟩,
    ⟨some 131, .faddr 1 (.t 14), some (128, true), [], []⟩,
    ⟨some 132, .load 1 false (.t 131), some (128, true), [106], []⟩,
    ⟨some 133, .bin .leq (.t 130) (.t 132), some (128, true), [], []⟩,
    ⟨some 134, .mov (.t 133), some (128, true), [], []⟩,
    ⟨some 135, .faddr 2 (.t 14), some (134, true), [], []⟩,
    ⟨some 136, .load 1 false (.t 135), some (134, true), [106], []⟩,
    ⟨some 137, .faddr 2 (.t 17), some (134, true), [], []⟩,
    ⟨some 138, .load 1 false (.t 137), some (134, true), [107], []⟩,
    ⟨some 139, .bin .leq (.t 136) (.t 138), some (134, true), [], []⟩,
    ⟨some 140, .pick (.t 134) (.t 139) (.c (.bool false)), some (128, true), [], []⟩,
    ⟨some 141, .un .not (.t 140), some (128, true), [], []⟩,
    ⟨some 142, .pick (.t 128) (.t 141) (.c (.bool false)), some (108, false), [], []⟩,
    ⟨some 143, .mov (.t 142), some (108, false), [], []⟩,
    ⟨some 144, .faddr 1 (.t 14), some (143, true), [], []⟩,
    ⟨some 145, .load 1 false (.t 144), some (143, true), [106], []⟩,
    ⟨some 146, .faddr 1 (.t 17), some (143, true), [], []⟩,
    ⟨some 147, .load 1 false (.t 146), some (143, true), [107], []⟩,
    ⟨some 148, .bin .leq (.t 145) (.t 147), some (143, true), [], []⟩,
    ⟨some 149, .mov (.t 148), some (143, true), [], []⟩,
    ⟨some 150, .faddr 2 (.t 17), some (149, true), [], []⟩,
    ⟨some 151, .load 1 false (.t 150), some (149, true), [107], []⟩,
    ⟨some 152, .faddr 2 (.t 14), some (149, true), [], []⟩,
    ⟨some 153, .load 1 false (.t 152), some (149, true), [106], []⟩,
    ⟨some 154, .bin .leq (.t 151) (.t 153), some (149, true), [], []⟩,
    ⟨some 155, .pick (.t 149) (.t 154) (.c (.bool false)), some (143, true), [], []⟩,
    ⟨some 156, .un .not (.t 155), some (143, true), [], []⟩,
    ⟨some 157, .pick (.t 143) (.t 156) (.c (.bool false)), some (108, false), [], []⟩,
    ⟨some 158, .pick (.t 108) (.c (.bool true)) (.t 157), none, [], []⟩,
    ⟨some 15, .mov (.t 158), none, [], []⟩] false)))
  (.region [
    ⟨some 159, .bin .add (.t 103) (.c (.int .i64 1)), none, [], []⟩,
    ⟨some 103, .mov (.t 159), none, [], []⟩] false))))
def ic25_1 : IC := .loop [0, 6, 7, 8, 11, 12, 14, 15, 101, 102, 103] [0, 100, 102, 103, 104, 105, 106] ic25_1_b
def ic25_2_b : IC :=
  (.seq (.seq (.region [
    ⟨some 70, .mov (.t 12), none, [], []⟩,
    ⟨some 71, .bin .gtr (.t 70) (.c (.int .i64 0)), none, [], []⟩] false)
  (.cond (.t 71) .skip
  (.gmask [0, 6, 8, 11] [0, 100, 102, 103, 104, 105] (.exit 2))))
  (.seq (.block 3 (.seq (.region [
    ⟨some 74, .mov (.t 0), none, [], []⟩,
    ⟨some 75, .mov (.t 7), none, [], []⟩,
    ⟨some 76, .call none 26 [.t 74, .t 75], none, [0], []⟩,
    ⟨some 13, .mov (.t 76), none, [], []⟩] false)
  (.seq (.region [
    ⟨some 77, .mov (.t 0), none, [], []⟩,
    ⟨some 78, .call none 26 [.t 77, .c (.int .i64 2)], none, [0], []⟩,
    ⟨some 79, .call none 28 [.t 78], none, [], []⟩,
    ⟨some 80, .mov (.t 13), none, [], []⟩,
    ⟨some 81, .mov (.t 13), none, [], []⟩,
    ⟨some 82, .bin .add (.t 81) (.c (.int .i64 1)), none, [], []⟩,
    ⟨some 83, .mov (.t 0), none, [], []⟩,
    ⟨some 84, .mov (.t 7), none, [], []⟩,
    ⟨some 85, .mov (.t 13), none, [], []⟩,
    ⟨some 86, .bin .sub (.t 84) (.t 85), none, [], []⟩,
    ⟨some 87, .call none 26 [.t 83, .t 86], none, [0], []⟩,
    ⟨some 88, .bin .add (.t 82) (.t 87), none, [], []⟩,
    ⟨some 89, .build [.str ⟨#[]⟩, .int .i64 0, .int .i64 0, .nil] [(0, 1, .t 79), (1, 1, .t 80), (2, 1, .t 88)], none, [], []⟩,
    ⟨some 14, .alloc 106 [.str ⟨#[]⟩, .int .i64 0, .int .i64 0, .nil], none, [106], []⟩,
    ⟨none, .store 4 (.t 14) (.t 89), none, [106], []⟩] false)
  (.seq (.seq (.region [
    ⟨some 90, .mov (.t 0), none, [], []⟩,
    ⟨some 91, .call none 26 [.t 90, .c (.int .i64 2)], none, [0], []⟩,
    ⟨some 92, .bin .eql (.t 91) (.c (.int .i64 1)), none, [], []⟩] false)
  (.gpost [0, 6, 7, 8, 11, 12, 14] [0, 100, 102, 103, 104, 105, 106] (.cond (.t 92) (.region [
    ⟨some 93, .buildSl none 1 (.str ⟨#[]⟩) 2 [(0, .c (.str ⟨#[49]⟩)), (1, .c (.str ⟨#[50]⟩))], none, [], []⟩,
    ⟨some 94, .mov (.t 0), none, [], []⟩,
    ⟨some 95, .call none 26 [.t 94, .c (.int .i64 2)], none, [0], []⟩,
    ⟨some 96, .iaddr 1 (.t 93) (.t 95), none, [], []⟩,
    ⟨some 97, .load 1 false (.t 96), none, [], []⟩,
    ⟨some 98, .build [.str ⟨#[]⟩, .str ⟨#[]⟩] [(0, 1, .c (.str ⟨#[110]⟩)), (1, 1, .t 97)], none, [], []⟩,
    ⟨some 99, .buildSl none 2 (.agg [.str ⟨#[]⟩, .str ⟨#[]⟩]) 1 [(0, .t 98)], none, [], []⟩,
    ⟨some 100, .faddr 3 (.t 14), none, [], []⟩,
    ⟨none, .store 1 (.t 100) (.t 99), none, [106], []⟩] false)
  .skip)))
  (.seq (.region [
    ⟨some 15, .mov (.c (.bool false)), none, [], []⟩] false)
  (.seq (.seq (.region [
    ⟨some 101, .mov (.t 11), none, [], []⟩,
    ⟨some 102, .len false (.t 101), none, [102], []⟩,
    ⟨some 103, .mov (.c (.int .i64 0)), none, [], []⟩] false)
  (.block 4 (.gmask [0, 6, 7, 8, 11, 12, 14, 15, 101, 102, 103] [0, 100, 102, 103, 104, 105, 106] ic25_1)))
  (.seq (.region [
    ⟨some 160, .mov (.t 15), none, [], []⟩,
    ⟨some 161, .un .not (.t 160), none, [], []⟩] false)
  (.gpost [0, 6, 7, 8, 11, 12] [0, 100, 102, 103, 104, 105] (.cond (.t 161) (.region [
    ⟨some 162, .mov (.t 11), none, [], []⟩,
    ⟨some 163, .load 4 true (.t 14), none, [106], []⟩,
    ⟨some 164, .buildSl none 4 (.agg [.str ⟨#[]⟩, .int .i64 0, .int .i64 0, .nil]) 1 [(0, .t 163)], none, [], []⟩,
    ⟨some 165, .app none 4 56 (.t 162) (.t 164), none, [102], []⟩,
    ⟨some 11, .mov (.t 165), none, [], []⟩] false)
  .skip)))))))))
  (.region [
    ⟨some 72, .mov (.t 12), none, [], []⟩,
    ⟨some 73, .bin .sub (.t 72) (.c (.int .i64 1)), none, [], []⟩,
    ⟨some 12, .mov (.t 73), none, [], []⟩] false)))
def ic25_2 : IC := .loop [0, 6, 7, 8, 11, 12] [0, 100, 102, 103, 104, 105] ic25_2_b
/-- (*corpora/corporamade.Tape).Document -/
def ic25 : IC :=
  (.seq (.region [
    ⟨some 6, .alloc 105 [.nil, .nil, .nil, .nil, .nil, .nil, .nil], none, [105], []⟩] false)
  (.seq (.region [
    ⟨some 18, .mov (.t 0), none, [], []⟩,
    ⟨some 19, .mov (.t 2), none, [], []⟩,
    ⟨some 20, .call none 26 [.t 18, .t 19], none, [0], []⟩,
    ⟨some 21, .bin .add (.c (.int .i64 1)) (.t 20), none, [], []⟩,
    ⟨some 7, .mov (.t 21), none, [], []⟩] false)
  (.seq (.region [
    ⟨some 22, .call none 46 [], none, [], []⟩,
    ⟨some 23, .mov (.t 1), none, [], []⟩,
    ⟨some 24, .mov (.t 7), none, [], []⟩,
    ⟨some 25, .build [.str ⟨#[]⟩, .int .i64 0, .int .i64 0, .nil] [(0, 1, .t 23), (2, 1, .t 24)], none, [], []⟩,
    ⟨some 26, .buildSl (some 103) 4 (.agg [.str ⟨#[]⟩, .int .i64 0, .int .i64 0, .nil]) 1 [(0, .t 25)], none, [103], []⟩,
    ⟨some 27, .build [.nil, .nil, .nil, .nil, .nil, .nil, .nil] [(0, 1, .t 22), (2, 1, .t 26)], none, [], []⟩,
    ⟨some 8, .alloc 104 [.nil, .nil, .nil, .nil, .nil, .nil, .nil], none, [104], []⟩,
    ⟨none, .store 7 (.t 8) (.t 27), none, [104], []⟩] false)
  (.seq (.seq (.region [
    ⟨some 28, .mov (.t 0), none, [], []⟩,
    ⟨some 29, .call none 26 [.t 28, .c (.int .i64 3)], none, [0], []⟩,
    ⟨some 30, .bin .eql (.t 29) (.c (.int .i64 2)), none, [], []⟩] false)
  (.gpost [0, 6, 7, 8] [0, 100, 103, 104, 105] (.cond (.t 30) (.region [
    ⟨some 31, .faddr 2 (.t 8), none, [], []⟩,
    ⟨some 32, .load 1 false (.t 31), none, [104], [0]⟩,
    ⟨some 33, .buildSl none 1 (.str ⟨#[]⟩) 3 [(0, .c (.str ⟨#[49]⟩)), (1, .c (.str ⟨#[50]⟩)), (2, .c (.str ⟨#[]⟩))], none, [], []⟩,
    ⟨some 34, .mov (.t 0), none, [], []⟩,
    ⟨some 35, .call none 26 [.t 34, .c (.int .i64 3)], none, [0], [3]⟩,
    ⟨some 36, .iaddr 1 (.t 33) (.t 35), none, [], [2, 3, 4]⟩,
    ⟨some 37, .load 1 false (.t 36), none, [], [2, 3, 4, 5]⟩,
    ⟨some 38, .build [.str ⟨#[]⟩, .str ⟨#[]⟩] [(0, 1, .c (.str ⟨#[121, 101, 97, 114]⟩)), (1, 1, .t 37)], none, [], [2, 3, 4, 5, 6]⟩,
    ⟨some 39, .buildSl none 2 (.agg [.str ⟨#[]⟩, .str ⟨#[]⟩]) 1 [(0, .t 38)], none, [], [2, 3, 4, 5, 6, 7]⟩,
    ⟨some 40, .iaddr 4 (.t 32) (.c (.int .i64 0)), none, [103], [0, 1, 2, 3, 4, 5, 6, 7, 8]⟩,
    ⟨some 41, .faddr 3 (.t 40), none, [103], [0, 1, 2, 3, 4, 5, 6, 7, 8, 9]⟩,
    ⟨none, .store 1 (.t 41) (.t 39), none, [103], [0, 1, 2, 3, 4, 5, 6, 7, 8, 9, 10]⟩] true)
  .skip)))
  (.seq (.seq (.gadopt 104 1 100 1 (.region [
    ⟨some 9, .mov (.c (.int .i64 0)), none, [], []⟩] false))
  (.block 0 (.gmask [0, 6, 7, 8, 9] [0, 100, 103, 104, 105] ic25_0)))
  (.seq (.region [
    ⟨some 11, .nilarr 102 4, none, [102], []⟩] false)
  (.seq (.seq (.region [
    ⟨some 68, .mov (.t 0), none, [], []⟩,
    ⟨some 69, .call none 26 [.t 68, .c (.int .i64 5)], none, [0], []⟩,
    ⟨some 12, .mov (.t 69), none, [], []⟩] false)
  (.block 2 (.gmask [0, 6, 7, 8, 11, 12] [0, 100, 102, 103, 104, 105] ic25_2)))
  (.seq (.region [
    ⟨some 166, .mov (.t 11), none, [], []⟩,
    ⟨some 167, .call none 50 [.t 166], none, [102], []⟩,
    ⟨some 168, .faddr 3 (.t 8), none, [], []⟩,
    ⟨none, .store 1 (.t 168) (.t 167), none, [104], []⟩] false)
  (.seq (.region [
    ⟨some 169, .mov (.t 0), none, [], []⟩,
    ⟨some 170, .call none 51 [.t 169, .t 8], none, [0, 100, 103, 104], []⟩] false)
  (.seq (.seq (.region [
    ⟨some 171, .mov (.t 0), none, [], []⟩,
    ⟨some 172, .call none 26 [.t 171, .c (.int .i64 2)], none, [0], []⟩,
    ⟨some 173, .bin .eql (.t 172) (.c (.int .i64 1)), none, [], []⟩] false)
  (.gpost [6, 8] [0, 100, 103, 104, 105] (.cond (.t 173) (.region [
    ⟨some 174, .mov (.t 0), none, [], []⟩,
    ⟨some 175, .call none 52 [.t 174, .t 8], none, [0, 100, 103, 104], []⟩] false)
  .skip)))
  (.seq (.region [
    ⟨some 176, .load 7 true (.t 8), none, [104], []⟩,
    ⟨none, .store 7 (.t 6) (.t 176), none, [105], []⟩] false)
  (.gmask [6] [0, 100, 103, 105] .ret))))))))))))
def F25 : IFunc := ⟨3, 177, [.cell 6 7 true], ic25, none⟩

/-- (*corpora/corporamade.Tape).Next -/
def ic26 : IC :=
  (.seq (.region [
    ⟨some 4, .mov (.c (.int .i64 0)), none, [], []⟩] false)
  (.seq (.seq (.region [
    ⟨some 5, .mov (.t 0), none, [], []⟩,
    ⟨some 6, .nilChk (.t 5), none, [0], [0]⟩,
    ⟨some 7, .faddr 1 (.t 6), none, [], [0, 1]⟩,
    ⟨some 8, .load 1 false (.t 7), none, [0], [0, 1, 2]⟩,
    ⟨some 9, .mov (.t 0), none, [], []⟩,
    ⟨some 10, .nilChk (.t 9), none, [0], [4]⟩,
    ⟨some 11, .faddr 0 (.t 10), none, [], [4, 5]⟩,
    ⟨some 12, .load 1 false (.t 11), none, [0], [4, 5, 6]⟩,
    ⟨some 13, .len false (.t 12), none, [], [4, 5, 6, 7]⟩,
    ⟨some 14, .bin .geq (.t 8) (.t 13), none, [], [0, 1, 2, 3, 4, 5, 6, 7, 8]⟩] true)
  (.cond (.t 14) (.seq (.region [
    ⟨some 4, .mov (.c (.int .i64 0)), none, [], []⟩] false)
  (.gmask [4] [0] .ret))
  .skip))
  (.seq (.region [
    ⟨some 15, .mov (.t 0), none, [], []⟩,
    ⟨some 16, .nilChk (.t 15), none, [0], []⟩,
    ⟨some 17, .faddr 1 (.t 16), none, [], []⟩,
    ⟨some 18, .load 1 false (.t 17), none, [0], []⟩,
    ⟨some 19, .bin .add (.t 18) (.c (.int .i64 1)), none, [], []⟩,
    ⟨some 20, .nilChk (.t 15), none, [0], []⟩,
    ⟨some 21, .faddr 1 (.t 20), none, [], []⟩,
    ⟨none, .store 1 (.t 21) (.t 19), none, [0], []⟩] false)
  (.seq (.region [
    ⟨some 22, .mov (.t 0), none, [], []⟩,
    ⟨some 23, .nilChk (.t 22), none, [0], [0]⟩,
    ⟨some 24, .faddr 0 (.t 23), none, [], [0, 1]⟩,
    ⟨some 25, .load 1 false (.t 24), none, [0], [0, 1, 2]⟩,
    ⟨some 26, .mov (.t 0), none, [], []⟩,
    ⟨some 27, .nilChk (.t 26), none, [0], [4]⟩,
    ⟨some 28, .faddr 1 (.t 27), none, [], [4, 5]⟩,
    ⟨some 29, .load 1 false (.t 28), none, [0], [4, 5, 6]⟩,
    ⟨some 30, .bin .sub (.t 29) (.c (.int .i64 1)), none, [], [4, 5, 6, 7]⟩,
    ⟨some 31, .iaddr 1 (.t 25) (.t 30), none, [], [0, 1, 2, 3, 4, 5, 6, 7, 8]⟩,
    ⟨some 32, .load 1 false (.t 31), none, [], [0, 1, 2, 3, 4, 5, 6, 7, 8, 9]⟩,
    ⟨some 33, .mov (.t 1), none, [], []⟩,
    ⟨some 34, .call none 17 [.t 32, .t 33], none, [], [0, 1, 2, 3, 4, 5, 6, 7, 8, 9, 10, 11]⟩,
    ⟨some 4, .mov (.t 34), none, [], [0, 1, 2, 3, 4, 5, 6, 7, 8, 9, 10, 11, 12]⟩] true)
  (.gmask [4] [0] .ret)))))
def F26 : IFunc := ⟨2, 35, [.tmp 4], ic26, none⟩

def ic27_0_b : IC :=
  (.seq (.region [
    ⟨some 40, .bin .lss (.t 39) (.t 38), none, [], []⟩] false)
  (.seq (.cond (.t 40) .skip
  (.gmask [2, 3, 4] [104, 105, 106, 107, 108, 109, 110, 111, 112, 113] (.exit 0)))
  (.seq (.block 1 (.seq (.region [
    ⟨some 41, .iaddr 4 (.t 37) (.t 39), none, [], []⟩,
    ⟨some 42, .load 4 true (.t 41), none, [], []⟩,
    ⟨some 7, .alloc 114 [.str ⟨#[]⟩, .int .i64 0, .int .i64 0, .nil], none, [114], []⟩,
    ⟨none, .store 4 (.t 7) (.t 42), none, [114], []⟩] false)
  (.seq (.region [
    ⟨some 43, .load 7 true (.t 2), none, [111], []⟩,
    ⟨some 44, .faddr 0 (.t 7), none, [], []⟩,
    ⟨some 45, .load 1 false (.t 44), none, [114], []⟩,
    ⟨some 46, .call none 55 [.t 43, .t 45], none, [], []⟩,
    ⟨some 47, .bin .geq (.t 46) (.c (.int .i64 0)), none, [], []⟩] false)
  (.cond (.t 47) (.seq (.region [
    ⟨some 48, .build [.nil, .nil, .nil, .nil, .nil, .nil, .nil] [], none, [], []⟩,
    ⟨none, .store 7 (.t 4) (.t 48), none, [113], []⟩,
    ⟨some 5, .mov (.c (.int .i64 5)), none, [], []⟩] false)
  (.gmask [4, 5] [104, 105, 106, 107, 108, 109, 110, 113] .ret))
  .skip))))
  (.region [
    ⟨some 49, .bin .add (.t 39) (.c (.int .i64 1)), none, [], []⟩,
    ⟨some 39, .mov (.t 49), none, [], []⟩] false))))
def ic27_0 : IC := .loop [2, 3, 4, 37, 38, 39] [104, 105, 106, 107, 108, 109, 110, 111, 112, 113] ic27_0_b
def ic27_1_b : IC :=
  (.seq (.seq (.region [
    ⟨some 112, .mov (.t 11), none, [], []⟩,
    ⟨some 113, .faddr 2 (.t 10), none, [], []⟩,
    ⟨some 114, .load 1 false (.t 113), none, [115], []⟩,
    ⟨some 115, .len false (.t 114), none, [106], []⟩,
    ⟨some 116, .bin .lss (.t 112) (.t 115), none, [], []⟩] false)
  (.cond (.t 116) .skip
  (.gmask [2, 3, 4, 8, 9, 10] [104, 105, 106, 107, 108, 109, 110, 111, 112, 113, 115] (.exit 2))))
  (.seq (.block 3 (.seq (.region [
    ⟨some 119, .faddr 2 (.t 10), none, [], []⟩,
    ⟨some 120, .load 1 false (.t 119), none, [115], []⟩,
    ⟨some 121, .mov (.t 11), none, [], []⟩,
    ⟨some 122, .iaddr 4 (.t 120) (.t 121), none, [106], []⟩,
    ⟨some 123, .faddr 1 (.t 122), none, [106], []⟩,
    ⟨some 124, .load 1 false (.t 123), none, [106], []⟩,
    ⟨some 125, .mov (.t 8), none, [], []⟩,
    ⟨some 126, .bin .add (.t 124) (.t 125), none, [], []⟩,
    ⟨some 127, .iaddr 4 (.t 120) (.t 121), none, [106], []⟩,
    ⟨some 128, .faddr 1 (.t 127), none, [106], []⟩,
    ⟨none, .store 1 (.t 128) (.t 126), none, [106], []⟩] false)
  (.region [
    ⟨some 129, .faddr 2 (.t 10), none, [], []⟩,
    ⟨some 130, .load 1 false (.t 129), none, [115], []⟩,
    ⟨some 131, .mov (.t 11), none, [], []⟩,
    ⟨some 132, .iaddr 4 (.t 130) (.t 131), none, [106], []⟩,
    ⟨some 133, .faddr 2 (.t 132), none, [106], []⟩,
    ⟨some 134, .load 1 false (.t 133), none, [106], []⟩,
    ⟨some 135, .mov (.t 8), none, [], []⟩,
    ⟨some 136, .bin .add (.t 134) (.t 135), none, [], []⟩,
    ⟨some 137, .iaddr 4 (.t 130) (.t 131), none, [106], []⟩,
    ⟨some 138, .faddr 2 (.t 137), none, [106], []⟩,
    ⟨none, .store 1 (.t 138) (.t 136), none, [106], []⟩] false)))
  (.region [
    ⟨some 117, .mov (.t 11), none, [], []⟩,
    ⟨some 118, .bin .add (.t 117) (.c (.int .i64 1)), none, [], []⟩,
    ⟨some 11, .mov (.t 118), none, [], []⟩] false)))
def ic27_1 : IC := .loop [2, 3, 4, 8, 9, 10, 11] [104, 105, 106, 107, 108, 109, 110, 111, 112, 113, 115] ic27_1_b
def ic27_2_b : IC :=
  (.seq (.seq (.region [
    ⟨some 149, .mov (.t 12), none, [], []⟩,
    ⟨some 150, .faddr 3 (.t 10), none, [], []⟩,
    ⟨some 151, .load 1 false (.t 150), none, [115], []⟩,
    ⟨some 152, .len false (.t 151), none, [107], []⟩,
    ⟨some 153, .bin .lss (.t 149) (.t 152), none, [], []⟩] false)
  (.cond (.t 153) .skip
  (.gmask [2, 3, 4, 8, 9, 10] [104, 105, 106, 107, 108, 109, 110, 111, 112, 113, 115] (.exit 4))))
  (.seq (.block 5 (.seq (.region [
    ⟨some 156, .faddr 3 (.t 10), none, [], []⟩,
    ⟨some 157, .load 1 false (.t 156), none, [115], []⟩,
    ⟨some 158, .mov (.t 12), none, [], []⟩,
    ⟨some 159, .iaddr 4 (.t 157) (.t 158), none, [107], []⟩,
    ⟨some 160, .faddr 1 (.t 159), none, [107], []⟩,
    ⟨some 161, .load 1 false (.t 160), none, [107], []⟩,
    ⟨some 162, .mov (.t 8), none, [], []⟩,
    ⟨some 163, .bin .add (.t 161) (.t 162), none, [], []⟩,
    ⟨some 164, .iaddr 4 (.t 157) (.t 158), none, [107], []⟩,
    ⟨some 165, .faddr 1 (.t 164), none, [107], []⟩,
    ⟨none, .store 1 (.t 165) (.t 163), none, [107], []⟩] false)
  (.region [
    ⟨some 166, .faddr 3 (.t 10), none, [], []⟩,
    ⟨some 167, .load 1 false (.t 166), none, [115], []⟩,
    ⟨some 168, .mov (.t 12), none, [], []⟩,
    ⟨some 169, .iaddr 4 (.t 167) (.t 168), none, [107], []⟩,
    ⟨some 170, .faddr 2 (.t 169), none, [107], []⟩,
    ⟨some 171, .load 1 false (.t 170), none, [107], []⟩,
    ⟨some 172, .mov (.t 8), none, [], []⟩,
    ⟨some 173, .bin .add (.t 171) (.t 172), none, [], []⟩,
    ⟨some 174, .iaddr 4 (.t 167) (.t 168), none, [107], []⟩,
    ⟨some 175, .faddr 2 (.t 174), none, [107], []⟩,
    ⟨none, .store 1 (.t 175) (.t 173), none, [107], []⟩] false)))
  (.region [
    ⟨some 154, .mov (.t 12), none, [], []⟩,
    ⟨some 155, .bin .add (.t 154) (.c (.int .i64 1)), none, [], []⟩,
    ⟨some 12, .mov (.t 155), none, [], []⟩] false)))
def ic27_2 : IC := .loop [2, 3, 4, 8, 9, 10, 12] [104, 105, 106, 107, 108, 109, 110, 111, 112, 113, 115] ic27_2_b
def ic27_3_b : IC :=
  (.seq (.seq (.region [
    ⟨some 184, .mov (.t 13), none, [], []⟩,
    ⟨some 185, .faddr 4 (.t 10), none, [], []⟩,
    ⟨some 186, .load 1 false (.t 185), none, [115], []⟩,
    ⟨some 187, .len false (.t 186), none, [108], []⟩,
    ⟨some 188, .bin .lss (.t 184) (.t 187), none, [], []⟩] false)
  (.cond (.t 188) .skip
  (.gmask [2, 3, 4, 8, 10] [104, 105, 106, 107, 108, 109, 110, 111, 112, 113, 115] (.exit 6))))
  (.seq (.block 7 (.seq (.region [
    ⟨some 191, .faddr 4 (.t 10), none, [], []⟩,
    ⟨some 192, .load 1 false (.t 191), none, [115], []⟩,
    ⟨some 193, .mov (.t 13), none, [], []⟩,
    ⟨some 194, .iaddr 4 (.t 192) (.t 193), none, [108], []⟩,
    ⟨some 195, .faddr 1 (.t 194), none, [108], []⟩,
    ⟨some 196, .load 1 false (.t 195), none, [108], []⟩,
    ⟨some 197, .mov (.t 8), none, [], []⟩,
    ⟨some 198, .bin .add (.t 196) (.t 197), none, [], []⟩,
    ⟨some 199, .iaddr 4 (.t 192) (.t 193), none, [108], []⟩,
    ⟨some 200, .faddr 1 (.t 199), none, [108], []⟩,
    ⟨none, .store 1 (.t 200) (.t 198), none, [108], []⟩] false)
  (.seq (.region [
    ⟨some 201, .faddr 4 (.t 10), none, [], []⟩,
    ⟨some 202, .load 1 false (.t 201), none, [115], []⟩,
    ⟨some 203, .mov (.t 13), none, [], []⟩,
    ⟨some 204, .iaddr 4 (.t 202) (.t 203), none, [108], []⟩,
    ⟨some 205, .faddr 2 (.t 204), none, [108], []⟩,
    ⟨some 206, .load 1 false (.t 205), none, [108], []⟩,
    ⟨some 207, .mov (.t 8), none, [], []⟩,
    ⟨some 208, .bin .add (.t 206) (.t 207), none, [], []⟩,
    ⟨some 209, .iaddr 4 (.t 202) (.t 203), none, [108], []⟩,
    ⟨some 210, .faddr 2 (.t 209), none, [108], []⟩,
    ⟨none, .store 1 (.t 210) (.t 208), none, [108], []⟩] false)
  (.seq (.region [
    ⟨some 211, .faddr 4 (.t 10), none, [], []⟩,
    ⟨some 212, .load 1 false (.t 211), none, [115], []⟩,
    ⟨some 213, .mov (.t 13), none, [], []⟩,
    ⟨some 214, .iaddr 4 (.t 212) (.t 213), none, [108], []⟩,
    ⟨some 215, .faddr 3 (.t 214), none, [108], []⟩,
    ⟨some 216, .load 1 false (.t 215), none, [108], []⟩,
    ⟨some 217, .bin .geq (.t 216) (.c (.int .i64 0)), none, [], []⟩] false)
  (.gpost [2, 3, 4, 8, 9, 10, 13] [104, 105, 106, 107, 108, 109, 110, 111, 112, 113, 115] (.cond (.t 217) (.region [
    ⟨some 218, .faddr 4 (.t 10), none, [], []⟩,
    ⟨some 219, .load 1 false (.t 218), none, [115], []⟩,
    ⟨some 220, .mov (.t 13), none, [], []⟩,
    ⟨some 221, .iaddr 4 (.t 219) (.t 220), none, [108], []⟩,
    ⟨some 222, .faddr 3 (.t 221), none, [108], []⟩,
    ⟨some 223, .load 1 false (.t 222), none, [108], []⟩,
    ⟨some 224, .mov (.t 9), none, [], []⟩,
    ⟨some 225, .bin .add (.t 223) (.t 224), none, [], []⟩,
    ⟨some 226, .iaddr 4 (.t 219) (.t 220), none, [108], []⟩,
    ⟨some 227, .faddr 3 (.t 226), none, [108], []⟩,
    ⟨none, .store 1 (.t 227) (.t 225), none, [108], []⟩] false)
  .skip))))))
  (.region [
    ⟨some 189, .mov (.t 13), none, [], []⟩,
    ⟨some 190, .bin .add (.t 189) (.c (.int .i64 1)), none, [], []⟩,
    ⟨some 13, .mov (.t 190), none, [], []⟩] false)))
def ic27_3 : IC := .loop [2, 3, 4, 8, 9, 10, 13] [104, 105, 106, 107, 108, 109, 110, 111, 112, 113, 115] ic27_3_b
def ic27_4_b : IC :=
  (.seq (.region [
    ⟨some 257, .bin .lss (.t 256) (.t 255), none, [], []⟩] false)
  (.seq (.cond (.t 257) .skip
  (.gmask [4, 10] [104, 105, 106, 107, 108, 109, 110, 113, 115] (.exit 8)))
  (.seq (.block 9 (.seq (.region [
    ⟨some 258, .iaddr 1 (.t 254) (.t 256), none, [], []⟩,
    ⟨some 259, .load 1 false (.t 258), none, [], []⟩,
    ⟨some 19, .mov (.t 259), none, [], []⟩] false)
  (.seq (.seq (.region [
    ⟨some 260, .mov (.t 19), none, [], []⟩,
    ⟨some 261, .bin .geq (.t 260) (.c (.int .i64 0)), none, [], []⟩] false)
  (.gpost [4, 8, 10, 19, 254, 255, 256] [104, 105, 106, 107, 108, 109, 110, 113, 115] (.cond (.t 261) (.region [
    ⟨some 262, .mov (.t 19), none, [], []⟩,
    ⟨some 263, .mov (.t 8), none, [], []⟩,
    ⟨some 264, .bin .add (.t 262) (.t 263), none, [], []⟩,
    ⟨some 19, .mov (.t 264), none, [], []⟩] false)
  .skip)))
  (.region [
    ⟨some 265, .faddr 5 (.t 10), none, [], []⟩,
    ⟨some 266, .load 1 false (.t 265), none, [115], []⟩,
    ⟨some 267, .mov (.t 19), none, [], []⟩,
    ⟨some 268, .buildSl none 1 (.int .i64 0) 1 [(0, .t 267)], none, [], []⟩,
    ⟨some 269, .app none 1 8 (.t 266) (.t 268), none, [109], []⟩,
    ⟨some 270, .faddr 5 (.t 10), none, [], []⟩,
    ⟨none, .store 1 (.t 270) (.t 269), none, [115], []⟩] false))))
  (.region [
    ⟨some 271, .bin .add (.t 256) (.c (.int .i64 1)), none, [], []⟩,
    ⟨some 256, .mov (.t 271), none, [], []⟩] false))))
def ic27_4 : IC := .loop [4, 8, 10, 254, 255, 256] [104, 105, 106, 107, 108, 109, 110, 113, 115] ic27_4_b
/-- corpora/corporaref06.Concat -/
def ic27 : IC :=
  (.seq (.region [
    ⟨some 2, .box 111 7 (.t 0), none, [111], []⟩,
    ⟨some 3, .box 112 7 (.t 1), none, [112], []⟩,
    ⟨some 4, .alloc 113 [.nil, .nil, .nil, .nil, .nil, .nil, .nil], none, [113], []⟩,
    ⟨some 5, .mov (.c (.int .i64 0)), none, [], []⟩] false)
  (.seq (.seq (.region [
    ⟨some 20, .load 7 true (.t 2), none, [111], []⟩,
    ⟨some 21, .call none 53 [.t 20], none, [], []⟩,
    ⟨some 22, .un .not (.t 21), none, [], []⟩,
    ⟨some 23, .mov (.t 22), none, [], []⟩,
    ⟨some 24, .load 7 true (.t 3), some (23, false), [112], []⟩,
    ⟨some 25, .call none 53 [.t 24], some (23, false), [], []⟩,
    ⟨some 26, .un .not (.t 25), some (23, false), [], []⟩,
    ⟨some 27, .pick (.t 23) (.c (.bool true)) (.t 26), none, [], []⟩] false)
  (.cond (.t 27) (.seq (.region [
    ⟨some 28, .build [.nil, .nil, .nil, .nil, .nil, .nil, .nil] [], none, [], []⟩,
    ⟨none, .store 7 (.t 4) (.t 28), none, [113], []⟩,
    ⟨some 5, .mov (.c (.int .i64 1)), none, [], []⟩] false)
  (.gmask [4, 5] [104, 105, 106, 107, 108, 109, 110, 113] .ret))
  .skip))
  (.seq (.seq (.region [
    ⟨some 29, .faddr 0 (.t 2), none, [], []⟩,
    ⟨some 30, .load 1 false (.t 29), none, [111], []⟩,
    ⟨some 31, .faddr 0 (.t 3), none, [], []⟩,
    ⟨some 32, .load 1 false (.t 31), none, [112], []⟩,
    ⟨some 33, .call none 54 [.t 30, .t 32], none, [], []⟩,
    ⟨some 34, .un .not (.t 33), none, [], []⟩] false)
  (.cond (.t 34) (.seq (.region [
    ⟨some 35, .build [.nil, .nil, .nil, .nil, .nil, .nil, .nil] [], none, [], []⟩,
    ⟨none, .store 7 (.t 4) (.t 35), none, [113], []⟩,
    ⟨some 5, .mov (.c (.int .i64 17)), none, [], []⟩] false)
  (.gmask [4, 5] [104, 105, 106, 107, 108, 109, 110, 113] .ret))
  .skip))
  (.seq (.seq (.region [
    ⟨some 36, .faddr 2 (.t 3), none, [], []⟩,
    ⟨some 37, .load 1 false (.t 36), none, [112], []⟩,
    ⟨some 38, .len false (.t 37), none, [], []⟩,
    ⟨some 39, .mov (.c (.int .i64 0)), none, [], []⟩] false)
  (.block 0 (.gmask [2, 3, 4, 37, 38, 39] [104, 105, 106, 107, 108, 109, 110, 111, 112, 113] ic27_0)))
  (.seq (.region [
    ⟨some 50, .faddr 1 (.t 2), none, [], []⟩,
    ⟨some 51, .load 1 false (.t 50), none, [111], [0]⟩,
    ⟨some 52, .len false (.t 51), none, [], [0, 1]⟩,
    ⟨some 53, .faddr 4 (.t 2), none, [], []⟩,
    ⟨some 54, .load 1 false (.t 53), none, [111], [3]⟩,
    ⟨some 55, .len false (.t 54), none, [], [3, 4]⟩,
    ⟨some 8, .mov (.t 52), none, [], [0, 1, 2]⟩,
    ⟨some 9, .mov (.t 55), none, [], [0, 1, 2, 3, 4, 5, 6]⟩] true)
  (.seq (.seq (.region [
    ⟨some 56, .mov (.t 8), none, [], []⟩,
    ⟨some 57, .faddr 1 (.t 3), none, [], []⟩,
    ⟨some 58, .load 1 false (.t 57), none, [112], []⟩,
    ⟨some 59, .len false (.t 58), none, [], []⟩,
    ⟨some 60, .bin .add (.t 56) (.t 59), none, [], []⟩,
    ⟨some 61, .bin .gtr (.t 60) (.c (.int .i64 4096)), none, [], []⟩,
    ⟨some 62, .mov (.t 61), none, [], []⟩,
    ⟨some 63, .faddr 2 (.t 2), some (62, false), [], []⟩,
    ⟨some 64, .load 1 false (.t 63), some (62, false), [111], []⟩,
    ⟨some 65, .len false (.t 64), some (62, false), [], []⟩,
    ⟨some 66, .faddr 2 (.t 3), some (62, false), [], []⟩,
    ⟨some 67, .load 1 false (.t 66), some (62, false), [112], []⟩,
    ⟨some 68, .len false (.t 67), some (62, false), [], []⟩,
    ⟨some 69, .bin .add (.t 65) (.t 68), some (62, false), [], []⟩,
    ⟨some 70, .bin .gtr (.t 69) (.c (.int .i64 64)), some (62, false), [], []⟩,
    ⟨some 71, .pick (.t 62) (.c (.bool true)) (.t 70), none, [], []⟩,
    ⟨some 72, .mov (.t 71), none, [], []⟩,
    ⟨some 73, .faddr 3 (.t 2), some (72, false), [], []⟩,
    ⟨some 74, .load 1 false (.t 73), some (72, false), [111], []⟩,
    ⟨some 75, .len false (.t 74), some (72, false), [], []⟩,
    ⟨some 76, .faddr 3 (.t 3), some (72, false), [], []⟩,
    ⟨some 77, .load 1 false (.t 76), some (72, false), [112], []⟩,
    ⟨some 78, .len false (.t 77), some (72, false), [], []⟩,
    ⟨some 79, .bin .add (.t 75) (.t 78), some (72, false), [], []⟩,
    ⟨some 80, .bin .gtr (.t 79) (.c (.int .i64 1024)), some (72, false), [], []⟩,
    ⟨some 81, .pick (.t 72) (.c (.bool true)) (.t 80), none, [], []⟩,
    ⟨some 82, .mov (.t 81), none, [], []⟩,
    ⟨some 83, .mov (.t 9), some (82, false), [], []⟩,
    ⟨some 84, .faddr 4 (.t 3), some (82, false), [], []⟩,
    ⟨some 85, .load 1 false (.t 84), some (82, false), [112], []⟩,
    ⟨some 86, .len false (.t 85), some (82, false), [], []⟩,
    ⟨some 87, .bin .add (.t 83) (.t 86), some (82, false), [], []⟩,
    ⟨some 88, .bin .gtr (.t 87) (.c (.int .i64 2048)), some (82, false), [], []⟩,
    ⟨some 89, .pick (.t 82) (.c (.bool true)) (.t 88), none, [], []⟩] false)
  (.cond (.t 89) (.seq (.region [
    ⟨some 90, .build [.nil, .nil, .nil, .nil, .nil, .nil, .nil] [], none, [], []⟩,
    ⟨none, .store 7 (.t 4) (.t 90), none, [113], []⟩,
    ⟨some 5, .mov (.c (.int .i64 2)), none, [], []⟩] false)
  (.gmask [4, 5] [104, 105, 106, 107, 108, 109, 110, 113] .ret))
  .skip))
  (.seq (.region [
    ⟨some 91, .faddr 0 (.t 2), none, [], []⟩,
    ⟨some 92, .load 1 false (.t 91), none, [111], []⟩,
    ⟨some 93, .app (some 104) 2 24 (.c (.nil)) (.t 92), none, [104], []⟩,
    ⟨some 94, .build [.nil, .nil, .nil, .nil, .nil, .nil, .nil] [(0, 1, .t 93)], none, [], []⟩,
    ⟨some 10, .alloc 115 [.nil, .nil, .nil, .nil, .nil, .nil, .nil], none, [115], []⟩,
    ⟨none, .store 7 (.t 10) (.t 94), none, [115], []⟩] false)
  (.seq (.region [
    ⟨some 95, .faddr 1 (.t 2), none, [], []⟩,
    ⟨some 96, .load 1 false (.t 95), none, [111], [0]⟩,
    ⟨some 97, .app (some 105) 1 24 (.c (.nil)) (.t 96), none, [105], [0, 1]⟩,
    ⟨some 98, .faddr 1 (.t 3), none, [], []⟩,
    ⟨some 99, .load 1 false (.t 98), none, [112], [3]⟩,
    ⟨some 100, .app none 1 24 (.t 97) (.t 99), none, [105], [0, 1, 2, 3, 4]⟩,
    ⟨some 101, .faddr 1 (.t 10), none, [], [0, 1, 2, 3, 4, 5]⟩,
    ⟨none, .store 1 (.t 101) (.t 100), none, [115], [0, 1, 2, 3, 4, 5, 6]⟩] true)
  (.seq (.region [
    ⟨some 102, .faddr 2 (.t 2), none, [], []⟩,
    ⟨some 103, .load 1 false (.t 102), none, [111], [0]⟩,
    ⟨some 104, .app (some 106) 4 56 (.c (.nil)) (.t 103), none, [106], [0, 1]⟩,
    ⟨some 105, .faddr 2 (.t 3), none, [], []⟩,
    ⟨some 106, .load 1 false (.t 105), none, [112], [3]⟩,
    ⟨some 107, .app none 4 56 (.t 104) (.t 106), none, [106], [0, 1, 2, 3, 4]⟩,
    ⟨some 108, .faddr 2 (.t 10), none, [], [0, 1, 2, 3, 4, 5]⟩,
    ⟨none, .store 1 (.t 108) (.t 107), none, [115], [0, 1, 2, 3, 4, 5, 6]⟩] true)
  (.seq (.seq (.region [
    ⟨some 109, .faddr 2 (.t 2), none, [], []⟩,
    ⟨some 110, .load 1 false (.t 109), none, [111], []⟩,
    ⟨some 111, .len false (.t 110), none, [], []⟩,
    ⟨some 11, .mov (.t 111), none, [], []⟩] false)
  (.block 2 (.gmask [2, 3, 4, 8, 9, 10, 11] [104, 105, 106, 107, 108, 109, 110, 111, 112, 113, 115] ic27_1)))
  (.seq (.region [
    ⟨some 139, .faddr 3 (.t 2), none, [], []⟩,
    ⟨some 140, .load 1 false (.t 139), none, [111], [0]⟩,
    ⟨some 141, .app (some 107) 4 56 (.c (.nil)) (.t 140), none, [107], [0, 1]⟩,
    ⟨some 142, .faddr 3 (.t 3), none, [], []⟩,
    ⟨some 143, .load 1 false (.t 142), none, [112], [3]⟩,
    ⟨some 144, .app none 4 56 (.t 141) (.t 143), none, [107], [0, 1, 2, 3, 4]⟩,
    ⟨some 145, .faddr 3 (.t 10), none, [], [0, 1, 2, 3, 4, 5]⟩,
    ⟨none, .store 1 (.t 145) (.t 144), none, [115], [0, 1, 2, 3, 4, 5, 6]⟩] true)
  (.seq (.seq (.region [
    ⟨some 146, .faddr 3 (.t 2), none, [], []⟩,
    ⟨some 147, .load 1 false (.t 146), none, [111], []⟩,
    ⟨some 148, .len false (.t 147), none, [], []⟩,
    ⟨some 12, .mov (.t 148), none, [], []⟩] false)
  (.block 4 (.gmask [2, 3, 4, 8, 9, 10, 12] [104, 105, 106, 107, 108, 109, 110, 111, 112, 113, 115] ic27_2)))
  (.seq (.region [
    ⟨some 176, .faddr 4 (.t 2), none, [], []⟩,
    ⟨some 177, .load 1 false (.t 176), none, [111], [0]⟩,
    ⟨some 178, .app (some 108) 4 40 (.c (.nil)) (.t 177), none, [108], [0, 1]⟩,
    ⟨some 179, .faddr 4 (.t 3), none, [], []⟩,
    ⟨some 180, .load 1 false (.t 179), none, [112], [3]⟩,
    ⟨some 181, .app none 4 40 (.t 178) (.t 180), none, [108], [0, 1, 2, 3, 4]⟩,
    ⟨some 182, .faddr 4 (.t 10), none, [], [0, 1, 2, 3, 4, 5]⟩,
    ⟨none, .store 1 (.t 182) (.t 181), none, [115], [0, 1, 2, 3, 4, 5, 6]⟩] true)
  (.seq (.seq (.region [
    ⟨some 183, .mov (.t 9), none, [], []⟩,
    ⟨some 13, .mov (.t 183), none, [], []⟩] false)
  (.block 6 (.gmask [2, 3, 4, 8, 9, 10, 13] [104, 105, 106, 107, 108, 109, 110, 111, 112, 113, 115] ic27_3)))
  (.seq (.seq (.region [
    ⟨some 228, .faddr 5 (.t 2), none, [], []⟩,
    ⟨some 229, .load 1 false (.t 228), none, [111], []⟩,
    ⟨some 230, .len false (.t 229), none, [], []⟩,
    ⟨some 231, .faddr 5 (.t 3), none, [], []⟩,
    ⟨some 232, .load 1 false (.t 231), none, [112], []⟩,
    ⟨some 233, .len false (.t 232), none, [], []⟩,
    ⟨some 234, .bin .add (.t 230) (.t 233), none, [], []⟩,
    ⟨some 235, .bin .gtr (.t 234) (.c (.int .i64 0)), none, [], []⟩] false)
  (.gpost [4, 10] [104, 105, 106, 107, 108, 109, 110, 113, 115] (.cond (.t 235) (.seq (.region [
    ⟨some 237, .load 7 true (.t 2), none, [111], []⟩,
    ⟨some 238, .call none 56 [.t 237], none, [], []⟩,
    ⟨some 236, .mov (.t 238), none, [], []⟩,
    ⟨some 239, .extract (.t 236) 0, none, [], []⟩,
    ⟨some 240, .extract (.t 236) 1, none, [], []⟩,
    ⟨some 14, .mov (.t 239), none, [], []⟩,
    ⟨some 15, .mov (.t 240), none, [], []⟩] false)
  (.seq (.region [
    ⟨some 242, .load 7 true (.t 3), none, [112], []⟩,
    ⟨some 243, .call none 56 [.t 242], none, [], []⟩,
    ⟨some 241, .mov (.t 243), none, [], []⟩,
    ⟨some 244, .extract (.t 241) 0, none, [], []⟩,
    ⟨some 245, .extract (.t 241) 1, none, [], []⟩,
    ⟨some 16, .mov (.t 244), none, [], []⟩,
    ⟨some 17, .mov (.t 245), none, [], []⟩] false)
  (.seq (.region [
    ⟨some 246, .mov (.t 14), none, [], []⟩,
    ⟨some 247, .app (some 109) 1 8 (.c (.nil)) (.t 246), none, [109], []⟩,
    ⟨some 248, .mov (.t 15), none, [], []⟩,
    ⟨some 249, .app (some 110) 1 16 (.c (.nil)) (.t 248), none, [110], []⟩,
    ⟨some 250, .mov (.t 17), none, [], []⟩,
    ⟨some 251, .app none 1 16 (.t 249) (.t 250), none, [110], []⟩,
    ⟨some 252, .faddr 5 (.t 10), none, [], []⟩,
    ⟨none, .store 1 (.t 252) (.t 247), none, [115], []⟩,
    ⟨some 253, .faddr 6 (.t 10), none, [], []⟩,
    ⟨none, .store 1 (.t 253) (.t 251), none, [115], []⟩] false)
  (.seq (.region [
    ⟨some 254, .mov (.t 16), none, [], []⟩,
    ⟨some 255, .len false (.t 254), none, [], []⟩,
    ⟨some 256, .mov (.c (.int .i64 0)), none, [], []⟩] false)
  (.block 8 (.gmask [4, 8, 10, 254, 255, 256] [104, 105, 106, 107, 108, 109, 110, 113, 115] ic27_4))))))
  .skip)))
  (.seq (.region [
    ⟨some 272, .load 7 true (.t 10), none, [115], []⟩,
    ⟨none, .store 7 (.t 4) (.t 272), none, [113], []⟩,
    ⟨some 5, .mov (.c (.int .i64 0)), none, [], []⟩] false)
  (.gmask [4, 5] [104, 105, 106, 107, 108, 109, 110, 113] .ret)))))))))))))))))
def F27 : IFunc := ⟨2, 273, [.cell 4 7 true, .tmp 5], ic27, none⟩

/-- corpora/corporamade.Type -/
def ic28 : IC :=
  (.seq (.region [
    ⟨some 2, .mov (.c (.str ⟨#[]⟩)), none, [], []⟩] false)
  (.seq (.region [
    ⟨some 3, .buildSl none 1 (.str ⟨#[]⟩) 3 [(0, .c (.str ⟨#[115]⟩)), (1, .c (.str ⟨#[110, 112]⟩)), (2, .c (.str ⟨#[116]⟩))], none, [], []⟩,
    ⟨some 4, .mov (.t 0), none, [], []⟩,
    ⟨some 5, .call none 17 [.t 4, .c (.int .i64 3)], none, [], []⟩,
    ⟨some 6, .iaddr 1 (.t 3) (.t 5), none, [], []⟩,
    ⟨some 7, .load 1 false (.t 6), none, [], []⟩,
    ⟨some 2, .mov (.t 7), none, [], []⟩] false)
  (.gmask [2] [] .ret)))
def F28 : IFunc := ⟨1, 8, [.tmp 2], ic28, none⟩

/-- corpora/query.Sound -/
def ic29 : IC :=
  (.seq (.region [
    ⟨some 1, .box 100 11 (.t 0), none, [100], []⟩,
    ⟨some 2, .mov (.c (.bool false)), none, [], []⟩] false)
  (.seq (.seq (.region [
    ⟨some 5, .load 11 true (.t 1), none, [100], []⟩,
    ⟨some 6, .call none 57 [.t 5], none, [], []⟩] false)
  (.cond (.t 6) (.seq (.region [
    ⟨some 2, .mov (.c (.bool true)), none, [], []⟩] false)
  (.gmask [2] [] .ret))
  .skip))
  (.seq (.region [
    ⟨some 8, .load 11 true (.t 1), none, [100], []⟩,
    ⟨some 9, .call none 58 [.t 8, .c (.int .i64 0), .c (.int .i64 1)], none, [], []⟩,
    ⟨some 7, .mov (.t 9), none, [], []⟩,
    ⟨some 10, .extract (.t 7) 0, none, [], []⟩,
    ⟨some 11, .extract (.t 7) 1, none, [], []⟩,
    ⟨some 3, .mov (.t 10), none, [], []⟩,
    ⟨some 4, .mov (.t 11), none, [], []⟩] false)
  (.seq (.region [
    ⟨some 12, .mov (.t 3), none, [], []⟩,
    ⟨some 13, .bin .leq (.t 12) (.c (.int .i64 60)), none, [], []⟩,
    ⟨some 14, .mov (.t 13), none, [], []⟩,
    ⟨some 15, .mov (.t 4), some (14, true), [], []⟩,
    ⟨some 16, .bin .leq (.t 15) (.c (.int .i64 20)), some (14, true), [], []⟩,
    ⟨some 17, .pick (.t 14) (.t 16) (.c (.bool false)), none, [], []⟩,
    ⟨some 18, .mov (.t 17), none, [], []⟩,
    ⟨some 19, .load 11 true (.t 1), some (18, true), [100], []⟩,
    ⟨some 20, .call none 59 [.t 19, .c (.fn 60)], some (18, true), [], []⟩,
    ⟨some 21, .pick (.t 18) (.t 20) (.c (.bool false)), none, [], []⟩,
    ⟨some 2, .mov (.t 21), none, [], []⟩] false)
  (.gmask [2] [] .ret)))))
def F29 : IFunc := ⟨1, 22, [.tmp 2], ic29, none⟩

/-- corpora/global.known -/
def ic30 : IC :=
  (.seq (.region [
    ⟨some 2, .box 100 7 (.t 0), none, [100], []⟩,
    ⟨some 3, .box 101 11 (.t 1), none, [101], []⟩,
    ⟨some 4, .mov (.c (.bool false)), none, [], []⟩] false)
  (.seq (.seq (.region [
    ⟨some 5, .faddr 0 (.t 3), none, [], []⟩,
    ⟨some 6, .load 1 false (.t 5), none, [101], []⟩] false)
  (.block 0 (.seq (.region [
    ⟨some 8, .bin .eql (.t 6) (.c (.int .i64 2)), none, [], []⟩,
    ⟨some 7, .mov (.t 8), none, [], []⟩] false)
  (.gpost [2, 3] [100, 101] (.cond (.t 7) (.seq (.region [
    ⟨some 9, .faddr 0 (.t 2), none, [], []⟩,
    ⟨some 10, .load 1 false (.t 9), none, [100], []⟩,
    ⟨some 11, .faddr 3 (.t 3), none, [], []⟩,
    ⟨some 12, .load 1 false (.t 11), none, [101], []⟩,
    ⟨some 13, .call none 61 [.t 10, .t 12], none, [], []⟩,
    ⟨some 14, .bin .lss (.t 13) (.c (.int .i64 0)), none, [], []⟩,
    ⟨some 15, .mov (.t 14), none, [], []⟩,
    ⟨some 16, .faddr 5 (.t 3), some (15, false), [], []⟩,
    ⟨some 17, .load 1 false (.t 16), some (15, false), [101], []⟩,
    ⟨some 18, .call none 62 [.t 17], some (15, false), [], []⟩,
    ⟨some 19, .bin .neq (.t 18) (.c (.int .i64 0)), some (15, false), [], []⟩,
    ⟨some 20, .pick (.t 15) (.c (.bool true)) (.t 19), none, [], []⟩] false)
  (.cond (.t 20) (.seq (.region [
    ⟨some 4, .mov (.c (.bool false)), none, [], []⟩] false)
  (.gmask [4] [] .ret))
  .skip))
  (.seq (.region [
    ⟨some 22, .bin .eql (.t 6) (.c (.int .i64 3)), none, [], []⟩,
    ⟨some 21, .mov (.t 22), none, [], []⟩] false)
  (.gpost [2, 3] [100, 101] (.cond (.t 21) (.seq (.region [
    ⟨some 23, .faddr 0 (.t 2), none, [], []⟩,
    ⟨some 24, .load 1 false (.t 23), none, [100], []⟩,
    ⟨some 25, .faddr 3 (.t 3), none, [], []⟩,
    ⟨some 26, .load 1 false (.t 25), none, [101], []⟩,
    ⟨some 27, .call none 61 [.t 24, .t 26], none, [], []⟩,
    ⟨some 28, .bin .lss (.t 27) (.c (.int .i64 0)), none, [], []⟩,
    ⟨some 29, .mov (.t 28), none, [], []⟩,
    ⟨some 30, .faddr 0 (.t 2), some (29, false), [], []⟩,
    ⟨some 31, .load 1 false (.t 30), some (29, false), [100], []⟩,
    ⟨some 32, .faddr 4 (.t 3), some (29, false), [], []⟩,
    ⟨some 33, .load 1 false (.t 32), some (29, false), [101], []⟩,
    ⟨some 34, .call none 61 [.t 31, .t 33], some (29, false), [], []⟩,
    ⟨some 35, .bin .lss (.t 34) (.c (.int .i64 0)), some (29, false), [], []⟩,
    ⟨some 36, .pick (.t 29) (.c (.bool true)) (.t 35), none, [], []⟩] false)
  (.cond (.t 36) (.seq (.region [
    ⟨some 4, .mov (.c (.bool false)), none, [], []⟩] false)
  (.gmask [4] [] .ret))
  .skip))
  .skip))))))))
  (.seq (.region [
    ⟨some 37, .faddr 10 (.t 3), none, [], []⟩,
    ⟨some 38, .load 1 false (.t 37), none, [101], []⟩,
    ⟨some 39, .mkFn 64 2 [] [.t 2], none, [100], []⟩,
    ⟨some 40, .call none 63 [.t 38, .t 39], none, [], []⟩,
    ⟨some 41, .un .not (.t 40), none, [], []⟩,
    ⟨some 4, .mov (.t 41), none, [], []⟩] false)
  (.gmask [4] [] .ret))))
def F30 : IFunc := ⟨2, 42, [.tmp 4], ic30, none⟩

/-- corpora/global.fits -/
def ic31 : IC :=
  (.seq (.region [
    ⟨some 3, .box 100 7 (.t 0), none, [100], []⟩,
    ⟨some 5, .box 101 3 (.t 2), none, [101], []⟩,
    ⟨some 6, .mov (.c (.bool false)), none, [], []⟩] false)
  (.seq (.region [
    ⟨some 7, .faddr 2 (.t 5), none, [], []⟩,
    ⟨some 8, .load 1 false (.t 7), none, [101], []⟩,
    ⟨some 9, .len false (.t 8), none, [], []⟩,
    ⟨some 10, .mov (.t 1), none, [], []⟩,
    ⟨some 11, .len false (.t 10), none, [], []⟩,
    ⟨some 12, .bin .eql (.t 9) (.t 11), none, [], []⟩,
    ⟨some 13, .mov (.t 12), none, [], []⟩,
    ⟨some 14, .faddr 2 (.t 5), some (13, true), [], []⟩,
    ⟨some 15, .load 1 false (.t 14), some (13, true), [101], []⟩,
    ⟨some 16, .mkFn 66 3 [] [.t 3], some (13, true), [100], []⟩,
    ⟨some 17, .call none 65 [.t 15, .t 16], some (13, true), [], []⟩,
    ⟨some 18, .un .not (.t 17), some (13, true), [], []⟩,
    ⟨some 19, .pick (.t 13) (.t 18) (.c (.bool false)), none, [], []⟩,
    ⟨some 6, .mov (.t 19), none, [], []⟩] false)
  (.gmask [6] [] .ret)))
def F31 : IFunc := ⟨3, 20, [.tmp 6], ic31, none⟩

/-- corpora/global.holds -/
def ic32 : IC :=
  (.seq (.region [
    ⟨some 4, .box 100 7 (.t 0), none, [100], []⟩,
    ⟨some 5, .box 101 11 (.t 1), none, [101], []⟩,
    ⟨some 6, .box 102 1 (.t 2), none, [102], []⟩,
    ⟨some 7, .box 103 3 (.t 3), none, [103], []⟩,
    ⟨some 8, .mov (.c (.bool false)), none, [], []⟩] false)
  (.seq (.region [
    ⟨some 14, .mkFn 67 4 [] [.t 4, .t 6, .t 7], none, [100, 102, 103], []⟩,
    ⟨some 9, .alloc 104 [.nilfn], none, [104], []⟩,
    ⟨none, .store 1 (.t 9) (.t 14), none, [104], []⟩] false)
  (.seq (.seq (.region [
    ⟨some 15, .faddr 0 (.t 5), none, [], []⟩,
    ⟨some 16, .load 1 false (.t 15), none, [101], []⟩] false)
  (.block 0 (.seq (.region [
    ⟨some 18, .bin .eql (.t 16) (.c (.int .i64 0)), none, [], []⟩,
    ⟨some 17, .mov (.t 18), none, [], []⟩] false)
  (.cond (.t 17) (.seq (.region [
    ⟨some 8, .mov (.c (.bool true)), none, [], []⟩] false)
  (.gmask [8] [] .ret))
  (.seq (.region [
    ⟨some 20, .bin .eql (.t 16) (.c (.int .i64 11)), none, [], []⟩,
    ⟨some 19, .mov (.t 20), none, [], []⟩] false)
  (.cond (.t 19) (.seq (.region [
    ⟨some 21, .load 1 false (.t 9), none, [104], []⟩,
    ⟨some 22, .faddr 10 (.t 5), none, [], []⟩,
    ⟨some 23, .load 1 false (.t 22), none, [101], [1]⟩,
    ⟨some 24, .iaddr 11 (.t 23) (.c (.int .i64 0)), none, [], [1, 2]⟩,
    ⟨some 25, .load 11 true (.t 24), none, [], [1, 2, 3]⟩,
    ⟨some 26, .callv (.t 21) [60, 64, 66, 67, 68, 87, 89, 97, 98, 99, 100, 101, 102, 103, 124, 125, 127, 130, 167] [.t 25], none, [], [0, 1, 2, 3, 4]⟩,
    ⟨some 27, .un .not (.t 26), none, [], [0, 1, 2, 3, 4, 5]⟩,
    ⟨some 8, .mov (.t 27), none, [], [0, 1, 2, 3, 4, 5, 6]⟩] true)
  (.gmask [8] [] .ret))
  (.seq (.region [
    ⟨some 29, .bin .eql (.t 16) (.c (.int .i64 12)), none, [], []⟩,
    ⟨some 28, .mov (.t 29), none, [], []⟩] false)
  (.cond (.t 28) (.seq (.region [
    ⟨some 30, .faddr 10 (.t 5), none, [], []⟩,
    ⟨some 31, .load 1 false (.t 30), none, [101], []⟩,
    ⟨some 32, .mkFn 68 4 [] [.t 9], none, [104], []⟩,
    ⟨some 33, .call none 63 [.t 31, .t 32], none, [], []⟩,
    ⟨some 34, .un .not (.t 33), none, [], []⟩,
    ⟨some 8, .mov (.t 34), none, [], []⟩] false)
  (.gmask [8] [] .ret))
  (.seq (.region [
    ⟨some 36, .bin .eql (.t 16) (.c (.int .i64 13)), none, [], []⟩,
    ⟨some 35, .mov (.t 36), none, [], []⟩] false)
  (.cond (.t 35) (.seq (.region [
    ⟨some 37, .faddr 10 (.t 5), none, [], []⟩,
    ⟨some 38, .load 1 false (.t 37), none, [101], []⟩,
    ⟨some 39, .load 1 false (.t 9), none, [104], []⟩,
    ⟨some 40, .call none 63 [.t 38, .t 39], none, [], []⟩,
    ⟨some 8, .mov (.t 40), none, [], []⟩] false)
  (.gmask [8] [] .ret))
  .skip))))))))))
  (.seq (.region [
    ⟨some 41, .load 1 false (.t 6), none, [102], []⟩,
    ⟨some 42, .load 3 true (.t 7), none, [103], []⟩,
    ⟨some 43, .faddr 1 (.t 5), none, [], []⟩,
    ⟨some 44, .load 1 false (.t 43), none, [101], []⟩,
    ⟨some 45, .call none 69 [.t 41, .t 42, .t 44], none, [], []⟩,
    ⟨some 10, .mov (.t 45), none, [], []⟩] false)
  (.seq (.seq (.region [
    ⟨some 46, .mov (.t 10), none, [], []⟩,
    ⟨some 47, .bin .lss (.t 46) (.c (.int .i64 0)), none, [], []⟩] false)
  (.cond (.t 47) (.seq (.region [
    ⟨some 8, .mov (.c (.bool false)), none, [], []⟩] false)
  (.gmask [8] [] .ret))
  .skip))
  (.seq (.seq (.region [
    ⟨some 48, .faddr 0 (.t 5), none, [], []⟩,
    ⟨some 49, .load 1 false (.t 48), none, [101], []⟩] false)
  (.block 1 (.seq (.region [
    ⟨some 51, .bin .eql (.t 49) (.c (.int .i64 1)), none, [], []⟩,
    ⟨some 50, .mov (.t 51), none, [], []⟩] false)
  (.cond (.t 50) (.seq (.region [
    ⟨some 8, .mov (.c (.bool true)), none, [], []⟩] false)
  (.gmask [8] [] .ret))
  (.seq (.region [
    ⟨some 53, .bin .eql (.t 49) (.c (.int .i64 2)), none, [], []⟩,
    ⟨some 52, .mov (.t 53), none, [], []⟩] false)
  (.cond (.t 52) (.seq (.region [
    ⟨some 54, .faddr 5 (.t 5), none, [], []⟩,
    ⟨some 55, .load 1 false (.t 54), none, [101], [0]⟩,
    ⟨some 56, .load 7 true (.t 4), none, [100], []⟩,
    ⟨some 57, .mov (.t 10), none, [], []⟩,
    ⟨some 58, .faddr 3 (.t 5), none, [], []⟩,
    ⟨some 59, .load 1 false (.t 58), none, [101], [4]⟩,
    ⟨some 60, .call none 71 [.t 56, .t 57, .t 59], none, [], [2, 3, 4, 5]⟩,
    ⟨some 61, .faddr 6 (.t 5), none, [], []⟩,
    ⟨some 62, .load 1 false (.t 61), none, [101], [7]⟩,
    ⟨some 63, .call none 70 [.t 55, .t 60, .t 62], none, [], [0, 1, 2, 3, 4, 5, 6, 7, 8]⟩,
    ⟨some 8, .mov (.t 63), none, [], [0, 1, 2, 3, 4, 5, 6, 7, 8, 9]⟩] true)
  (.gmask [8] [] .ret))
  (.seq (.region [
    ⟨some 65, .bin .eql (.t 49) (.c (.int .i64 10)), none, [], []⟩,
    ⟨some 64, .mov (.t 65), none, [], []⟩] false)
  (.cond (.t 64) (.seq (.region [
    ⟨some 67, .load 7 true (.t 4), none, [100], []⟩,
    ⟨some 68, .mov (.t 10), none, [], []⟩,
    ⟨some 69, .call none 72 [.t 67, .t 68], none, [], []⟩,
    ⟨some 66, .mov (.t 69), none, [], []⟩,
    ⟨some 70, .extract (.t 66) 0, none, [], []⟩,
    ⟨some 71, .extract (.t 66) 1, none, [], []⟩,
    ⟨some 11, .mov (.t 70), none, [], []⟩,
    ⟨some 12, .mov (.t 71), none, [], []⟩] false)
  (.seq (.region [
    ⟨some 72, .faddr 7 (.t 5), none, [], []⟩,
    ⟨some 73, .load 1 false (.t 72), none, [101], []⟩,
    ⟨some 74, .mov (.t 11), none, [], []⟩,
    ⟨some 75, .len false (.t 74), none, [], []⟩,
    ⟨some 76, .bin .leq (.t 73) (.t 75), none, [], []⟩,
    ⟨some 77, .mov (.t 76), none, [], []⟩,
    ⟨some 78, .mov (.t 11), some (77, true), [], []⟩,
    ⟨some 79, .len false (.t 78), some (77, true), [], []⟩,
    ⟨some 80, .faddr 8 (.t 5), some (77, true), [], []⟩,
    ⟨some 81, .load 1 false (.t 80), some (77, true), [101], []⟩,
    ⟨some 82, .bin .leq (.t 79) (.t 81), some (77, true), [], []⟩,
    ⟨some 83, .pick (.t 77) (.t 82) (.c (.bool false)), none, [], []⟩,
    ⟨some 8, .mov (.t 83), none, [], []⟩] false)
  (.gmask [8] [] .ret)))
  .skip))))))))
  (.seq (.region [
    ⟨some 84, .load 1 false (.t 6), none, [102], []⟩,
    ⟨some 85, .load 3 true (.t 7), none, [103], []⟩,
    ⟨some 86, .faddr 2 (.t 5), none, [], []⟩,
    ⟨some 87, .load 1 false (.t 86), none, [101], []⟩,
    ⟨some 88, .call none 69 [.t 84, .t 85, .t 87], none, [], []⟩,
    ⟨some 13, .mov (.t 88), none, [], []⟩] false)
  (.seq (.region [
    ⟨some 89, .mov (.t 13), none, [], []⟩,
    ⟨some 90, .bin .geq (.t 89) (.c (.int .i64 0)), none, [], []⟩,
    ⟨some 91, .mov (.t 90), none, [], []⟩,
    ⟨some 92, .load 7 true (.t 4), some (91, true), [100], []⟩,
    ⟨some 93, .load 11 true (.t 5), some (91, true), [101], []⟩,
    ⟨some 94, .mov (.t 10), some (91, true), [], []⟩,
    ⟨some 95, .mov (.t 13), some (91, true), [], []⟩,
    ⟨some 96, .build [.nil, .nil, .nil, .nil, .nil, .nil, .nil, .int .i64 0, .str ⟨#[]⟩, .str ⟨#[]⟩, .str ⟨#[]⟩, .str ⟨#[]⟩, .str ⟨#[]⟩, .bool false, .int .i64 0, .int .i64 0, .nil, .nil, .int .i64 0, .int .i64 0] [(0, 7, .t 92), (7, 11, .t 93), (18, 1, .t 94), (19, 1, .t 95)], some (91, true), [], []⟩,
    ⟨some 97, .call none 73 [.t 96], some (91, true), [], []⟩,
    ⟨some 98, .pick (.t 91) (.t 97) (.c (.bool false)), none, [], []⟩,
    ⟨some 8, .mov (.t 98), none, [], []⟩] false)
  (.gmask [8] [] .ret)))))))))
def F32 : IFunc := ⟨4, 99, [.tmp 8], ic32, none⟩

/-- corpora/corporalaw26.corpus -/
def ic36 : IC :=
  (.seq (.region [
    ⟨some 0, .alloc 100 [.nil, .nil, .nil, .nil, .nil, .nil, .nil], none, [100], []⟩] false)
  (.seq (.region [
    ⟨some 1, .build [.str ⟨#[]⟩, .bool false] [(0, 1, .c (.str ⟨#[119]⟩))], none, [], []⟩,
    ⟨some 2, .buildSl none 2 (.agg [.str ⟨#[]⟩, .bool false]) 1 [(0, .t 1)], none, [], []⟩,
    ⟨some 3, .buildSl none 1 (.str ⟨#[]⟩) 1 [(0, .c (.str ⟨#[97]⟩))], none, [], []⟩,
    ⟨some 4, .buildSl none 1 (.str ⟨#[]⟩) 1 [(0, .c (.str ⟨#[98]⟩))], none, [], []⟩,
    ⟨some 5, .buildSl none 1 (.str ⟨#[]⟩) 1 [(0, .c (.str ⟨#[99]⟩))], none, [], []⟩,
    ⟨some 6, .buildSl none 1 (.nil) 3 [(0, .t 3), (1, .t 4), (2, .t 5)], none, [], []⟩,
    ⟨some 7, .build [.str ⟨#[]⟩, .int .i64 0, .int .i64 0, .nil] [(0, 1, .c (.str ⟨#[116]⟩)), (2, 1, .c (.int .i64 3))], none, [], []⟩,
    ⟨some 8, .buildSl none 4 (.agg [.str ⟨#[]⟩, .int .i64 0, .int .i64 0, .nil]) 1 [(0, .t 7)], none, [], []⟩,
    ⟨some 9, .buildSl none 1 (.int .i64 0) 3 [(0, .c (.int .i64 1)), (1, .c (.int .i64 (-1))), (2, .c (.int .i64 1))], none, [], []⟩,
    ⟨some 10, .buildSl none 1 (.str ⟨#[]⟩) 3 [(0, .c (.str ⟨#[100, 101, 116]⟩)), (1, .c (.str ⟨#[]⟩)), (2, .c (.str ⟨#[111, 98, 106]⟩))], none, [], []⟩,
    ⟨some 11, .build [.nil, .nil, .nil, .nil, .nil, .nil, .nil] [(0, 1, .t 2), (1, 1, .t 6), (2, 1, .t 8), (5, 1, .t 9), (6, 1, .t 10)], none, [], []⟩,
    ⟨none, .store 7 (.t 0) (.t 11), none, [100], []⟩] false)
  (.gmask [0] [100] .ret)))
def F36 : IFunc := ⟨0, 12, [.cell 0 7 true], ic36, none⟩

/-- corpora/treerel.token -/
def ic39 : IC :=
  (.seq (.region [
    ⟨some 2, .box 100 7 (.t 0), none, [100], []⟩,
    ⟨some 4, .mov (.c (.bool false)), none, [], []⟩] false)
  (.seq (.region [
    ⟨some 5, .mov (.t 1), none, [], []⟩,
    ⟨some 6, .bin .geq (.t 5) (.c (.int .i64 0)), none, [], []⟩,
    ⟨some 7, .mov (.t 6), none, [], []⟩,
    ⟨some 8, .mov (.t 1), some (7, true), [], []⟩,
    ⟨some 9, .faddr 1 (.t 2), some (7, true), [], []⟩,
    ⟨some 10, .load 1 false (.t 9), some (7, true), [100], []⟩,
    ⟨some 11, .len false (.t 10), some (7, true), [], []⟩,
    ⟨some 12, .bin .lss (.t 8) (.t 11), some (7, true), [], []⟩,
    ⟨some 13, .pick (.t 7) (.t 12) (.c (.bool false)), none, [], []⟩,
    ⟨some 4, .mov (.t 13), none, [], []⟩] false)
  (.gmask [4] [] .ret)))
def F39 : IFunc := ⟨2, 14, [.tmp 4], ic39, none⟩

/-- corpora/treerel.head -/
def ic40 : IC :=
  (.seq (.region [
    ⟨some 2, .box 100 7 (.t 0), none, [100], []⟩,
    ⟨some 4, .mov (.c (.int .i64 0)), none, [], []⟩] false)
  (.seq (.seq (.region [
    ⟨some 5, .mov (.t 1), none, [], []⟩,
    ⟨some 6, .faddr 5 (.t 2), none, [], []⟩,
    ⟨some 7, .load 1 false (.t 6), none, [100], [1]⟩,
    ⟨some 8, .len false (.t 7), none, [], [1, 2]⟩,
    ⟨some 9, .bin .lss (.t 5) (.t 8), none, [], [0, 1, 2, 3]⟩,
    ⟨some 10, .mov (.t 9), none, [], [0, 1, 2, 3, 4]⟩,
    ⟨some 11, .load 7 true (.t 2), some (10, true), [100], [0, 1, 2, 3, 4, 5]⟩,
    ⟨some 12, .faddr 5 (.t 2), some (10, true), [], [0, 1, 2, 3, 4, 5]⟩,
    ⟨some 13, .load 1 false (.t 12), some (10, true), [100], [0, 1, 2, 3, 4, 5, 7]⟩,
    ⟨some 14, .mov (.t 1), some (10, true), [], [0, 1, 2, 3, 4, 5]⟩,
    ⟨some 15, .iaddr 1 (.t 13) (.t 14), some (10, true), [], [0, 1, 2, 3, 4, 5, 7, 8, 9]⟩,
    ⟨some 16, .load 1 false (.t 15), some (10, true), [], [0, 1, 2, 3, 4, 5, 7, 8, 9, 10]⟩,
    ⟨some 17, .call none 39 [.t 11, .t 16], some (10, true), [], [0, 1, 2, 3, 4, 5, 6, 7, 8, 9, 10, 11]⟩,
    ⟨some 18, .pick (.t 10) (.t 17) (.c (.bool false)), none, [], [0, 1, 2, 3, 4, 5, 6, 7, 8, 9, 10, 11, 12]⟩] true)
  (.cond (.t 18) (.seq (.region [
    ⟨some 19, .faddr 5 (.t 2), none, [], []⟩,
    ⟨some 20, .load 1 false (.t 19), none, [100], []⟩,
    ⟨some 21, .mov (.t 1), none, [], []⟩,
    ⟨some 22, .iaddr 1 (.t 20) (.t 21), none, [], []⟩,
    ⟨some 23, .load 1 false (.t 22), none, [], []⟩,
    ⟨some 4, .mov (.t 23), none, [], []⟩] false)
  (.gmask [4] [] .ret))
  .skip))
  (.seq (.region [
    ⟨some 4, .mov (.c (.int .i64 (-1))), none, [], []⟩] false)
  (.gmask [4] [] .ret))))
def F40 : IFunc := ⟨2, 24, [.tmp 4], ic40, none⟩

def ic41_0_b : IC :=
  (.seq (.region [
    ⟨some 30, .bin .lss (.t 29) (.t 28), none, [], []⟩] false)
  (.seq (.cond (.t 30) .skip
  (.gmask [5] [100] (.exit 0)))
  (.seq (.block 1 (.seq (.region [
    ⟨some 31, .mov (.t 29), none, [], []⟩,
    ⟨some 32, .iaddr 4 (.t 27) (.t 29), none, [], []⟩,
    ⟨some 33, .load 4 true (.t 32), none, [], []⟩,
    ⟨some 7, .alloc 103 [.str ⟨#[]⟩, .int .i64 0, .int .i64 0, .int .i64 0], none, [103], []⟩,
    ⟨some 6, .mov (.t 31), none, [], []⟩,
    ⟨none, .store 4 (.t 7) (.t 33), none, [103], []⟩] false)
  (.seq (.region [
    ⟨some 34, .faddr 1 (.t 7), none, [], []⟩,
    ⟨some 35, .load 1 false (.t 34), none, [103], []⟩,
    ⟨some 36, .faddr 0 (.t 3), none, [], []⟩,
    ⟨some 37, .load 1 false (.t 36), none, [102], []⟩,
    ⟨some 38, .bin .leq (.t 35) (.t 37), none, [], []⟩,
    ⟨some 39, .mov (.t 38), none, [], []⟩,
    ⟨some 40, .faddr 1 (.t 3), some (39, true), [], []⟩,
    ⟨some 41, .load 1 false (.t 40), some (39, true), [102], []⟩,
    ⟨some 42, .faddr 2 (.t 7), some (39, true), [], []⟩,
    ⟨some 43, .load 1 false (.t 42), some (39, true), [103], []⟩,
    ⟨some 44, .bin .leq (.t 41) (.t 43), some (39, true), [], []⟩,
    ⟨some 45, .pick (.t 39) (.t 44) (.c (.bool false)), none, [], []⟩] false)
  (.gpost [3, 5, 27, 28, 29] [100, 102] (.cond (.t 45) (.region [
    ⟨some 46, .mov (.t 5), none, [], []⟩,
    ⟨some 47, .mov (.t 6), none, [], []⟩,
    ⟨some 48, .buildSl none 1 (.int .i64 0) 1 [(0, .t 47)], none, [], []⟩,
    ⟨some 49, .app none 1 8 (.t 46) (.t 48), none, [100], []⟩,
    ⟨some 5, .mov (.t 49), none, [], []⟩] false)
  .skip)))))
  (.region [
    ⟨some 50, .bin .add (.t 29) (.c (.int .i64 1)), none, [], []⟩,
    ⟨some 29, .mov (.t 50), none, [], []⟩] false))))
def ic41_0 : IC := .loop [3, 5, 27, 28, 29] [100, 102] ic41_0_b
/-- corpora/treerel.Nodes -/
def ic41 : IC :=
  (.seq (.region [
    ⟨some 2, .box 101 7 (.t 0), none, [101], []⟩,
    ⟨some 3, .box 102 2 (.t 1), none, [102], []⟩,
    ⟨some 4, .movp (.c (.nil)), none, [], []⟩] false)
  (.seq (.seq (.region [
    ⟨some 8, .faddr 0 (.t 3), none, [], []⟩,
    ⟨some 9, .load 1 false (.t 8), none, [102], []⟩,
    ⟨some 10, .bin .lss (.t 9) (.c (.int .i64 0)), none, [], []⟩,
    ⟨some 11, .mov (.t 10), none, [], []⟩,
    ⟨some 12, .faddr 0 (.t 3), some (11, false), [], []⟩,
    ⟨some 13, .load 1 false (.t 12), some (11, false), [102], []⟩,
    ⟨some 14, .faddr 1 (.t 3), some (11, false), [], []⟩,
    ⟨some 15, .load 1 false (.t 14), some (11, false), [102], []⟩,
    ⟨some 16, .bin .geq (.t 13) (.t 15), some (11, false), [], []⟩,
    ⟨some 17, .pick (.t 11) (.c (.bool true)) (.t 16), none, [], []⟩,
    ⟨some 18, .mov (.t 17), none, [], []⟩,
    ⟨some 19, .faddr 1 (.t 3), some (18, false), [], []⟩,
    ⟨some 20, .load 1 false (.t 19), some (18, false), [102], []⟩,
    ⟨some 21, .faddr 1 (.t 2), some (18, false), [], []⟩,
    ⟨some 22, .load 1 false (.t 21), some (18, false), [101], []⟩,
    ⟨some 23, .len false (.t 22), some (18, false), [], []⟩,
    ⟨some 24, .bin .gtr (.t 20) (.t 23), some (18, false), [], []⟩,
    ⟨some 25, .pick (.t 18) (.c (.bool true)) (.t 24), none, [], []⟩] false)
  (.cond (.t 25) (.seq (.region [
    ⟨some 4, .movp (.c (.nil)), none, [], []⟩] false)
  (.gmask [4] [100] .ret))
  .skip))
  (.seq (.region [
    ⟨some 5, .nilarr 100 1, none, [100], []⟩] false)
  (.seq (.seq (.region [
    ⟨some 26, .faddr 4 (.t 2), none, [], []⟩,
    ⟨some 27, .load 1 false (.t 26), none, [101], []⟩,
    ⟨some 28, .len false (.t 27), none, [], []⟩,
    ⟨some 29, .mov (.c (.int .i64 0)), none, [], []⟩] false)
  (.block 0 (.gmask [3, 5, 27, 28, 29] [100, 102] ic41_0)))
  (.seq (.region [
    ⟨some 51, .mov (.t 5), none, [], []⟩,
    ⟨some 4, .mov (.t 51), none, [], []⟩] false)
  (.gmask [4] [100] .ret))))))
def F41 : IFunc := ⟨2, 52, [.tmp 4], ic41, none⟩

def ic42_0_b : IC :=
  (.seq (.region [
    ⟨some 14, .bin .lss (.t 13) (.t 12), none, [], []⟩] false)
  (.seq (.cond (.t 14) .skip
  (.gmask [] [] (.exit 0)))
  (.seq (.block 1 (.seq (.region [
    ⟨some 15, .mov (.t 13), none, [], []⟩,
    ⟨some 5, .mov (.t 15), none, [], []⟩] false)
  (.seq (.region [
    ⟨some 16, .mov (.t 0), none, [], []⟩,
    ⟨some 17, .mov (.t 5), none, [], []⟩,
    ⟨some 18, .iaddr 1 (.t 16) (.t 17), none, [], [0, 1]⟩,
    ⟨some 19, .load 1 false (.t 18), none, [], [0, 1, 2]⟩,
    ⟨some 20, .mov (.t 1), none, [], []⟩,
    ⟨some 21, .mov (.t 5), none, [], []⟩,
    ⟨some 22, .iaddr 1 (.t 20) (.t 21), none, [], [4, 5]⟩,
    ⟨some 23, .load 1 false (.t 22), none, [], [4, 5, 6]⟩,
    ⟨some 24, .bin .neq (.t 19) (.t 23), none, [], [0, 1, 2, 3, 4, 5, 6, 7]⟩] true)
  (.cond (.t 24) (.seq (.region [
    ⟨some 4, .mov (.c (.bool false)), none, [], []⟩] false)
  (.gmask [4] [] .ret))
  .skip))))
  (.region [
    ⟨some 25, .bin .add (.t 13) (.c (.int .i64 1)), none, [], []⟩,
    ⟨some 13, .mov (.t 25), none, [], []⟩] false))))
def ic42_0 : IC := .loop [0, 1, 12, 13] [] ic42_0_b
/-- corpora/corporaref22.Ints -/
def ic42 : IC :=
  (.seq (.region [
    ⟨some 4, .mov (.c (.bool false)), none, [], []⟩] false)
  (.seq (.seq (.region [
    ⟨some 6, .mov (.t 0), none, [], []⟩,
    ⟨some 7, .len false (.t 6), none, [], []⟩,
    ⟨some 8, .mov (.t 1), none, [], []⟩,
    ⟨some 9, .len false (.t 8), none, [], []⟩,
    ⟨some 10, .bin .neq (.t 7) (.t 9), none, [], []⟩] false)
  (.cond (.t 10) (.seq (.region [
    ⟨some 4, .mov (.c (.bool false)), none, [], []⟩] false)
  (.gmask [4] [] .ret))
  .skip))
  (.seq (.seq (.region [
    ⟨some 11, .mov (.t 0), none, [], []⟩,
    ⟨some 12, .len false (.t 11), none, [], []⟩,
    ⟨some 13, .mov (.c (.int .i64 0)), none, [], []⟩] false)
  (.block 0 (.gmask [0, 1, 12, 13] [] ic42_0)))
  (.seq (.region [
    ⟨some 4, .mov (.c (.bool true)), none, [], []⟩] false)
  (.gmask [4] [] .ret)))))
def F42 : IFunc := ⟨2, 26, [.tmp 4], ic42, none⟩

def ic43_0_b : IC :=
  (.seq (.region [
    ⟨some 15, .bin .lss (.t 14) (.t 13), none, [], []⟩] false)
  (.seq (.cond (.t 15) .skip
  (.gmask [5] [100] (.exit 0)))
  (.seq (.block 1 (.seq (.region [
    ⟨some 16, .mov (.t 14), none, [], []⟩,
    ⟨some 6, .mov (.t 16), none, [], []⟩] false)
  (.seq (.region [
    ⟨some 17, .load 7 true (.t 2), none, [101], []⟩,
    ⟨some 18, .mov (.t 6), none, [], []⟩,
    ⟨some 19, .call none 40 [.t 17, .t 18], none, [], []⟩,
    ⟨some 20, .mov (.t 1), none, [], []⟩,
    ⟨some 21, .bin .eql (.t 19) (.t 20), none, [], []⟩] false)
  (.gpost [1, 2, 5, 13, 14] [100, 101] (.cond (.t 21) (.region [
    ⟨some 22, .mov (.t 5), none, [], []⟩,
    ⟨some 23, .mov (.t 6), none, [], []⟩,
    ⟨some 24, .buildSl none 1 (.int .i64 0) 1 [(0, .t 23)], none, [], []⟩,
    ⟨some 25, .app none 1 8 (.t 22) (.t 24), none, [100], []⟩,
    ⟨some 5, .mov (.t 25), none, [], []⟩] false)
  .skip)))))
  (.region [
    ⟨some 26, .bin .add (.t 14) (.c (.int .i64 1)), none, [], []⟩,
    ⟨some 14, .mov (.t 26), none, [], []⟩] false))))
def ic43_0 : IC := .loop [1, 2, 5, 13, 14] [100, 101] ic43_0_b
/-- corpora/treerel.Down -/
def ic43 : IC :=
  (.seq (.region [
    ⟨some 2, .box 101 7 (.t 0), none, [101], []⟩,
    ⟨some 4, .movp (.c (.nil)), none, [], []⟩] false)
  (.seq (.seq (.region [
    ⟨some 7, .load 7 true (.t 2), none, [101], []⟩,
    ⟨some 8, .mov (.t 1), none, [], []⟩,
    ⟨some 9, .call none 39 [.t 7, .t 8], none, [], []⟩,
    ⟨some 10, .un .not (.t 9), none, [], []⟩] false)
  (.cond (.t 10) (.seq (.region [
    ⟨some 4, .movp (.c (.nil)), none, [], []⟩] false)
  (.gmask [4] [100] .ret))
  .skip))
  (.seq (.region [
    ⟨some 5, .nilarr 100 1, none, [100], []⟩] false)
  (.seq (.seq (.region [
    ⟨some 11, .faddr 1 (.t 2), none, [], []⟩,
    ⟨some 12, .load 1 false (.t 11), none, [101], []⟩,
    ⟨some 13, .len false (.t 12), none, [], []⟩,
    ⟨some 14, .mov (.c (.int .i64 0)), none, [], []⟩] false)
  (.block 0 (.gmask [1, 2, 5, 13, 14] [100, 101] ic43_0)))
  (.seq (.region [
    ⟨some 27, .mov (.t 5), none, [], []⟩,
    ⟨some 4, .mov (.t 27), none, [], []⟩] false)
  (.gmask [4] [100] .ret))))))
def F43 : IFunc := ⟨2, 28, [.tmp 4], ic43, none⟩

def ic44_0_b : IC :=
  (.seq (.region [
    ⟨some 15, .bin .lss (.t 14) (.t 13), none, [], []⟩] false)
  (.seq (.cond (.t 15) .skip
  (.gmask [5] [100] (.exit 0)))
  (.seq (.block 1 (.seq (.region [
    ⟨some 16, .mov (.t 14), none, [], []⟩,
    ⟨some 6, .mov (.t 16), none, [], []⟩] false)
  (.seq (.region [
    ⟨some 17, .mov (.t 6), none, [], []⟩,
    ⟨some 18, .mov (.t 1), none, [], []⟩,
    ⟨some 19, .bin .eql (.t 17) (.t 18), none, [], []⟩,
    ⟨some 20, .mov (.t 19), none, [], []⟩,
    ⟨some 21, .load 7 true (.t 2), some (20, false), [101], []⟩,
    ⟨some 22, .mov (.t 6), some (20, false), [], []⟩,
    ⟨some 23, .call none 21 [.t 21, .t 22], some (20, false), [], []⟩,
    ⟨some 24, .mov (.t 1), some (20, false), [], []⟩,
    ⟨some 25, .call none 84 [.t 23, .t 24], some (20, false), [], []⟩,
    ⟨some 26, .pick (.t 20) (.c (.bool true)) (.t 25), none, [], []⟩] false)
  (.gpost [1, 2, 5, 13, 14] [100, 101] (.cond (.t 26) (.region [
    ⟨some 27, .mov (.t 5), none, [], []⟩,
    ⟨some 28, .mov (.t 6), none, [], []⟩,
    ⟨some 29, .buildSl none 1 (.int .i64 0) 1 [(0, .t 28)], none, [], []⟩,
    ⟨some 30, .app none 1 8 (.t 27) (.t 29), none, [100], []⟩,
    ⟨some 5, .mov (.t 30), none, [], []⟩] false)
  .skip)))))
  (.region [
    ⟨some 31, .bin .add (.t 14) (.c (.int .i64 1)), none, [], []⟩,
    ⟨some 14, .mov (.t 31), none, [], []⟩] false))))
def ic44_0 : IC := .loop [1, 2, 5, 13, 14] [100, 101] ic44_0_b
/-- corpora/treerel.Under -/
def ic44 : IC :=
  (.seq (.region [
    ⟨some 2, .box 101 7 (.t 0), none, [101], []⟩,
    ⟨some 4, .movp (.c (.nil)), none, [], []⟩] false)
  (.seq (.seq (.region [
    ⟨some 7, .load 7 true (.t 2), none, [101], []⟩,
    ⟨some 8, .mov (.t 1), none, [], []⟩,
    ⟨some 9, .call none 39 [.t 7, .t 8], none, [], []⟩,
    ⟨some 10, .un .not (.t 9), none, [], []⟩] false)
  (.cond (.t 10) (.seq (.region [
    ⟨some 4, .movp (.c (.nil)), none, [], []⟩] false)
  (.gmask [4] [100] .ret))
  .skip))
  (.seq (.region [
    ⟨some 5, .nilarr 100 1, none, [100], []⟩] false)
  (.seq (.seq (.region [
    ⟨some 11, .faddr 1 (.t 2), none, [], []⟩,
    ⟨some 12, .load 1 false (.t 11), none, [101], []⟩,
    ⟨some 13, .len false (.t 12), none, [], []⟩,
    ⟨some 14, .mov (.c (.int .i64 0)), none, [], []⟩] false)
  (.block 0 (.gmask [1, 2, 5, 13, 14] [100, 101] ic44_0)))
  (.seq (.region [
    ⟨some 32, .mov (.t 5), none, [], []⟩,
    ⟨some 4, .mov (.t 32), none, [], []⟩] false)
  (.gmask [4] [100] .ret))))))
def F44 : IFunc := ⟨2, 33, [.tmp 4], ic44, none⟩

def ic45_0_b : IC :=
  (.seq (.region [
    ⟨some 43, .bin .lss (.t 42) (.t 41), none, [], []⟩] false)
  (.seq (.cond (.t 43) .skip
  (.gmask [7, 8, 34, 35, 36] [101] (.exit 2)))
  (.seq (.block 3 (.seq (.region [
    ⟨some 44, .iaddr 1 (.t 40) (.t 42), none, [], []⟩,
    ⟨some 45, .load 1 false (.t 44), none, [], []⟩,
    ⟨some 12, .mov (.t 45), none, [], []⟩] false)
  (.seq (.region [
    ⟨some 46, .mov (.t 10), none, [], []⟩,
    ⟨some 47, .mov (.t 12), none, [], []⟩,
    ⟨some 48, .bin .eql (.t 46) (.t 47), none, [], []⟩] false)
  (.cond (.t 48) (.seq (.region [
    ⟨some 49, .mov (.t 10), none, [], []⟩,
    ⟨some 7, .mov (.t 49), none, [], []⟩] false)
  (.gmask [7] [] (.exit 0)))
  .skip))))
  (.region [
    ⟨some 50, .bin .add (.t 42) (.c (.int .i64 1)), none, [], []⟩,
    ⟨some 42, .mov (.t 50), none, [], []⟩] false))))
def ic45_0 : IC := .loop [7, 8, 10, 34, 35, 36, 40, 41, 42] [101] ic45_0_b
def ic45_1_b : IC :=
  (.seq (.region [
    ⟨some 37, .bin .lss (.t 36) (.t 35), none, [], []⟩] false)
  (.seq (.cond (.t 37) .skip
  (.gmask [7] [] (.exit 0)))
  (.seq (.block 1 (.seq (.region [
    ⟨some 38, .iaddr 1 (.t 34) (.t 36), none, [101], []⟩,
    ⟨some 39, .load 1 false (.t 38), none, [101], []⟩,
    ⟨some 10, .mov (.t 39), none, [], []⟩] false)
  (.seq (.region [
    ⟨some 40, .mov (.t 8), none, [], []⟩,
    ⟨some 41, .len false (.t 40), none, [], []⟩,
    ⟨some 42, .mov (.c (.int .i64 0)), none, [], []⟩] false)
  (.block 2 (.gmask [7, 8, 10, 34, 35, 36, 40, 41, 42] [101] ic45_0)))))
  (.region [
    ⟨some 51, .bin .add (.t 36) (.c (.int .i64 1)), none, [], []⟩,
    ⟨some 36, .mov (.t 51), none, [], []⟩] false))))
def ic45_1 : IC := .loop [7, 8, 34, 35, 36] [101] ic45_1_b
/-- corpora/treerel.Meet -/
def ic45 : IC :=
  (.seq (.region [
    ⟨some 3, .box 102 7 (.t 0), none, [102], []⟩,
    ⟨some 6, .mov (.c (.int .i64 0)), none, [], []⟩] false)
  (.scope (.seq (.seq (.region [
    ⟨some 13, .load 7 true (.t 3), none, [102], []⟩,
    ⟨some 14, .mov (.t 1), none, [], []⟩,
    ⟨some 15, .call none 39 [.t 13, .t 14], none, [], []⟩,
    ⟨some 16, .un .not (.t 15), none, [], []⟩,
    ⟨some 17, .mov (.t 16), none, [], []⟩,
    ⟨some 18, .load 7 true (.t 3), some (17, false), [102], []⟩,
    ⟨some 19, .mov (.t 2), some (17, false), [], []⟩,
    ⟨some 20, .call none 39 [.t 18, .t 19], some (17, false), [], []⟩,
    ⟨some 21, .un .not (.t 20), some (17, false), [], []⟩,
    ⟨some 22, .pick (.t 17) (.c (.bool true)) (.t 21), none, [], []⟩] false)
  (.cond (.t 22) (.seq (.region [
    ⟨some 6, .mov (.c (.int .i64 (-1))), none, [], []⟩] false)
  (.gmask [6] [] .ret))
  .skip))
  (.seq (.region [
    ⟨some 7, .mov (.c (.int .i64 (-1))), none, [], []⟩] false)
  (.seq (.region [
    ⟨some 23, .mov (.t 2), none, [], []⟩,
    ⟨some 24, .buildSl (some 100) 1 (.int .i64 0) 1 [(0, .t 23)], none, [100], []⟩,
    ⟨some 25, .load 7 true (.t 3), none, [102], []⟩,
    ⟨some 26, .mov (.t 2), none, [], []⟩,
    ⟨some 27, .call none 21 [.t 25, .t 26], none, [], []⟩,
    ⟨some 28, .app none 1 8 (.t 24) (.t 27), none, [100], []⟩,
    ⟨some 8, .movp (.t 28), none, [100], []⟩] false)
  (.seq .skip
  (.seq (.seq (.region [
    ⟨some 29, .mov (.t 1), none, [], []⟩,
    ⟨some 30, .buildSl (some 101) 1 (.int .i64 0) 1 [(0, .t 29)], none, [101], []⟩,
    ⟨some 31, .load 7 true (.t 3), none, [102], []⟩,
    ⟨some 32, .mov (.t 1), none, [], []⟩,
    ⟨some 33, .call none 21 [.t 31, .t 32], none, [], []⟩,
    ⟨some 34, .app none 1 8 (.t 30) (.t 33), none, [101], []⟩,
    ⟨some 35, .len false (.t 34), none, [101], []⟩,
    ⟨some 36, .mov (.c (.int .i64 0)), none, [], []⟩] false)
  (.block 0 (.gmask [7, 8, 34, 35, 36] [101] ic45_1)))
  (.seq (.region [
    ⟨some 52, .mov (.t 7), none, [], []⟩,
    ⟨some 6, .mov (.t 52), none, [], []⟩] false)
  (.gmask [6] [] .ret)))))))))
def F45 : IFunc := ⟨3, 53, [.tmp 6], ic45, none⟩

/-- corpora/corporamade.Attributes -/
def ic46 : IC :=
  (.seq (.region [
    ⟨some 0, .movp (.c (.nil)), none, [], []⟩] false)
  (.seq (.region [
    ⟨some 1, .build [.str ⟨#[]⟩, .bool false] [(0, 1, .c (.str ⟨#[119, 111, 114, 100]⟩))], none, [], []⟩,
    ⟨some 2, .build [.str ⟨#[]⟩, .bool false] [(0, 1, .c (.str ⟨#[116, 97, 103]⟩))], none, [], []⟩,
    ⟨some 3, .build [.str ⟨#[]⟩, .bool false] [(0, 1, .c (.str ⟨#[102, 101, 97, 116]⟩)), (1, 1, .c (.bool true))], none, [], []⟩,
    ⟨some 4, .buildSl none 2 (.agg [.str ⟨#[]⟩, .bool false]) 3 [(0, .t 1), (1, .t 2), (2, .t 3)], none, [], []⟩,
    ⟨some 0, .mov (.t 4), none, [], []⟩] false)
  (.gmask [0] [] .ret)))
def F46 : IFunc := ⟨0, 5, [.tmp 0], ic46, none⟩

/-- corpora/corporamade.word -/
def ic47 : IC :=
  (.seq (.region [
    ⟨some 2, .mov (.c (.str ⟨#[]⟩)), none, [], []⟩] false)
  (.seq (.region [
    ⟨some 3, .buildSl none 1 (.str ⟨#[]⟩) 6 [(0, .c (.str ⟨#[97]⟩)), (1, .c (.str ⟨#[98]⟩)), (2, .c (.str ⟨#[99]⟩)), (3, .c (.str ⟨#[65]⟩)), (4, .c (.str ⟨#[97, 98]⟩)), (5, .c (.str ⟨#[]⟩))], none, [], []⟩,
    ⟨some 4, .mov (.t 0), none, [], []⟩,
    ⟨some 5, .iaddr 1 (.t 3) (.t 4), none, [], []⟩,
    ⟨some 6, .load 1 false (.t 5), none, [], []⟩,
    ⟨some 2, .mov (.t 6), none, [], []⟩] false)
  (.gmask [2] [] .ret)))
def F47 : IFunc := ⟨1, 7, [.tmp 2], ic47, none⟩

/-- corpora/corporamade.tag -/
def ic48 : IC :=
  (.seq (.region [
    ⟨some 2, .mov (.c (.str ⟨#[]⟩)), none, [], []⟩] false)
  (.seq (.region [
    ⟨some 3, .buildSl none 1 (.str ⟨#[]⟩) 2 [(0, .c (.str ⟨#[88]⟩)), (1, .c (.str ⟨#[89]⟩))], none, [], []⟩,
    ⟨some 4, .mov (.t 0), none, [], []⟩,
    ⟨some 5, .iaddr 1 (.t 3) (.t 4), none, [], []⟩,
    ⟨some 6, .load 1 false (.t 5), none, [], []⟩,
    ⟨some 2, .mov (.t 6), none, [], []⟩] false)
  (.gmask [2] [] .ret)))
def F48 : IFunc := ⟨1, 7, [.tmp 2], ic48, none⟩

/-- corpora/corporamade.features -/
def ic49 : IC :=
  (.seq (.region [
    ⟨some 2, .mov (.c (.str ⟨#[]⟩)), none, [], []⟩] false)
  (.seq (.region [
    ⟨some 3, .buildSl none 1 (.str ⟨#[]⟩) 4 [(0, .c (.str ⟨#[124]⟩)), (1, .c (.str ⟨#[124, 112, 124]⟩)), (2, .c (.str ⟨#[124, 112, 124, 113, 124]⟩)), (3, .c (.str ⟨#[124, 113, 124]⟩))], none, [], []⟩,
    ⟨some 4, .mov (.t 0), none, [], []⟩,
    ⟨some 5, .iaddr 1 (.t 3) (.t 4), none, [], []⟩,
    ⟨some 6, .load 1 false (.t 5), none, [], []⟩,
    ⟨some 2, .mov (.t 6), none, [], []⟩] false)
  (.gmask [2] [] .ret)))
def F49 : IFunc := ⟨1, 7, [.tmp 2], ic49, none⟩

def ic50_0_b : IC :=
  (.seq (.seq (.region [
    ⟨some 15, .mov (.t 6), none, [], []⟩,
    ⟨some 16, .bin .gtr (.t 15) (.c (.int .i64 0)), none, [], [0]⟩,
    ⟨some 17, .mov (.t 16), none, [], [0, 1]⟩,
    ⟨some 18, .mov (.t 3), some (17, true), [], [0, 1, 2]⟩,
    ⟨some 19, .mov (.t 6), some (17, true), [], [0, 1, 2]⟩,
    ⟨some 20, .bin .sub (.t 19) (.c (.int .i64 1)), some (17, true), [], [0, 1, 2, 4]⟩,
    ⟨some 21, .iaddr 4 (.t 18) (.t 20), some (17, true), [100], [0, 1, 2, 3, 4, 5]⟩,
    ⟨some 22, .load 4 true (.t 21), some (17, true), [100], [0, 1, 2, 3, 4, 5, 6]⟩,
    ⟨some 23, .load 4 true (.t 5), some (17, true), [101], [0, 1, 2]⟩,
    ⟨some 24, .call none 85 [.t 22, .t 23], some (17, true), [], [0, 1, 2, 3, 4, 5, 6, 7, 8]⟩,
    ⟨some 25, .bin .gtr (.t 24) (.c (.int .i64 0)), some (17, true), [], [0, 1, 2, 3, 4, 5, 6, 7, 8, 9]⟩,
    ⟨some 26, .pick (.t 17) (.t 25) (.c (.bool false)), none, [], [0, 1, 2, 3, 4, 5, 6, 7, 8, 9, 10]⟩] true)
  (.cond (.t 26) .skip
  (.gmask [3, 5, 6, 7, 8, 9] [100, 101] (.exit 2))))
  (.block 3 (.region [
    ⟨some 27, .mov (.t 6), none, [], []⟩,
    ⟨some 28, .bin .sub (.t 27) (.c (.int .i64 1)), none, [], []⟩,
    ⟨some 6, .mov (.t 28), none, [], []⟩] false)))
def ic50_0 : IC := .loop [3, 5, 6, 7, 8, 9] [100, 101] ic50_0_b
def ic50_1_b : IC :=
  (.seq (.region [
    ⟨some 10, .bin .lss (.t 9) (.t 8), none, [], []⟩] false)
  (.seq (.cond (.t 10) .skip
  (.gmask [3] [100] (.exit 0)))
  (.seq (.block 1 (.seq (.region [
    ⟨some 11, .iaddr 4 (.t 7) (.t 9), none, [], []⟩,
    ⟨some 12, .load 4 true (.t 11), none, [], []⟩,
    ⟨some 5, .alloc 101 [.str ⟨#[]⟩, .int .i64 0, .int .i64 0, .nil], none, [101], []⟩,
    ⟨none, .store 4 (.t 5) (.t 12), none, [101], []⟩] false)
  (.seq (.region [
    ⟨some 13, .mov (.t 3), none, [], []⟩,
    ⟨some 14, .len false (.t 13), none, [100], []⟩,
    ⟨some 6, .mov (.t 14), none, [], []⟩] false)
  (.seq (.block 2 (.gmask [3, 5, 6, 7, 8, 9] [100, 101] ic50_0))
  (.seq (.region [
    ⟨some 29, .mov (.t 3), none, [], []⟩,
    ⟨some 30, .build [.str ⟨#[]⟩, .int .i64 0, .int .i64 0, .nil] [], none, [], []⟩,
    ⟨some 31, .buildSl none 4 (.agg [.str ⟨#[]⟩, .int .i64 0, .int .i64 0, .nil]) 1 [(0, .t 30)], none, [], []⟩,
    ⟨some 32, .app none 4 56 (.t 29) (.t 31), none, [100], []⟩,
    ⟨some 3, .mov (.t 32), none, [], []⟩] false)
  (.seq (.region [
    ⟨some 33, .mov (.t 3), none, [], []⟩,
    ⟨some 34, .mov (.t 6), none, [], []⟩,
    ⟨some 35, .bin .add (.t 34) (.c (.int .i64 1)), none, [], [1]⟩,
    ⟨some 36, .slice false 4 (.t 33) (some (.t 35)) none, none, [100], [0, 1, 2]⟩,
    ⟨some 37, .mov (.t 3), none, [], []⟩,
    ⟨some 38, .mov (.t 6), none, [], []⟩,
    ⟨some 39, .slice false 4 (.t 37) (some (.t 38)) none, none, [100], [4, 5]⟩,
    ⟨some 40, .copy 4 (.t 36) (.t 39), none, [100], [0, 1, 2, 3, 4, 5, 6]⟩] true)
  (.region [
    ⟨some 41, .mov (.t 3), none, [], []⟩,
    ⟨some 42, .mov (.t 6), none, [], []⟩,
    ⟨some 43, .load 4 true (.t 5), none, [101], []⟩,
    ⟨some 44, .iaddr 4 (.t 41) (.t 42), none, [100], []⟩,
    ⟨none, .store 4 (.t 44) (.t 43), none, [100], []⟩] false)))))))
  (.region [
    ⟨some 45, .bin .add (.t 9) (.c (.int .i64 1)), none, [], []⟩,
    ⟨some 9, .mov (.t 45), none, [], []⟩] false))))
def ic50_1 : IC := .loop [3, 7, 8, 9] [100] ic50_1_b
/-- corpora/corporaref06.SortRegions -/
def ic50 : IC :=
  (.seq (.region [
    ⟨some 2, .movp (.c (.nil)), none, [], []⟩] false)
  (.seq (.region [
    ⟨some 3, .nilarr 100 4, none, [100], []⟩] false)
  (.seq (.seq (.region [
    ⟨some 7, .mov (.t 0), none, [], []⟩,
    ⟨some 8, .len false (.t 7), none, [], []⟩,
    ⟨some 9, .mov (.c (.int .i64 0)), none, [], []⟩] false)
  (.block 0 (.gmask [3, 7, 8, 9] [100] ic50_1)))
  (.seq (.region [
    ⟨some 46, .mov (.t 3), none, [], []⟩,
    ⟨some 2, .mov (.t 46), none, [], []⟩] false)
  (.gmask [2] [100] .ret)))))
def F50 : IFunc := ⟨1, 47, [.tmp 2], ic50, none⟩

def ic51_0_b : IC :=
  (.seq (.seq (.region [
    ⟨some 18, .mov (.t 6), none, [], []⟩,
    ⟨some 19, .bin .gtr (.t 18) (.c (.int .i64 0)), none, [], []⟩,
    ⟨some 20, .mov (.t 19), none, [], []⟩,
    ⟨some 21, .mov (.t 5), some (20, true), [], []⟩,
    ⟨some 22, .mov (.t 4), some (20, true), [], []⟩,
    ⟨some 23, .bin .lss (.t 21) (.t 22), some (20, true), [], []⟩,
    ⟨some 24, .pick (.t 20) (.t 23) (.c (.bool false)), none, [], []⟩] false)
  (.cond (.t 24) .skip
  (.gmask [] [0, 1, 100] (.exit 0))))
  (.seq (.block 1 (.seq (.region [
    ⟨some 27, .mov (.t 5), none, [], []⟩,
    ⟨some 28, .mov (.t 0), none, [], []⟩,
    ⟨some 29, .call none 26 [.t 28, .c (.int .i64 2)], none, [0], []⟩,
    ⟨some 30, .bin .add (.t 27) (.t 29), none, [], []⟩,
    ⟨some 7, .mov (.t 30), none, [], []⟩] false)
  (.seq (.seq (.region [
    ⟨some 31, .mov (.t 7), none, [], []⟩,
    ⟨some 32, .mov (.t 4), none, [], []⟩,
    ⟨some 33, .bin .geq (.t 31) (.t 32), none, [], []⟩] false)
  (.cond (.t 33) (.gmask [] [0, 1, 100] (.exit 0))
  .skip))
  (.seq (.region [
    ⟨some 34, .mov (.t 7), none, [], []⟩,
    ⟨some 35, .bin .add (.t 34) (.c (.int .i64 1)), none, [], []⟩,
    ⟨some 36, .mov (.t 0), none, [], []⟩,
    ⟨some 37, .mov (.t 4), none, [], []⟩,
    ⟨some 38, .mov (.t 7), none, [], []⟩,
    ⟨some 39, .bin .sub (.t 37) (.t 38), none, [], []⟩,
    ⟨some 40, .call none 26 [.t 36, .t 39], none, [0], []⟩,
    ⟨some 41, .bin .add (.t 35) (.t 40), none, [], []⟩,
    ⟨some 8, .mov (.t 41), none, [], []⟩] false)
  (.seq (.region [
    ⟨some 42, .mov (.t 1), none, [], []⟩,
    ⟨some 43, .nilChk (.t 42), none, [1], []⟩,
    ⟨some 44, .faddr 4 (.t 43), none, [], []⟩,
    ⟨some 45, .load 1 false (.t 44), none, [1], []⟩,
    ⟨some 46, .len false (.t 45), none, [100], []⟩,
    ⟨some 9, .mov (.t 46), none, [], []⟩] false)
  (.seq (.region [
    ⟨some 47, .mov (.t 1), none, [], []⟩,
    ⟨some 48, .mov (.t 1), none, [], []⟩,
    ⟨some 49, .nilChk (.t 48), none, [1], [1]⟩,
    ⟨some 50, .faddr 4 (.t 49), none, [], [1, 2]⟩,
    ⟨some 51, .load 1 false (.t 50), none, [1], [1, 2, 3]⟩,
    ⟨some 52, .buildSl none 1 (.str ⟨#[]⟩) 2 [(0, .c (.str ⟨#[83]⟩)), (1, .c (.str ⟨#[78, 80]⟩))], none, [], []⟩,
    ⟨some 53, .mov (.t 0), none, [], []⟩,
    ⟨some 54, .call none 26 [.t 53, .c (.int .i64 2)], none, [0], [6]⟩,
    ⟨some 55, .iaddr 1 (.t 52) (.t 54), none, [], [5, 6, 7]⟩,
    ⟨some 56, .load 1 false (.t 55), none, [], [5, 6, 7, 8]⟩,
    ⟨some 57, .mov (.t 7), none, [], []⟩,
    ⟨some 58, .mov (.t 8), none, [], []⟩,
    ⟨some 59, .build [.str ⟨#[]⟩, .int .i64 0, .int .i64 0, .int .i64 0] [(0, 1, .t 56), (1, 1, .t 57), (2, 1, .t 58), (3, 1, .c (.int .i64 (-1)))], none, [], [5, 6, 7, 8, 9, 10, 11]⟩,
    ⟨some 60, .buildSl none 4 (.agg [.str ⟨#[]⟩, .int .i64 0, .int .i64 0, .int .i64 0]) 1 [(0, .t 59)], none, [], [5, 6, 7, 8, 9, 10, 11, 12]⟩,
    ⟨some 61, .app none 4 40 (.t 51) (.t 60), none, [100], [1, 2, 3, 4, 5, 6, 7, 8, 9, 10, 11, 12, 13]⟩,
    ⟨some 62, .nilChk (.t 47), none, [1], [0, 1, 2, 3, 4, 5, 6, 7, 8, 9, 10, 11, 12, 13, 14]⟩,
    ⟨some 63, .faddr 4 (.t 62), none, [], [0, 1, 2, 3, 4, 5, 6, 7, 8, 9, 10, 11, 12, 13, 14, 15]⟩,
    ⟨none, .store 1 (.t 63) (.t 61), none, [1], [0, 1, 2, 3, 4, 5, 6, 7, 8, 9, 10, 11, 12, 13, 14, 15, 16]⟩] true)
  (.seq (.seq (.region [
    ⟨some 64, .mov (.t 0), none, [], []⟩,
    ⟨some 65, .call none 26 [.t 64, .c (.int .i64 2)], none, [0], []⟩,
    ⟨some 66, .bin .eql (.t 65) (.c (.int .i64 1)), none, [], []⟩] false)
  (.gpost [0, 1, 4, 6, 8] [0, 1, 100] (.cond (.t 66) (.seq (.region [
    ⟨some 67, .mov (.t 7), none, [], []⟩,
    ⟨some 68, .mov (.t 0), none, [], []⟩,
    ⟨some 69, .mov (.t 8), none, [], []⟩,
    ⟨some 70, .mov (.t 7), none, [], []⟩,
    ⟨some 71, .bin .sub (.t 69) (.t 70), none, [], []⟩,
    ⟨some 72, .call none 26 [.t 68, .t 71], none, [0], []⟩,
    ⟨some 73, .bin .add (.t 67) (.t 72), none, [], []⟩,
    ⟨some 10, .mov (.t 73), none, [], []⟩] false)
  (.region [
    ⟨some 74, .mov (.t 1), none, [], []⟩,
    ⟨some 75, .mov (.t 1), none, [], []⟩,
    ⟨some 76, .nilChk (.t 75), none, [1], [1]⟩,
    ⟨some 77, .faddr 4 (.t 76), none, [], [1, 2]⟩,
    ⟨some 78, .load 1 false (.t 77), none, [1], [1, 2, 3]⟩,
    ⟨some 79, .buildSl none 1 (.str ⟨#[]⟩) 2 [(0, .c (.str ⟨#[78, 80]⟩)), (1, .c (.str ⟨#[86, 80]⟩))], none, [], []⟩,
    ⟨some 80, .mov (.t 0), none, [], []⟩,
    ⟨some 81, .call none 26 [.t 80, .c (.int .i64 2)], none, [0], [6]⟩,
    ⟨some 82, .iaddr 1 (.t 79) (.t 81), none, [], [5, 6, 7]⟩,
    ⟨some 83, .load 1 false (.t 82), none, [], [5, 6, 7, 8]⟩,
    ⟨some 84, .mov (.t 10), none, [], []⟩,
    ⟨some 85, .mov (.t 10), none, [], []⟩,
    ⟨some 86, .bin .add (.t 85) (.c (.int .i64 1)), none, [], [11]⟩,
    ⟨some 87, .mov (.t 0), none, [], []⟩,
    ⟨some 88, .mov (.t 8), none, [], []⟩,
    ⟨some 89, .mov (.t 10), none, [], []⟩,
    ⟨some 90, .bin .sub (.t 88) (.t 89), none, [], [14, 15]⟩,
    ⟨some 91, .call none 26 [.t 87, .t 90], none, [0], [6, 7, 13, 14, 15, 16]⟩,
    ⟨some 92, .bin .add (.t 86) (.t 91), none, [], [6, 7, 11, 12, 13, 14, 15, 16, 17]⟩,
    ⟨some 93, .mov (.t 9), none, [], []⟩,
    ⟨some 94, .build [.str ⟨#[]⟩, .int .i64 0, .int .i64 0, .int .i64 0] [(0, 1, .t 83), (1, 1, .t 84), (2, 1, .t 92), (3, 1, .t 93)], none, [], [5, 6, 7, 8, 9, 10, 11, 12, 13, 14, 15, 16, 17, 18, 19]⟩,
    ⟨some 95, .buildSl none 4 (.agg [.str ⟨#[]⟩, .int .i64 0, .int .i64 0, .int .i64 0]) 1 [(0, .t 94)], none, [], [5, 6, 7, 8, 9, 10, 11, 12, 13, 14, 15, 16, 17, 18, 19, 20]⟩,
    ⟨some 96, .app none 4 40 (.t 78) (.t 95), none, [100], [1, 2, 3, 4, 5, 6, 7, 8, 9, 10, 11, 12, 13, 14, 15, 16, 17, 18, 19, 20, 21]⟩,
    ⟨some 97, .nilChk (.t 74), none, [1], [0, 1, 2, 3, 4, 5, 6, 7, 8, 9, 10, 11, 12, 13, 14, 15, 16, 17, 18, 19, 20, 21, 22]⟩,
    ⟨some 98, .faddr 4 (.t 97), none, [], [0, 1, 2, 3, 4, 5, 6, 7, 8, 9, 10, 11, 12, 13, 14, 15, 16, 17, 18, 19, 20, 21, 22, 23]⟩,
    ⟨none, .store 1 (.t 98) (.t 96), none, [1], [0, 1, 2, 3, 4, 5, 6, 7, 8, 9, 10, 11, 12, 13, 14, 15, 16, 17, 18, 19, 20, 21, 22, 23, 24]⟩] true))
  .skip)))
  (.region [
    ⟨some 99, .mov (.t 8), none, [], []⟩,
    ⟨some 5, .mov (.t 99), none, [], []⟩] false))))))))
  (.region [
    ⟨some 25, .mov (.t 6), none, [], []⟩,
    ⟨some 26, .bin .sub (.t 25) (.c (.int .i64 1)), none, [], []⟩,
    ⟨some 6, .mov (.t 26), none, [], []⟩] false)))
def ic51_0 : IC := .loop [0, 1, 4, 5, 6] [0, 1, 100] ic51_0_b
/-- (*corpora/corporamade.Tape).nodes -/
def ic51 : IC :=
  (.seq (.gadopt 1 4 100 4 (.region [
    ⟨some 11, .mov (.t 1), none, [], []⟩,
    ⟨some 12, .nilChk (.t 11), none, [1], []⟩,
    ⟨some 13, .faddr 1 (.t 12), none, [], []⟩,
    ⟨some 14, .load 1 false (.t 13), none, [1], []⟩,
    ⟨some 15, .len false (.t 14), none, [], []⟩,
    ⟨some 4, .mov (.t 15), none, [], []⟩] false))
  (.seq (.region [
    ⟨some 5, .mov (.c (.int .i64 0)), none, [], []⟩] false)
  (.seq (.region [
    ⟨some 16, .mov (.t 0), none, [], []⟩,
    ⟨some 17, .call none 26 [.t 16, .c (.int .i64 4)], none, [0], []⟩,
    ⟨some 6, .mov (.t 17), none, [], []⟩] false)
  (.block 0 (.gmask [0, 1, 4, 5, 6] [0, 1, 100] ic51_0)))))
def F51 : IFunc := ⟨2, 100, [], ic51, none⟩

def ic52_0_b : IC :=
  (.seq (.seq (.region [
    ⟨some 18, .mov (.t 6), none, [], []⟩,
    ⟨some 19, .mov (.t 4), none, [], []⟩,
    ⟨some 20, .bin .lss (.t 18) (.t 19), none, [], []⟩] false)
  (.cond (.t 20) .skip
  (.gmask [0, 1, 4, 5] [0, 1, 100, 101] (.exit 0))))
  (.seq (.block 1 (.seq (.region [
    ⟨some 23, .mov (.t 0), none, [], []⟩,
    ⟨some 24, .mov (.t 6), none, [], []⟩,
    ⟨some 25, .bin .add (.t 24) (.c (.int .i64 1)), none, [], []⟩,
    ⟨some 26, .call none 26 [.t 23, .t 25], none, [0], []⟩,
    ⟨some 7, .mov (.t 26), none, [], []⟩] false)
  (.region [
    ⟨some 27, .buildSl (some 102) 1 (.int .i64 0) 0 [], none, [102], []⟩,
    ⟨some 28, .mov (.t 5), none, [], []⟩,
    ⟨some 29, .mov (.t 7), none, [], []⟩,
    ⟨some 30, .slice false 1 (.t 28) none (some (.t 29)), none, [], [1, 2]⟩,
    ⟨some 31, .app none 1 8 (.t 27) (.t 30), none, [102], [0, 1, 2, 3]⟩,
    ⟨some 32, .mov (.t 6), none, [], []⟩,
    ⟨some 33, .buildSl none 1 (.int .i64 0) 1 [(0, .t 32)], none, [], [5]⟩,
    ⟨some 34, .app none 1 8 (.t 31) (.t 33), none, [102], [0, 1, 2, 3, 4, 5, 6]⟩,
    ⟨some 35, .mov (.t 5), none, [], []⟩,
    ⟨some 36, .mov (.t 7), none, [], []⟩,
    ⟨some 37, .slice false 1 (.t 35) (some (.t 36)) none, none, [], [8, 9]⟩,
    ⟨some 38, .app none 1 8 (.t 34) (.t 37), none, [102], [0, 1, 2, 3, 4, 5, 6, 7, 8, 9, 10]⟩,
    ⟨some 5, .movp (.t 38), none, [102], [0, 1, 2, 3, 4, 5, 6, 7, 8, 9, 10, 11]⟩] true)))
  (.region [
    ⟨some 21, .mov (.t 6), none, [], []⟩,
    ⟨some 22, .bin .add (.t 21) (.c (.int .i64 1)), none, [], []⟩,
    ⟨some 6, .mov (.t 22), none, [], []⟩] false)))
def ic52_0 : IC := .loop [0, 1, 4, 5, 6] [0, 1, 100, 101] ic52_0_b
def ic52_1_b : IC :=
  (.seq (.region [
    ⟨some 46, .bin .lss (.t 45) (.t 44), none, [], []⟩] false)
  (.seq (.cond (.t 46) .skip
  (.gmask [1, 8, 9, 10] [0, 1, 100, 101] (.exit 2)))
  (.seq (.block 3 (.seq (.region [
    ⟨some 47, .mov (.t 45), none, [], []⟩,
    ⟨some 48, .iaddr 1 (.t 43) (.t 45), none, [], []⟩,
    ⟨some 49, .load 1 false (.t 48), none, [], []⟩,
    ⟨some 11, .mov (.t 47), none, [], []⟩,
    ⟨some 12, .mov (.t 49), none, [], []⟩] false)
  (.seq (.region [
    ⟨some 50, .mov (.t 8), none, [], []⟩,
    ⟨some 51, .mov (.t 12), none, [], []⟩,
    ⟨some 52, .iaddr 1 (.t 50) (.t 51), none, [100], []⟩,
    ⟨none, .store 1 (.t 52) (.c (.int .i64 (-1))), none, [100], []⟩] false)
  (.seq (.seq (.region [
    ⟨some 53, .mov (.t 11), none, [], []⟩,
    ⟨some 54, .bin .gtr (.t 53) (.c (.int .i64 0)), none, [], []⟩,
    ⟨some 55, .mov (.t 54), none, [], []⟩,
    ⟨some 56, .mov (.t 0), some (55, true), [], []⟩,
    ⟨some 57, .call none 26 [.t 56, .c (.int .i64 4)], some (55, true), [0], []⟩,
    ⟨some 58, .bin .gtr (.t 57) (.c (.int .i64 0)), some (55, true), [], []⟩,
    ⟨some 59, .pick (.t 55) (.t 58) (.c (.bool false)), none, [], []⟩] false)
  (.gpost [0, 1, 5, 8, 9, 10, 12, 43, 44, 45] [0, 1, 100, 101] (.cond (.t 59) (.region [
    ⟨some 60, .mov (.t 8), none, [], []⟩,
    ⟨some 61, .mov (.t 12), none, [], []⟩,
    ⟨some 62, .mov (.t 9), none, [], []⟩,
    ⟨some 63, .mov (.t 12), none, [], []⟩,
    ⟨some 64, .mov (.t 5), none, [], []⟩,
    ⟨some 65, .mov (.t 0), none, [], []⟩,
    ⟨some 66, .mov (.t 11), none, [], []⟩,
    ⟨some 67, .call none 26 [.t 65, .t 66], none, [0], [5, 6]⟩,
    ⟨some 68, .iaddr 1 (.t 64) (.t 67), none, [], [4, 5, 6, 7]⟩,
    ⟨some 69, .load 1 false (.t 68), none, [], [4, 5, 6, 7, 8]⟩,
    ⟨some 70, .buildSl none 1 (.str ⟨#[]⟩) 3 [(0, .c (.str ⟨#[111, 98, 106]⟩)), (1, .c (.str ⟨#[100, 101, 116]⟩)), (2, .c (.str ⟨#[]⟩))], none, [], []⟩,
    ⟨some 71, .mov (.t 0), none, [], []⟩,
    ⟨some 72, .call none 26 [.t 71, .c (.int .i64 3)], none, [0], [5, 6, 7, 11]⟩,
    ⟨some 73, .iaddr 1 (.t 70) (.t 72), none, [], [5, 6, 7, 10, 11, 12]⟩,
    ⟨some 74, .load 1 false (.t 73), none, [], [5, 6, 7, 10, 11, 12, 13]⟩,
    ⟨some 75, .iaddr 1 (.t 60) (.t 61), none, [100], [0, 1, 4, 5, 6, 7, 8, 9, 10, 11, 12, 13, 14]⟩,
    ⟨none, .store 1 (.t 75) (.t 69), none, [100], [0, 1, 4, 5, 6, 7, 8, 9, 10, 11, 12, 13, 14, 15]⟩,
    ⟨some 76, .iaddr 1 (.t 62) (.t 63), none, [101], [0, 1, 2, 3, 4, 5, 6, 7, 8, 9, 10, 11, 12, 13, 14, 15, 16]⟩,
    ⟨none, .store 1 (.t 76) (.t 74), none, [101], [0, 1, 2, 3, 4, 5, 6, 7, 8, 9, 10, 11, 12, 13, 14, 15, 16, 17]⟩] true)
  .skip)))
  (.region [
    ⟨some 77, .mov (.t 10), none, [], []⟩,
    ⟨some 78, .mov (.t 77), none, [], []⟩,
    ⟨some 79, .mov (.t 8), some (78, false), [], []⟩,
    ⟨some 80, .mov (.t 12), some (78, false), [], []⟩,
    ⟨some 81, .iaddr 1 (.t 79) (.t 80), some (78, false), [100], []⟩,
    ⟨some 82, .load 1 false (.t 81), some (78, false), [100], []⟩,
    ⟨some 83, .bin .neq (.t 82) (.c (.int .i64 (-1))), some (78, false), [], []⟩,
    ⟨some 84, .pick (.t 78) (.c (.bool true)) (.t 83), none, [], []⟩,
    ⟨some 85, .mov (.t 84), none, [], []⟩,
    ⟨some 86, .mov (.t 9), some (85, false), [], []⟩,
    ⟨some 87, .mov (.t 12), some (85, false), [], []⟩,
    ⟨some 88, .iaddr 1 (.t 86) (.t 87), some (85, false), [101], []⟩,
    ⟨some 89, .load 1 false (.t 88), some (85, false), [101], []⟩,
    ⟨some 90, .bin .neq (.t 89) (.c (.str ⟨#[]⟩)), some (85, false), [], []⟩,
    ⟨some 91, .pick (.t 85) (.c (.bool true)) (.t 90), none, [], []⟩,
    ⟨some 10, .mov (.t 91), none, [], []⟩] false)))))
  (.region [
    ⟨some 92, .bin .add (.t 45) (.c (.int .i64 1)), none, [], []⟩,
    ⟨some 45, .mov (.t 92), none, [], []⟩] false))))
def ic52_1 : IC := .loop [0, 1, 5, 8, 9, 10, 43, 44, 45] [0, 1, 100, 101] ic52_1_b
/-- (*corpora/corporamade.Tape).heads -/
def ic52 : IC :=
  (.seq (.region [
    ⟨some 13, .mov (.t 1), none, [], []⟩,
    ⟨some 14, .nilChk (.t 13), none, [1], []⟩,
    ⟨some 15, .faddr 1 (.t 14), none, [], []⟩,
    ⟨some 16, .load 1 false (.t 15), none, [1], []⟩,
    ⟨some 17, .len false (.t 16), none, [], []⟩,
    ⟨some 4, .mov (.t 17), none, [], []⟩] false)
  (.seq (.region [
    ⟨some 5, .movp (.c (.nil)), none, [], []⟩] false)
  (.seq (.seq (.region [
    ⟨some 6, .mov (.c (.int .i64 0)), none, [], []⟩] false)
  (.block 0 (.gmask [0, 1, 4, 5, 6] [0, 1, 100, 101] ic52_0)))
  (.seq (.region [
    ⟨some 39, .mov (.t 4), none, [], []⟩,
    ⟨some 40, .makeSl 100 1 8 (.int .i64 0) (.t 39) (.t 39), none, [100], [0]⟩,
    ⟨some 41, .mov (.t 4), none, [], []⟩,
    ⟨some 42, .makeSl 101 1 16 (.str ⟨#[]⟩) (.t 41) (.t 41), none, [101], [2]⟩,
    ⟨some 8, .mov (.t 40), none, [], [0, 1]⟩,
    ⟨some 9, .mov (.t 42), none, [], [0, 1, 2, 3, 4]⟩] true)
  (.seq (.region [
    ⟨some 10, .mov (.c (.bool false)), none, [], []⟩] false)
  (.seq (.seq (.region [
    ⟨some 43, .mov (.t 5), none, [], []⟩,
    ⟨some 44, .len false (.t 43), none, [], []⟩,
    ⟨some 45, .mov (.c (.int .i64 0)), none, [], []⟩] false)
  (.block 2 (.gmask [0, 1, 5, 8, 9, 10, 43, 44, 45] [0, 1, 100, 101] ic52_1)))
  (.seq (.region [
    ⟨some 93, .mov (.t 10), none, [], []⟩] false)
  (.gpost [] [0, 1, 100, 101] (.cond (.t 93) (.region [
    ⟨some 94, .mov (.t 1), none, [], []⟩,
    ⟨some 95, .mov (.t 1), none, [], []⟩,
    ⟨some 96, .mov (.t 8), none, [], []⟩,
    ⟨some 97, .mov (.t 9), none, [], []⟩,
    ⟨some 98, .nilChk (.t 94), none, [1], []⟩,
    ⟨some 99, .faddr 5 (.t 98), none, [], []⟩,
    ⟨none, .store 1 (.t 99) (.t 96), none, [1], []⟩,
    ⟨some 100, .nilChk (.t 95), none, [1], []⟩,
    ⟨some 101, .faddr 6 (.t 100), none, [], []⟩,
    ⟨none, .store 1 (.t 101) (.t 97), none, [1], []⟩] false)
  .skip)))))))))
def F52 : IFunc := ⟨2, 102, [], ic52, none⟩

/-- corpora/corporaref06.Valid -/
def ic53 : IC :=
  (.seq (.region [
    ⟨some 1, .box 100 7 (.t 0), none, [100], []⟩,
    ⟨some 2, .mov (.c (.bool false)), none, [], []⟩] false)
  (.seq (.region [
    ⟨some 7, .load 7 true (.t 1), none, [100], []⟩,
    ⟨some 8, .call none 86 [.t 7], none, [], []⟩,
    ⟨some 6, .mov (.t 8), none, [], []⟩,
    ⟨some 9, .extract (.t 6) 0, none, [], []⟩,
    ⟨some 10, .extract (.t 6) 1, none, [], []⟩,
    ⟨some 11, .extract (.t 6) 2, none, [], []⟩,
    ⟨some 3, .mov (.t 9), none, [], []⟩,
    ⟨some 4, .mov (.t 10), none, [], []⟩,
    ⟨some 5, .mov (.t 11), none, [], []⟩] false)
  (.seq (.region [
    ⟨some 12, .mov (.t 5), none, [], []⟩,
    ⟨some 13, .bin .eql (.t 12) (.c (.int .i64 0)), none, [], []⟩,
    ⟨some 2, .mov (.t 13), none, [], []⟩] false)
  (.gmask [2] [] .ret))))
def F53 : IFunc := ⟨1, 14, [.tmp 2], ic53, none⟩

def ic54_0_b : IC :=
  (.seq (.region [
    ⟨some 14, .bin .lss (.t 13) (.t 12), none, [], []⟩] false)
  (.seq (.cond (.t 14) .skip
  (.gmask [] [] (.exit 0)))
  (.seq (.block 1 (.seq (.region [
    ⟨some 15, .mov (.t 13), none, [], []⟩,
    ⟨some 5, .mov (.t 15), none, [], []⟩] false)
  (.seq (.region [
    ⟨some 16, .mov (.t 0), none, [], []⟩,
    ⟨some 17, .mov (.t 5), none, [], []⟩,
    ⟨some 18, .iaddr 2 (.t 16) (.t 17), none, [], [0, 1]⟩,
    ⟨some 19, .load 2 true (.t 18), none, [], [0, 1, 2]⟩,
    ⟨some 20, .mov (.t 1), none, [], []⟩,
    ⟨some 21, .mov (.t 5), none, [], []⟩,
    ⟨some 22, .iaddr 2 (.t 20) (.t 21), none, [], [4, 5]⟩,
    ⟨some 23, .load 2 true (.t 22), none, [], [4, 5, 6]⟩,
    ⟨some 24, .eqAgg true [.str, .bool] (.t 19) (.t 23), none, [], [0, 1, 2, 3, 4, 5, 6, 7]⟩] true)
  (.cond (.t 24) (.seq (.region [
    ⟨some 4, .mov (.c (.bool false)), none, [], []⟩] false)
  (.gmask [4] [] .ret))
  .skip))))
  (.region [
    ⟨some 25, .bin .add (.t 13) (.c (.int .i64 1)), none, [], []⟩,
    ⟨some 13, .mov (.t 25), none, [], []⟩] false))))
def ic54_0 : IC := .loop [0, 1, 12, 13] [] ic54_0_b
/-- corpora/corporaref06.sameAttributes -/
def ic54 : IC :=
  (.seq (.region [
    ⟨some 4, .mov (.c (.bool false)), none, [], []⟩] false)
  (.seq (.seq (.region [
    ⟨some 6, .mov (.t 0), none, [], []⟩,
    ⟨some 7, .len false (.t 6), none, [], []⟩,
    ⟨some 8, .mov (.t 1), none, [], []⟩,
    ⟨some 9, .len false (.t 8), none, [], []⟩,
    ⟨some 10, .bin .neq (.t 7) (.t 9), none, [], []⟩] false)
  (.cond (.t 10) (.seq (.region [
    ⟨some 4, .mov (.c (.bool false)), none, [], []⟩] false)
  (.gmask [4] [] .ret))
  .skip))
  (.seq (.seq (.region [
    ⟨some 11, .mov (.t 0), none, [], []⟩,
    ⟨some 12, .len false (.t 11), none, [], []⟩,
    ⟨some 13, .mov (.c (.int .i64 0)), none, [], []⟩] false)
  (.block 0 (.gmask [0, 1, 12, 13] [] ic54_0)))
  (.seq (.region [
    ⟨some 4, .mov (.c (.bool true)), none, [], []⟩] false)
  (.gmask [4] [] .ret)))))
def F54 : IFunc := ⟨2, 26, [.tmp 4], ic54, none⟩

def ic55_0_b : IC :=
  (.seq (.region [
    ⟨some 11, .bin .lss (.t 10) (.t 9), none, [], []⟩] false)
  (.seq (.cond (.t 11) .skip
  (.gmask [] [] (.exit 0)))
  (.seq (.block 1 (.seq (.region [
    ⟨some 12, .mov (.t 10), none, [], []⟩,
    ⟨some 13, .iaddr 4 (.t 8) (.t 10), none, [], []⟩,
    ⟨some 14, .load 4 true (.t 13), none, [], []⟩,
    ⟨some 6, .alloc 101 [.str ⟨#[]⟩, .int .i64 0, .int .i64 0, .nil], none, [101], []⟩,
    ⟨some 5, .mov (.t 12), none, [], []⟩,
    ⟨none, .store 4 (.t 6) (.t 14), none, [101], []⟩] false)
  (.seq (.region [
    ⟨some 15, .faddr 0 (.t 6), none, [], []⟩,
    ⟨some 16, .load 1 false (.t 15), none, [101], []⟩,
    ⟨some 17, .mov (.t 1), none, [], []⟩,
    ⟨some 18, .bin .eql (.t 16) (.t 17), none, [], []⟩] false)
  (.cond (.t 18) (.seq (.region [
    ⟨some 19, .mov (.t 5), none, [], []⟩,
    ⟨some 4, .mov (.t 19), none, [], []⟩] false)
  (.gmask [4] [] .ret))
  .skip))))
  (.region [
    ⟨some 20, .bin .add (.t 10) (.c (.int .i64 1)), none, [], []⟩,
    ⟨some 10, .mov (.t 20), none, [], []⟩] false))))
def ic55_0 : IC := .loop [1, 8, 9, 10] [] ic55_0_b
/-- corpora/corporaref06.FindText -/
def ic55 : IC :=
  (.seq (.region [
    ⟨some 2, .box 100 7 (.t 0), none, [100], []⟩,
    ⟨some 4, .mov (.c (.int .i64 0)), none, [], []⟩] false)
  (.seq (.seq (.region [
    ⟨some 7, .faddr 2 (.t 2), none, [], []⟩,
    ⟨some 8, .load 1 false (.t 7), none, [100], []⟩,
    ⟨some 9, .len false (.t 8), none, [], []⟩,
    ⟨some 10, .mov (.c (.int .i64 0)), none, [], []⟩] false)
  (.block 0 (.gmask [1, 8, 9, 10] [] ic55_0)))
  (.seq (.region [
    ⟨some 4, .mov (.c (.int .i64 (-1))), none, [], []⟩] false)
  (.gmask [4] [] .ret))))
def F55 : IFunc := ⟨2, 21, [.tmp 4], ic55, none⟩

def ic56_0_b : IC :=
  (.seq (.region [
    ⟨some 21, .bin .lss (.t 20) (.t 19), none, [], []⟩] false)
  (.seq (.cond (.t 21) .skip
  (.gmask [1, 4] [100, 103] (.exit 0)))
  (.seq (.block 1 (.seq (.region [
    ⟨some 22, .mov (.t 20), none, [], []⟩,
    ⟨some 5, .mov (.t 22), none, [], []⟩] false)
  (.region [
    ⟨some 23, .mov (.t 4), none, [], []⟩,
    ⟨some 24, .mov (.t 5), none, [], []⟩,
    ⟨some 25, .iaddr 1 (.t 23) (.t 24), none, [100], []⟩,
    ⟨none, .store 1 (.t 25) (.c (.int .i64 (-1))), none, [100], []⟩] false)))
  (.region [
    ⟨some 26, .bin .add (.t 20) (.c (.int .i64 1)), none, [], []⟩,
    ⟨some 20, .mov (.t 26), none, [], []⟩] false))))
def ic56_0 : IC := .loop [1, 4, 19, 20] [100, 103] ic56_0_b
/-- corpora/corporaref06.allHeads -/
def ic56 : IC :=
  (.seq (.region [
    ⟨some 1, .box 103 7 (.t 0), none, [103], []⟩,
    ⟨some 2, .movp (.c (.nil)), none, [], []⟩,
    ⟨some 3, .movp (.c (.nil)), none, [], []⟩] false)
  (.seq (.seq (.region [
    ⟨some 6, .faddr 5 (.t 1), none, [], []⟩,
    ⟨some 7, .load 1 false (.t 6), none, [103], []⟩,
    ⟨some 8, .len false (.t 7), none, [], []⟩,
    ⟨some 9, .bin .gtr (.t 8) (.c (.int .i64 0)), none, [], []⟩] false)
  (.cond (.t 9) (.seq (.region [
    ⟨some 10, .faddr 5 (.t 1), none, [], []⟩,
    ⟨some 11, .load 1 false (.t 10), none, [103], [0]⟩,
    ⟨some 12, .faddr 6 (.t 1), none, [], []⟩,
    ⟨some 13, .load 1 false (.t 12), none, [103], [2]⟩,
    ⟨some 2, .mov (.t 11), none, [], [0, 1]⟩,
    ⟨some 3, .mov (.t 13), none, [], [0, 1, 2, 3, 4]⟩] true)
  (.gmask [2, 3] [100, 102] .ret))
  .skip))
  (.seq (.region [
    ⟨some 14, .faddr 1 (.t 1), none, [], []⟩,
    ⟨some 15, .load 1 false (.t 14), none, [103], []⟩,
    ⟨some 16, .len false (.t 15), none, [], []⟩,
    ⟨some 17, .makeSl 100 1 8 (.int .i64 0) (.t 16) (.t 16), none, [100], []⟩,
    ⟨some 4, .mov (.t 17), none, [], []⟩] false)
  (.seq (.seq (.region [
    ⟨some 18, .mov (.t 4), none, [], []⟩,
    ⟨some 19, .len false (.t 18), none, [100], []⟩,
    ⟨some 20, .mov (.c (.int .i64 0)), none, [], []⟩] false)
  (.block 0 (.gmask [1, 4, 19, 20] [100, 103] ic56_0)))
  (.seq (.region [
    ⟨some 27, .mov (.t 4), none, [], []⟩,
    ⟨some 28, .faddr 1 (.t 1), none, [], []⟩,
    ⟨some 29, .load 1 false (.t 28), none, [103], [1]⟩,
    ⟨some 30, .len false (.t 29), none, [], [1, 2]⟩,
    ⟨some 31, .makeSl 102 1 16 (.str ⟨#[]⟩) (.t 30) (.t 30), none, [102], [1, 2, 3]⟩,
    ⟨some 2, .mov (.t 27), none, [], [0]⟩,
    ⟨some 3, .mov (.t 31), none, [], [0, 1, 2, 3, 4, 5]⟩] true)
  (.gmask [2, 3] [100, 102] .ret))))))
def F56 : IFunc := ⟨1, 32, [.tmp 2, .tmp 3], ic56, none⟩

/-- corpora/query.none -/
def ic57 : IC :=
  (.seq (.region [
    ⟨some 1, .box 100 11 (.t 0), none, [100], []⟩,
    ⟨some 2, .mov (.c (.bool false)), none, [], []⟩] false)
  (.seq (.region [
    ⟨some 3, .faddr 0 (.t 1), none, [], []⟩,
    ⟨some 4, .load 1 false (.t 3), none, [100], []⟩,
    ⟨some 5, .bin .eql (.t 4) (.c (.int .i64 0)), none, [], []⟩,
    ⟨some 6, .mov (.t 5), none, [], []⟩,
    ⟨some 7, .faddr 1 (.t 1), some (6, true), [], []⟩,
    ⟨some 8, .load 1 false (.t 7), some (6, true), [100], []⟩,
    ⟨some 9, .bin .eql (.t 8) (.c (.str ⟨#[]⟩)), some (6, true), [], []⟩,
    ⟨some 10, .pick (.t 6) (.t 9) (.c (.bool false)), none, [], []⟩,
    ⟨some 11, .mov (.t 10), none, [], []⟩,
    ⟨some 12, .faddr 2 (.t 1), some (11, true), [], []⟩,
    ⟨some 13, .load 1 false (.t 12), some (11, true), [100], []⟩,
    ⟨some 14, .bin .eql (.t 13) (.c (.str ⟨#[]⟩)), some (11, true), [], []⟩,
    ⟨some 15, .pick (.t 11) (.t 14) (.c (.bool false)), none, [], []⟩,
    ⟨some 16, .mov (.t 15), none, [], []⟩,
    ⟨some 17, .faddr 3 (.t 1), some (16, true), [], []⟩,
    ⟨some 18, .load 1 false (.t 17), some (16, true), [100], []⟩,
    ⟨some 19, .bin .eql (.t 18) (.c (.str ⟨#[]⟩)), some (16, true), [], []⟩,
    ⟨some 20, .pick (.t 16) (.t 19) (.c (.bool false)), none, [], []⟩,
    ⟨some 21, .mov (.t 20), none, [], []⟩,
    ⟨some 22, .faddr 4 (.t 1), some (21, true), [], []⟩,
    ⟨some 23, .load 1 false (.t 22), some (21, true), [100], []⟩,
    ⟨some 24, .bin .eql (.t 23) (.c (.str ⟨#[]⟩)), some (21, true), [], []⟩,
    ⟨some 25, .pick (.t 21) (.t 24) (.c (.bool false)), none, [], []⟩,
    ⟨some 26, .mov (.t 25), none, [], []⟩,
    ⟨some 27, .faddr 5 (.t 1), some (26, true), [], []⟩,
    ⟨some 28, .load 1 false (.t 27), some (26, true), [100], []⟩,
    ⟨some 29, .bin .eql (.t 28) (.c (.str ⟨#[]⟩)), some (26, true), [], []⟩,
    ⟨some 30, .pick (.t 26) (.t 29) (.c (.bool false)), none, [], []⟩,
    ⟨some 31, .mov (.t 30), none, [], []⟩,
    ⟨some 32, .faddr 6 (.t 1), some (31, true), [], []⟩,
    ⟨some 33, .load 1 false (.t 32), some (31, true), [100], []⟩,
    ⟨some 34, .un .not (.t 33), some (31, true), [], []⟩,
    ⟨some 35, .pick (.t 31) (.t 34) (.c (.bool false)), none, [], []⟩,
    ⟨some 36, .mov (.t 35), none, [], []⟩,
    ⟨some 37, .faddr 7 (.t 1), some (36, true), [], []⟩,
    ⟨some 38, .load 1 false (.t 37), some (36, true), [100], []⟩,
    ⟨some 39, .bin .eql (.t 38) (.c (.int .i64 0)), some (36, true), [], []⟩,
    ⟨some 40, .pick (.t 36) (.t 39) (.c (.bool false)), none, [], []⟩,
    ⟨some 41, .mov (.t 40), none, [], []⟩,
    ⟨some 42, .faddr 8 (.t 1), some (41, true), [], []⟩,
    ⟨some 43, .load 1 false (.t 42), some (41, true), [100], []⟩,
    ⟨some 44, .bin .eql (.t 43) (.c (.int .i64 0)), some (41, true), [], []⟩,
    ⟨some 45, .pick (.t 41) (.t 44) (.c (.bool false)), none, [], []⟩,
    ⟨some 46, .mov (.t 45), none, [], []⟩,
    ⟨some 47, .faddr 9 (.t 1), some (46, true), [], []⟩,
    ⟨some 48, .load 1 false (.t 47), some (46, true), [100], []⟩,
    ⟨some 49, .len false (.t 48), some (46, true), [], []⟩,
    ⟨some 50, .bin .eql (.t 49) (.c (.int .i64 0)), some (46, true), [], []⟩,
    ⟨some 51, .pick (.t 46) (.t 50) (.c (.bool false)), none, [], []⟩,
    ⟨some 52, .mov (.t 51), none, [], []⟩,
    ⟨some 53, .faddr 10 (.t 1), some (52, true), [], []⟩,
    ⟨some 54, .load 1 false (.t 53), some (52, true), [100], []⟩,
    ⟨some 55, .len false (.t 54), some (52, true), [], []⟩,
    ⟨some 56, .bin .eql (.t 55) (.c (.int .i64 0)), some (52, true), [], []⟩,
    ⟨some 57, .pick (.t 52) (.t 56) (.c (.bool false)), none, [], []⟩,
    ⟨some 2, .mov (.t 57), none, [], []⟩] false)
  (.gmask [2] [] .ret)))
def F57 : IFunc := ⟨1, 58, [.tmp 2], ic57, none⟩

def ic58_0_b : IC :=
  (.seq (.region [
    ⟨some 20, .bin .lss (.t 19) (.t 18), none, [], []⟩] false)
  (.seq (.cond (.t 20) .skip
  (.gmask [1, 8] [] (.exit 0)))
  (.seq (.block 1 (.seq (.region [
    ⟨some 21, .iaddr 11 (.t 17) (.t 19), none, [], []⟩,
    ⟨some 22, .load 11 true (.t 21), none, [], []⟩,
    ⟨some 10, .alloc 101 [.int .i64 0, .str ⟨#[]⟩, .str ⟨#[]⟩, .str ⟨#[]⟩, .str ⟨#[]⟩, .str ⟨#[]⟩, .bool false, .int .i64 0, .int .i64 0, .nil, .nil], none, [101], []⟩,
    ⟨none, .store 11 (.t 10) (.t 22), none, [101], []⟩] false)
  (.seq (.seq (.region [
    ⟨some 23, .mov (.t 1), none, [], []⟩,
    ⟨some 24, .bin .gtr (.t 23) (.c (.int .i64 60)), none, [], []⟩] false)
  (.cond (.t 24) (.gmask [1, 8] [] (.exit 0))
  .skip))
  (.seq (.region [
    ⟨some 26, .load 11 true (.t 10), none, [101], []⟩,
    ⟨some 27, .mov (.t 1), none, [], []⟩,
    ⟨some 28, .mov (.t 2), none, [], []⟩,
    ⟨some 29, .bin .add (.t 28) (.c (.int .i64 1)), none, [], []⟩,
    ⟨some 30, .call none 58 [.t 26, .t 27, .t 29], none, [], []⟩,
    ⟨some 25, .mov (.t 30), none, [], []⟩,
    ⟨some 31, .extract (.t 25) 0, none, [], []⟩,
    ⟨some 32, .extract (.t 25) 1, none, [], []⟩,
    ⟨some 11, .mov (.t 31), none, [], []⟩,
    ⟨some 12, .mov (.t 32), none, [], []⟩] false)
  (.region [
    ⟨some 33, .mov (.t 11), none, [], []⟩,
    ⟨some 34, .mov (.t 8), none, [], []⟩,
    ⟨some 35, .mov (.t 12), none, [], []⟩,
    ⟨some 36, .mm true (.t 34) (.t 35), none, [], []⟩,
    ⟨some 1, .mov (.t 33), none, [], []⟩,
    ⟨some 8, .mov (.t 36), none, [], []⟩] false)))))
  (.region [
    ⟨some 37, .bin .add (.t 19) (.c (.int .i64 1)), none, [], []⟩,
    ⟨some 19, .mov (.t 37), none, [], []⟩] false))))
def ic58_0 : IC := .loop [1, 2, 8, 17, 18, 19] [] ic58_0_b
/-- corpora/query.measure -/
def ic58 : IC :=
  (.seq (.region [
    ⟨some 3, .box 100 11 (.t 0), none, [100], []⟩,
    ⟨some 6, .mov (.c (.int .i64 0)), none, [], []⟩,
    ⟨some 7, .mov (.c (.int .i64 0)), none, [], []⟩] false)
  (.seq (.region [
    ⟨some 13, .mov (.t 1), none, [], []⟩,
    ⟨some 14, .bin .add (.t 13) (.c (.int .i64 1)), none, [], []⟩,
    ⟨some 1, .mov (.t 14), none, [], []⟩] false)
  (.seq (.region [
    ⟨some 15, .mov (.t 2), none, [], []⟩,
    ⟨some 8, .mov (.t 15), none, [], []⟩] false)
  (.seq (.seq (.region [
    ⟨some 16, .faddr 10 (.t 3), none, [], []⟩,
    ⟨some 17, .load 1 false (.t 16), none, [100], []⟩,
    ⟨some 18, .len false (.t 17), none, [], []⟩,
    ⟨some 19, .mov (.c (.int .i64 0)), none, [], []⟩] false)
  (.block 0 (.gmask [1, 2, 8, 17, 18, 19] [] ic58_0)))
  (.seq (.region [
    ⟨some 38, .mov (.t 1), none, [], []⟩,
    ⟨some 39, .mov (.t 8), none, [], []⟩,
    ⟨some 6, .mov (.t 38), none, [], []⟩,
    ⟨some 7, .mov (.t 39), none, [], []⟩] false)
  (.gmask [6, 7] [] .ret))))))
def F58 : IFunc := ⟨3, 40, [.tmp 6, .tmp 7], ic58, none⟩

end Go.Ab.Prog
