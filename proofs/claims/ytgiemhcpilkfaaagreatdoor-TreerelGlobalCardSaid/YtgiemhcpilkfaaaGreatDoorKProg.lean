/- More annotated copies of the functions, as a program of my own printed them (gen.py), and the evaluator's program. -/
import Derived.Test.YtgiemhcpilkfaaaGreatDoorKProgA

namespace Go.Ab.Prog
open Go.Ab
set_option maxRecDepth 100000

/-- corpora/query.atoms -/
def ic59 : IC :=
  (.seq (.region [
    ⟨some 2, .box 100 11 (.t 0), none, [100], []⟩,
    ⟨some 3, .box 101 1 (.t 1), none, [101], []⟩,
    ⟨some 4, .mov (.c (.bool false)), none, [], []⟩] false)
  (.seq (.region [
    ⟨some 5, .load 1 false (.t 3), none, [101], []⟩,
    ⟨some 6, .load 11 true (.t 2), none, [100], []⟩,
    ⟨some 7, .callv (.t 5) [60, 64, 66, 67, 68, 87, 89, 97, 98, 99, 100, 101, 102, 103, 124, 125, 127, 130, 167] [.t 6], none, [], []⟩,
    ⟨some 8, .mov (.t 7), none, [], []⟩,
    ⟨some 9, .faddr 10 (.t 2), some (8, true), [], []⟩,
    ⟨some 10, .load 1 false (.t 9), some (8, true), [100], []⟩,
    ⟨some 11, .mkFn 87 2 [] [.t 3], some (8, true), [101], []⟩,
    ⟨some 12, .call none 63 [.t 10, .t 11], some (8, true), [], []⟩,
    ⟨some 13, .un .not (.t 12), some (8, true), [], []⟩,
    ⟨some 14, .pick (.t 8) (.t 13) (.c (.bool false)), none, [], []⟩,
    ⟨some 4, .mov (.t 14), none, [], []⟩] false)
  (.gmask [4] [] .ret)))
def F59 : IFunc := ⟨2, 15, [.tmp 4], ic59, none⟩

/-- corpora/query.atom -/
def ic60 : IC :=
  (.seq (.region [
    ⟨some 1, .box 100 11 (.t 0), none, [100], []⟩,
    ⟨some 2, .mov (.c (.bool false)), none, [], []⟩] false)
  (.seq (.region [
    ⟨some 3, .mov (.c (.int .i64 0)), none, [], []⟩,
    ⟨some 4, .mov (.c (.int .i64 0)), none, [], []⟩] false)
  (.seq (.region [
    ⟨some 6, .faddr 0 (.t 1), none, [], []⟩,
    ⟨some 7, .load 1 false (.t 6), none, [100], []⟩,
    ⟨some 8, .faddr 1 (.t 1), none, [], []⟩,
    ⟨some 9, .load 1 false (.t 8), none, [100], []⟩,
    ⟨some 10, .faddr 2 (.t 1), none, [], []⟩,
    ⟨some 11, .load 1 false (.t 10), none, [100], []⟩,
    ⟨some 12, .build [.int .i64 0, .str ⟨#[]⟩, .str ⟨#[]⟩, .str ⟨#[]⟩, .str ⟨#[]⟩, .str ⟨#[]⟩, .bool false, .int .i64 0, .int .i64 0, .nil, .nil] [(0, 1, .t 7), (1, 1, .t 9), (2, 1, .t 11)], none, [], []⟩,
    ⟨some 5, .alloc 101 [.int .i64 0, .str ⟨#[]⟩, .str ⟨#[]⟩, .str ⟨#[]⟩, .str ⟨#[]⟩, .str ⟨#[]⟩, .bool false, .int .i64 0, .int .i64 0, .nil, .nil], none, [101], []⟩,
    ⟨none, .store 11 (.t 5) (.t 12), none, [101], []⟩] false)
  (.seq (.seq (.region [
    ⟨some 13, .faddr 0 (.t 1), none, [], []⟩,
    ⟨some 14, .load 1 false (.t 13), none, [100], []⟩] false)
  (.block 0 (.seq (.region [
    ⟨some 16, .bin .eql (.t 14) (.c (.int .i64 1)), none, [], []⟩,
    ⟨some 15, .mov (.t 16), none, [], []⟩] false)
  (.gpost [1, 3, 4, 5] [100, 101] (.cond (.t 15) (.region [
    ⟨some 17, .faddr 2 (.t 5), none, [], []⟩,
    ⟨none, .store 1 (.t 17) (.c (.str ⟨#[]⟩)), none, [101], []⟩] false)
  (.seq (.region [
    ⟨some 19, .bin .eql (.t 14) (.c (.int .i64 2)), none, [], []⟩,
    ⟨some 18, .mov (.t 19), none, [], []⟩] false)
  (.gpost [1, 3, 4, 5] [100, 101] (.cond (.t 18) (.region [
    ⟨some 20, .faddr 3 (.t 1), none, [], []⟩,
    ⟨some 21, .load 1 false (.t 20), none, [100], [0]⟩,
    ⟨some 22, .faddr 5 (.t 1), none, [], []⟩,
    ⟨some 23, .load 1 false (.t 22), none, [100], [2]⟩,
    ⟨some 24, .faddr 6 (.t 1), none, [], []⟩,
    ⟨some 25, .load 1 false (.t 24), none, [100], [4]⟩,
    ⟨some 26, .faddr 2 (.t 5), none, [], []⟩,
    ⟨none, .store 1 (.t 26) (.c (.str ⟨#[]⟩)), none, [101], [6]⟩,
    ⟨some 27, .faddr 3 (.t 5), none, [], [0, 1, 6, 7]⟩,
    ⟨none, .store 1 (.t 27) (.t 21), none, [101], [0, 1, 6, 7, 8]⟩,
    ⟨some 28, .faddr 5 (.t 5), none, [], [0, 1, 2, 3, 6, 7, 8, 9]⟩,
    ⟨none, .store 1 (.t 28) (.t 23), none, [101], [0, 1, 2, 3, 6, 7, 8, 9, 10]⟩,
    ⟨some 29, .faddr 6 (.t 5), none, [], [0, 1, 2, 3, 4, 5, 6, 7, 8, 9, 10, 11]⟩,
    ⟨none, .store 1 (.t 29) (.t 25), none, [101], [0, 1, 2, 3, 4, 5, 6, 7, 8, 9, 10, 11, 12]⟩] true)
  (.seq (.region [
    ⟨some 31, .bin .eql (.t 14) (.c (.int .i64 3)), none, [], []⟩,
    ⟨some 30, .mov (.t 31), none, [], []⟩] false)
  (.gpost [1, 3, 4, 5] [100, 101] (.cond (.t 30) (.region [
    ⟨some 32, .faddr 3 (.t 1), none, [], []⟩,
    ⟨some 33, .load 1 false (.t 32), none, [100], [0]⟩,
    ⟨some 34, .faddr 4 (.t 1), none, [], []⟩,
    ⟨some 35, .load 1 false (.t 34), none, [100], [2]⟩,
    ⟨some 36, .faddr 3 (.t 5), none, [], [0, 1]⟩,
    ⟨none, .store 1 (.t 36) (.t 33), none, [101], [0, 1, 4]⟩,
    ⟨some 37, .faddr 4 (.t 5), none, [], [0, 1, 2, 3, 4, 5]⟩,
    ⟨none, .store 1 (.t 37) (.t 35), none, [101], [0, 1, 2, 3, 4, 5, 6]⟩] true)
  (.seq (.region [
    ⟨some 39, .bin .eql (.t 14) (.c (.int .i64 4)), none, [], []⟩,
    ⟨some 38, .mov (.t 39), none, [], []⟩] false)
  (.gpost [1, 3, 4, 5] [100, 101] (.cond (.t 38) (.region [
    ⟨some 40, .faddr 7 (.t 1), none, [], []⟩,
    ⟨some 41, .load 1 false (.t 40), none, [100], [0]⟩,
    ⟨some 42, .faddr 8 (.t 1), none, [], []⟩,
    ⟨some 43, .load 1 false (.t 42), none, [100], [2]⟩,
    ⟨some 44, .faddr 7 (.t 5), none, [], [0, 1]⟩,
    ⟨none, .store 1 (.t 44) (.t 41), none, [101], [0, 1, 4]⟩,
    ⟨some 45, .faddr 8 (.t 5), none, [], [0, 1, 2, 3, 4, 5]⟩,
    ⟨none, .store 1 (.t 45) (.t 43), none, [101], [0, 1, 2, 3, 4, 5, 6]⟩] true)
  (.seq (.seq (.region [
    ⟨some 47, .bin .eql (.t 14) (.c (.int .i64 5)), none, [], []⟩,
    ⟨some 46, .mov (.t 47), none, [], []⟩] false)
  (.gpost [1, 3, 4, 5, 14, 46] [100, 101] (.cond (.t 46) .skip
  (.region [
    ⟨some 48, .bin .eql (.t 14) (.c (.int .i64 9)), none, [], []⟩,
    ⟨some 46, .mov (.t 48), none, [], []⟩] false))))
  (.gpost [1, 3, 4, 5] [100, 101] (.cond (.t 46) (.region [
    ⟨some 49, .faddr 3 (.t 1), none, [], []⟩,
    ⟨some 50, .load 1 false (.t 49), none, [100], []⟩,
    ⟨some 51, .faddr 3 (.t 5), none, [], []⟩,
    ⟨none, .store 1 (.t 51) (.t 50), none, [101], []⟩] false)
  (.seq (.seq (.region [
    ⟨some 53, .bin .eql (.t 14) (.c (.int .i64 6)), none, [], []⟩,
    ⟨some 52, .mov (.t 53), none, [], []⟩] false)
  (.gpost [1, 3, 4, 5, 14, 52] [100, 101] (.cond (.t 52) .skip
  (.region [
    ⟨some 54, .bin .eql (.t 14) (.c (.int .i64 7)), none, [], []⟩,
    ⟨some 52, .mov (.t 54), none, [], []⟩] false))))
  (.gpost [1, 3, 4, 5] [100, 101] (.cond (.t 52) .skip
  (.seq (.region [
    ⟨some 56, .bin .eql (.t 14) (.c (.int .i64 8)), none, [], []⟩,
    ⟨some 55, .mov (.t 56), none, [], []⟩] false)
  (.gpost [1, 3, 4, 5] [100, 101] (.cond (.t 55) (.region [
    ⟨some 57, .faddr 9 (.t 1), none, [], []⟩,
    ⟨some 58, .load 1 false (.t 57), none, [100], []⟩,
    ⟨some 59, .faddr 9 (.t 5), none, [], []⟩,
    ⟨none, .store 1 (.t 59) (.t 58), none, [101], []⟩] false)
  (.seq (.region [
    ⟨some 61, .bin .eql (.t 14) (.c (.int .i64 10)), none, [], []⟩,
    ⟨some 60, .mov (.t 61), none, [], []⟩] false)
  (.gpost [1, 3, 4, 5] [100, 101] (.cond (.t 60) (.region [
    ⟨some 62, .faddr 7 (.t 1), none, [], []⟩,
    ⟨some 63, .load 1 false (.t 62), none, [100], [0]⟩,
    ⟨some 64, .faddr 8 (.t 1), none, [], []⟩,
    ⟨some 65, .load 1 false (.t 64), none, [100], [2]⟩,
    ⟨some 66, .faddr 2 (.t 5), none, [], []⟩,
    ⟨none, .store 1 (.t 66) (.c (.str ⟨#[]⟩)), none, [101], [4]⟩,
    ⟨some 67, .faddr 7 (.t 5), none, [], [0, 1, 4, 5]⟩,
    ⟨none, .store 1 (.t 67) (.t 63), none, [101], [0, 1, 4, 5, 6]⟩,
    ⟨some 68, .faddr 8 (.t 5), none, [], [0, 1, 2, 3, 4, 5, 6, 7]⟩,
    ⟨none, .store 1 (.t 68) (.t 65), none, [101], [0, 1, 2, 3, 4, 5, 6, 7, 8]⟩] true)
  (.seq (.region [
    ⟨some 70, .bin .eql (.t 14) (.c (.int .i64 11)), none, [], []⟩,
    ⟨some 69, .mov (.t 70), none, [], []⟩] false)
  (.gpost [1, 3, 4, 5] [100, 101] (.cond (.t 69) (.seq (.region [
    ⟨some 71, .faddr 1 (.t 5), none, [], []⟩,
    ⟨none, .store 1 (.t 71) (.c (.str ⟨#[]⟩)), none, [101], []⟩,
    ⟨some 72, .faddr 2 (.t 5), none, [], []⟩,
    ⟨none, .store 1 (.t 72) (.c (.str ⟨#[]⟩)), none, [101], []⟩] false)
  (.region [
    ⟨some 3, .mov (.c (.int .i64 1)), none, [], []⟩,
    ⟨some 4, .mov (.c (.int .i64 1)), none, [], []⟩] false))
  (.seq (.seq (.region [
    ⟨some 74, .bin .eql (.t 14) (.c (.int .i64 12)), none, [], []⟩,
    ⟨some 73, .mov (.t 74), none, [], []⟩] false)
  (.gpost [1, 5, 73] [100, 101] (.cond (.t 73) .skip
  (.region [
    ⟨some 75, .bin .eql (.t 14) (.c (.int .i64 13)), none, [], []⟩,
    ⟨some 73, .mov (.t 75), none, [], []⟩] false))))
  (.cond (.t 73) (.seq (.region [
    ⟨some 76, .faddr 1 (.t 5), none, [], []⟩,
    ⟨none, .store 1 (.t 76) (.c (.str ⟨#[]⟩)), none, [101], []⟩,
    ⟨some 77, .faddr 2 (.t 5), none, [], []⟩,
    ⟨none, .store 1 (.t 77) (.c (.str ⟨#[]⟩)), none, [101], []⟩] false)
  (.region [
    ⟨some 3, .mov (.c (.int .i64 2)), none, [], []⟩,
    ⟨some 4, .mov (.c (.int .i64 60)), none, [], []⟩] false))
  (.seq (.region [
    ⟨some 2, .mov (.c (.bool false)), none, [], []⟩] false)
  (.gmask [2] [] .ret)))))))))))))))))))))))))))))))))
  (.seq (.region [
    ⟨some 78, .faddr 1 (.t 1), none, [], []⟩,
    ⟨some 79, .load 1 false (.t 78), none, [100], []⟩,
    ⟨some 80, .faddr 1 (.t 5), none, [], []⟩,
    ⟨some 81, .load 1 false (.t 80), none, [101], []⟩,
    ⟨some 82, .bin .eql (.t 79) (.t 81), none, [], []⟩,
    ⟨some 83, .mov (.t 82), none, [], []⟩,
    ⟨some 84, .faddr 2 (.t 1), some (83, true), [], []⟩,
    ⟨some 85, .load 1 false (.t 84), some (83, true), [100], []⟩,
    ⟨some 86, .faddr 2 (.t 5), some (83, true), [], []⟩,
    ⟨some 87, .load 1 false (.t 86), some (83, true), [101], []⟩,
    ⟨some 88, .bin .eql (.t 85) (.t 87), some (83, true), [], []⟩,
    ⟨some 89, .pick (.t 83) (.t 88) (.c (.bool false)), none, [], []⟩,
    ⟨some 90, .mov (.t 89), none, [], []⟩,
    ⟨some 91, .faddr 3 (.t 1), some (90, true), [], []⟩,
    ⟨some 92, .load 1 false (.t 91), some (90, true), [100], []⟩,
    ⟨some 93, .faddr 3 (.t 5), some (90, true), [], []⟩,
    ⟨some 94, .load 1 false (.t 93), some (90, true), [101], []⟩,
    ⟨some 95, .bin .eql (.t 92) (.t 94), some (90, true), [], []⟩,
    ⟨some 96, .pick (.t 90) (.t 95) (.c (.bool false)), none, [], []⟩,
    ⟨some 97, .mov (.t 96), none, [], []⟩,
    ⟨some 98, .faddr 4 (.t 1), some (97, true), [], []⟩,
    ⟨some 99, .load 1 false (.t 98), some (97, true), [100], []⟩,
    ⟨some 100, .faddr 4 (.t 5), some (97, true), [], []⟩,
    ⟨some 101, .load 1 false (.t 100), some (97, true), [101], []⟩,
    ⟨some 102, .bin .eql (.t 99) (.t 101), some (97, true), [], []⟩,
    ⟨some 103, .pick (.t 97) (.t 102) (.c (.bool false)), none, [], []⟩,
    ⟨some 104, .mov (.t 103), none, [], []⟩,
    ⟨some 105, .faddr 5 (.t 1), some (104, true), [], []⟩,
    ⟨some 106, .load 1 false (.t 105), some (104, true), [100], []⟩,
    ⟨some 107, .faddr 5 (.t 5), some (104, true), [], []⟩,
    ⟨some 108, .load 1 false (.t 107), some (104, true), [101], []⟩,
    ⟨some 109, .bin .eql (.t 106) (.t 108), some (104, true), [], []⟩,
    ⟨some 110, .pick (.t 104) (.t 109) (.c (.bool false)), none, [], []⟩,
    ⟨some 111, .mov (.t 110), none, [], []⟩,
    ⟨some 112, .faddr 6 (.t 1), some (111, true), [], []⟩,
    ⟨some 113, .load 1 false (.t 112), some (111, true), [100], []⟩,
    ⟨some 114, .faddr 6 (.t 5), some (111, true), [], []⟩,
    ⟨some 115, .load 1 false (.t 114), some (111, true), [101], []⟩,
    ⟨some 116, .eqB false (.t 113) (.t 115), some (111, true), [], []⟩,
    ⟨some 117, .pick (.t 111) (.t 116) (.c (.bool false)), none, [], []⟩,
    ⟨some 118, .mov (.t 117), none, [], []⟩,
    ⟨some 119, .faddr 7 (.t 1), some (118, true), [], []⟩,
    ⟨some 120, .load 1 false (.t 119), some (118, true), [100], []⟩,
    ⟨some 121, .faddr 7 (.t 5), some (118, true), [], []⟩,
    ⟨some 122, .load 1 false (.t 121), some (118, true), [101], []⟩,
    ⟨some 123, .bin .eql (.t 120) (.t 122), some (118, true), [], []⟩,
    ⟨some 124, .pick (.t 118) (.t 123) (.c (.bool false)), none, [], []⟩,
    ⟨some 125, .mov (.t 124), none, [], []⟩,
    ⟨some 126, .faddr 8 (.t 1), some (125, true), [], []⟩,
    ⟨some 127, .load 1 false (.t 126), some (125, true), [100], []⟩,
    ⟨some 128, .faddr 8 (.t 5), some (125, true), [], []⟩,
    ⟨some 129, .load 1 false (.t 128), some (125, true), [101], []⟩,
    ⟨some 130, .bin .eql (.t 127) (.t 129), some (125, true), [], []⟩,
    ⟨some 131, .pick (.t 125) (.t 130) (.c (.bool false)), none, [], []⟩,
    ⟨some 132, .mov (.t 131), none, [], []⟩,
    ⟨some 133, .faddr 9 (.t 1), some (132, true), [], []⟩,
    ⟨some 134, .load 1 false (.t 133), some (132, true), [100], []⟩,
    ⟨some 135, .len false (.t 134), some (132, true), [], []⟩,
    ⟨some 136, .faddr 9 (.t 5), some (132, true), [], []⟩,
    ⟨some 137, .load 1 false (.t 136), some (132, true), [101], []⟩,
    ⟨some 138, .len false (.t 137), some (132, true), [], []⟩,
    ⟨some 139, .bin .eql (.t 135) (.t 138), some (132, true), [], []⟩,
    ⟨some 140, .pick (.t 132) (.t 139) (.c (.bool false)), none, [], []⟩,
    ⟨some 141, .mov (.t 140), none, [], []⟩,
    ⟨some 142, .faddr 10 (.t 1), some (141, true), [], []⟩,
    ⟨some 143, .load 1 false (.t 142), some (141, true), [100], []⟩,
    ⟨some 144, .len false (.t 143), some (141, true), [], []⟩,
    ⟨some 145, .mov (.t 3), some (141, true), [], []⟩,
    ⟨some 146, .bin .geq (.t 144) (.t 145), some (141, true), [], []⟩,
    ⟨some 147, .pick (.t 141) (.t 146) (.c (.bool false)), none, [], []⟩,
    ⟨some 148, .mov (.t 147), none, [], []⟩,
    ⟨some 149, .faddr 10 (.t 1), some (148, true), [], []⟩,
    ⟨some 150, .load 1 false (.t 149), some (148, true), [100], []⟩,
    ⟨some 151, .len false (.t 150), some (148, true), [], []⟩,
    ⟨some 152, .mov (.t 4), some (148, true), [], []⟩,
    ⟨some 153, .bin .leq (.t 151) (.t 152), some (148, true), [], []⟩,
    ⟨some 154, .pick (.t 148) (.t 153) (.c (.bool false)), none, [], []⟩,
    ⟨some 2, .mov (.t 154), none, [], []⟩] false)
  (.gmask [2] [] .ret))))))
def F60 : IFunc := ⟨1, 155, [.tmp 2], ic60, none⟩

/-- corpora/condition.Attribute -/
def ic61 : IC :=
  (.seq (.region [
    ⟨some 3, .box 100 1 (.t 1), none, [100], []⟩,
    ⟨some 4, .mov (.c (.int .i64 0)), none, [], []⟩] false)
  (.seq (.region [
    ⟨some 5, .mov (.t 0), none, [], []⟩,
    ⟨some 6, .mkFn 89 2 [] [.t 3], none, [100], []⟩,
    ⟨some 7, .call none 88 [.t 5, .t 6], none, [], []⟩,
    ⟨some 4, .mov (.t 7), none, [], []⟩] false)
  (.gmask [4] [] .ret)))
def F61 : IFunc := ⟨2, 8, [.tmp 4], ic61, none⟩

/-- slices.ContainsFunc[[]corpora/api.Constraint,corpora/api.Constraint] -/
def ic63 : IC :=
  (.seq (.region [
    ⟨some 4, .mov (.c (.bool false)), none, [], []⟩] false)
  (.seq (.region [
    ⟨some 5, .mov (.t 0), none, [], []⟩,
    ⟨some 6, .mov (.t 1), none, [], []⟩,
    ⟨some 7, .call none 91 [.t 5, .t 6], none, [], []⟩,
    ⟨some 8, .bin .geq (.t 7) (.c (.int .i64 0)), none, [], []⟩,
    ⟨some 4, .mov (.t 8), none, [], []⟩] false)
  (.gmask [4] [] .ret)))
def F63 : IFunc := ⟨2, 9, [.tmp 4], ic63, none⟩

/-- corpora/global.known$1 -/
def ic64 : IC :=
  (.seq (.region [
    ⟨some 2, .box 100 11 (.t 0), none, [100], []⟩,
    ⟨some 3, .mov (.c (.bool false)), none, [], []⟩] false)
  (.seq (.region [
    ⟨some 4, .load 7 true (.t 1), none, [], []⟩,
    ⟨some 5, .load 11 true (.t 2), none, [100], []⟩,
    ⟨some 6, .call none 30 [.t 4, .t 5], none, [], []⟩,
    ⟨some 7, .un .not (.t 6), none, [], []⟩,
    ⟨some 3, .mov (.t 7), none, [], []⟩] false)
  (.gmask [3] [] .ret)))
def F64 : IFunc := ⟨2, 8, [.tmp 3], ic64, none⟩

/-- slices.ContainsFunc[[]int,int] -/
def ic65 : IC :=
  (.seq (.region [
    ⟨some 4, .mov (.c (.bool false)), none, [], []⟩] false)
  (.seq (.region [
    ⟨some 5, .mov (.t 0), none, [], []⟩,
    ⟨some 6, .mov (.t 1), none, [], []⟩,
    ⟨some 7, .call none 92 [.t 5, .t 6], none, [], []⟩,
    ⟨some 8, .bin .geq (.t 7) (.c (.int .i64 0)), none, [], []⟩,
    ⟨some 4, .mov (.t 8), none, [], []⟩] false)
  (.gmask [4] [] .ret)))
def F65 : IFunc := ⟨2, 9, [.tmp 4], ic65, none⟩

/-- corpora/global.fits$1 -/
def ic66 : IC :=
  (.seq (.region [
    ⟨some 3, .mov (.c (.bool false)), none, [], []⟩] false)
  (.seq (.region [
    ⟨some 4, .mov (.t 0), none, [], []⟩,
    ⟨some 5, .bin .lss (.t 4) (.c (.int .i64 (-1))), none, [], []⟩,
    ⟨some 6, .mov (.t 5), none, [], []⟩,
    ⟨some 7, .mov (.t 0), some (6, false), [], []⟩,
    ⟨some 8, .faddr 1 (.t 1), some (6, false), [], []⟩,
    ⟨some 9, .load 1 false (.t 8), some (6, false), [], []⟩,
    ⟨some 10, .len false (.t 9), some (6, false), [], []⟩,
    ⟨some 11, .bin .geq (.t 7) (.t 10), some (6, false), [], []⟩,
    ⟨some 12, .pick (.t 6) (.c (.bool true)) (.t 11), none, [], []⟩,
    ⟨some 3, .mov (.t 12), none, [], []⟩] false)
  (.gmask [3] [] .ret)))
def F66 : IFunc := ⟨2, 13, [.tmp 3], ic66, none⟩

/-- corpora/global.holds$1 -/
def ic67 : IC :=
  (.seq (.region [
    ⟨some 4, .box 100 11 (.t 0), none, [100], []⟩,
    ⟨some 5, .mov (.c (.bool false)), none, [], []⟩] false)
  (.seq (.region [
    ⟨some 6, .load 7 true (.t 1), none, [], []⟩,
    ⟨some 7, .load 11 true (.t 4), none, [100], []⟩,
    ⟨some 8, .load 1 false (.t 2), none, [], []⟩,
    ⟨some 9, .load 3 true (.t 3), none, [], []⟩,
    ⟨some 10, .call none 32 [.t 6, .t 7, .t 8, .t 9], none, [], []⟩,
    ⟨some 5, .mov (.t 10), none, [], []⟩] false)
  (.gmask [5] [] .ret)))
def F67 : IFunc := ⟨4, 11, [.tmp 5], ic67, none⟩

/-- corpora/global.holds$2 -/
def ic68 : IC :=
  (.seq (.region [
    ⟨some 2, .box 100 11 (.t 0), none, [100], []⟩,
    ⟨some 3, .mov (.c (.bool false)), none, [], []⟩] false)
  (.seq (.region [
    ⟨some 4, .load 1 false (.t 1), none, [], []⟩,
    ⟨some 5, .load 11 true (.t 2), none, [100], []⟩,
    ⟨some 6, .callv (.t 4) [60, 64, 66, 67, 68, 87, 89, 97, 98, 99, 100, 101, 102, 103, 124, 125, 127, 130, 167] [.t 5], none, [], []⟩,
    ⟨some 7, .un .not (.t 6), none, [], []⟩,
    ⟨some 3, .mov (.t 7), none, [], []⟩] false)
  (.gmask [3] [] .ret)))
def F68 : IFunc := ⟨2, 8, [.tmp 3], ic68, none⟩

/-- corpora/global.token -/
def ic69 : IC :=
  (.seq (.region [
    ⟨some 4, .box 100 3 (.t 1), none, [100], []⟩,
    ⟨some 6, .mov (.c (.int .i64 0)), none, [], []⟩] false)
  (.seq (.seq (.region [
    ⟨some 8, .mov (.t 0), none, [], []⟩,
    ⟨some 9, .mov (.t 2), none, [], []⟩,
    ⟨some 10, .call none 93 [.t 8, .t 9], none, [], []⟩,
    ⟨some 7, .mov (.t 10), none, [], []⟩] false)
  (.seq (.region [
    ⟨some 11, .mov (.t 7), none, [], []⟩,
    ⟨some 12, .bin .geq (.t 11) (.c (.int .i64 0)), none, [], []⟩] false)
  (.cond (.t 12) (.seq (.region [
    ⟨some 13, .faddr 2 (.t 4), none, [], []⟩,
    ⟨some 14, .load 1 false (.t 13), none, [100], []⟩,
    ⟨some 15, .mov (.t 7), none, [], []⟩,
    ⟨some 16, .iaddr 1 (.t 14) (.t 15), none, [], []⟩,
    ⟨some 17, .load 1 false (.t 16), none, [], []⟩,
    ⟨some 6, .mov (.t 17), none, [], []⟩] false)
  (.gmask [6] [] .ret))
  .skip)))
  (.seq (.region [
    ⟨some 6, .mov (.c (.int .i64 (-1))), none, [], []⟩] false)
  (.gmask [6] [] .ret))))
def F69 : IFunc := ⟨3, 18, [.tmp 6], ic69, none⟩

/-- corpora/global.value -/
def ic71 : IC :=
  (.seq (.region [
    ⟨some 3, .box 100 7 (.t 0), none, [100], []⟩,
    ⟨some 6, .mov (.c (.str ⟨#[]⟩)), none, [], []⟩] false)
  (.seq (.region [
    ⟨some 7, .load 7 true (.t 3), none, [100], []⟩,
    ⟨some 8, .mov (.t 1), none, [], []⟩,
    ⟨some 9, .faddr 0 (.t 3), none, [], []⟩,
    ⟨some 10, .load 1 false (.t 9), none, [100], [2]⟩,
    ⟨some 11, .mov (.t 2), none, [], []⟩,
    ⟨some 12, .call none 61 [.t 10, .t 11], none, [], [2, 3, 4]⟩,
    ⟨some 13, .call none 96 [.t 7, .t 8, .t 12], none, [], [0, 1, 2, 3, 4, 5]⟩,
    ⟨some 6, .mov (.t 13), none, [], [0, 1, 2, 3, 4, 5, 6]⟩] true)
  (.gmask [6] [] .ret)))
def F71 : IFunc := ⟨3, 14, [.tmp 6], ic71, none⟩

def ic72_0_b : IC :=
  (.seq (.seq (.region [
    ⟨some 9, .mov (.t 1), none, [], []⟩,
    ⟨some 10, .faddr 5 (.t 2), none, [], []⟩,
    ⟨some 11, .load 1 false (.t 10), none, [102], []⟩,
    ⟨some 12, .len false (.t 11), none, [], []⟩,
    ⟨some 13, .bin .lss (.t 9) (.t 12), none, [], []⟩,
    ⟨some 14, .mov (.t 13), none, [], []⟩,
    ⟨some 15, .mov (.t 1), some (14, true), [], []⟩,
    ⟨some 16, .faddr 6 (.t 2), some (14, true), [], []⟩,
    ⟨some 17, .load 1 false (.t 16), some (14, true), [102], []⟩,
    ⟨some 18, .len false (.t 17), some (14, true), [], []⟩,
    ⟨some 19, .bin .lss (.t 15) (.t 18), some (14, true), [], []⟩,
    ⟨some 20, .pick (.t 14) (.t 19) (.c (.bool false)), none, [], []⟩,
    ⟨some 21, .mov (.t 20), none, [], []⟩,
    ⟨some 22, .mov (.t 6), some (21, true), [], []⟩,
    ⟨some 23, .len false (.t 22), some (21, true), [100], []⟩,
    ⟨some 24, .faddr 1 (.t 2), some (21, true), [], []⟩,
    ⟨some 25, .load 1 false (.t 24), some (21, true), [102], []⟩,
    ⟨some 26, .len false (.t 25), some (21, true), [], []⟩,
    ⟨some 27, .bin .lss (.t 23) (.t 26), some (21, true), [], []⟩,
    ⟨some 28, .pick (.t 21) (.t 27) (.c (.bool false)), none, [], []⟩] false)
  (.cond (.t 28) .skip
  (.gmask [6, 7] [100, 101] (.exit 0))))
  (.block 1 (.seq (.region [
    ⟨some 29, .faddr 5 (.t 2), none, [], []⟩,
    ⟨some 30, .load 1 false (.t 29), none, [102], []⟩,
    ⟨some 31, .mov (.t 1), none, [], []⟩,
    ⟨some 32, .iaddr 1 (.t 30) (.t 31), none, [], []⟩,
    ⟨some 33, .load 1 false (.t 32), none, [], []⟩,
    ⟨some 8, .mov (.t 33), none, [], []⟩] false)
  (.seq (.seq (.region [
    ⟨some 34, .mov (.t 8), none, [], []⟩,
    ⟨some 35, .bin .lss (.t 34) (.c (.int .i64 0)), none, [], []⟩,
    ⟨some 36, .mov (.t 35), none, [], []⟩,
    ⟨some 37, .mov (.t 8), some (36, false), [], []⟩,
    ⟨some 38, .faddr 1 (.t 2), some (36, false), [], []⟩,
    ⟨some 39, .load 1 false (.t 38), some (36, false), [102], []⟩,
    ⟨some 40, .len false (.t 39), some (36, false), [], []⟩,
    ⟨some 41, .bin .geq (.t 37) (.t 40), some (36, false), [], []⟩,
    ⟨some 42, .pick (.t 36) (.c (.bool true)) (.t 41), none, [], []⟩] false)
  (.cond (.t 42) (.gmask [6, 7] [100, 101] (.exit 0))
  .skip))
  (.seq (.region [
    ⟨some 43, .mov (.t 7), none, [], []⟩,
    ⟨some 44, .faddr 6 (.t 2), none, [], []⟩,
    ⟨some 45, .load 1 false (.t 44), none, [102], []⟩,
    ⟨some 46, .mov (.t 1), none, [], []⟩,
    ⟨some 47, .iaddr 1 (.t 45) (.t 46), none, [], []⟩,
    ⟨some 48, .load 1 false (.t 47), none, [], []⟩,
    ⟨some 49, .buildSl none 1 (.str ⟨#[]⟩) 1 [(0, .t 48)], none, [], []⟩,
    ⟨some 50, .app none 1 16 (.t 43) (.t 49), none, [101], []⟩,
    ⟨some 7, .mov (.t 50), none, [], []⟩] false)
  (.seq (.region [
    ⟨some 51, .mov (.t 6), none, [], []⟩,
    ⟨some 52, .mov (.t 8), none, [], []⟩,
    ⟨some 53, .buildSl none 1 (.int .i64 0) 1 [(0, .t 52)], none, [], []⟩,
    ⟨some 54, .app none 1 8 (.t 51) (.t 53), none, [100], []⟩,
    ⟨some 6, .mov (.t 54), none, [], []⟩] false)
  (.region [
    ⟨some 55, .mov (.t 8), none, [], []⟩,
    ⟨some 1, .mov (.t 55), none, [], []⟩] false)))))))
def ic72_0 : IC := .loop [1, 2, 6, 7] [100, 101, 102] ic72_0_b
/-- corpora/global.up -/
def ic72 : IC :=
  (.seq (.region [
    ⟨some 2, .box 102 7 (.t 0), none, [102], []⟩,
    ⟨some 4, .movp (.c (.nil)), none, [], []⟩,
    ⟨some 5, .movp (.c (.nil)), none, [], []⟩] false)
  (.seq (.region [
    ⟨some 6, .nilarr 100 1, none, [100], []⟩] false)
  (.seq (.region [
    ⟨some 7, .nilarr 101 1, none, [101], []⟩] false)
  (.seq (.block 0 (.gmask [1, 2, 6, 7] [100, 101, 102] ic72_0))
  (.seq (.region [
    ⟨some 56, .mov (.t 6), none, [], []⟩,
    ⟨some 57, .mov (.t 7), none, [], []⟩,
    ⟨some 4, .mov (.t 56), none, [], []⟩,
    ⟨some 5, .mov (.t 57), none, [], []⟩] false)
  (.gmask [4, 5] [100, 101] .ret))))))
def F72 : IFunc := ⟨2, 58, [.tmp 4, .tmp 5], ic72, none⟩

/-- corpora/global.related -/
def ic73 : IC :=
  (.seq (.region [
    ⟨some 1, .box 100 20 (.t 0), none, [100], []⟩,
    ⟨some 2, .mov (.c (.bool false)), none, [], []⟩] false)
  (.seq (.region [
    ⟨some 4, .buildSl none 1 (.nilfn) 10 [(3, .c (.fn 97)), (4, .c (.fn 98)), (5, .c (.fn 99)), (6, .c (.fn 100)), (7, .c (.fn 101)), (8, .c (.fn 102)), (9, .c (.fn 103))], none, [], []⟩,
    ⟨some 3, .mov (.t 4), none, [], []⟩] false)
  (.seq (.region [
    ⟨some 5, .mov (.t 3), none, [], []⟩,
    ⟨some 6, .faddr 7 (.t 1), none, [], []⟩,
    ⟨some 7, .faddr 0 (.t 6), none, [], [1]⟩,
    ⟨some 8, .load 1 false (.t 7), none, [100], [1, 2]⟩,
    ⟨some 9, .iaddr 1 (.t 5) (.t 8), none, [], [0, 1, 2, 3]⟩,
    ⟨some 10, .load 1 false (.t 9), none, [], [0, 1, 2, 3, 4]⟩,
    ⟨some 11, .load 20 true (.t 1), none, [100], []⟩,
    ⟨some 12, .callv (.t 10) [60, 64, 66, 67, 68, 87, 89, 97, 98, 99, 100, 101, 102, 103, 124, 125, 127, 130, 167] [.t 11], none, [], [0, 1, 2, 3, 4, 5, 6]⟩,
    ⟨some 2, .mov (.t 12), none, [], [0, 1, 2, 3, 4, 5, 6, 7]⟩] true)
  (.gmask [2] [] .ret))))
def F73 : IFunc := ⟨1, 13, [.tmp 2], ic73, none⟩

/-- slices.Contains[[]int,int] -/
def ic84 : IC :=
  (.seq (.region [
    ⟨some 4, .mov (.c (.bool false)), none, [], []⟩] false)
  (.seq (.region [
    ⟨some 5, .mov (.t 0), none, [], []⟩,
    ⟨some 6, .mov (.t 1), none, [], []⟩,
    ⟨some 7, .call none 110 [.t 5, .t 6], none, [], []⟩,
    ⟨some 8, .bin .geq (.t 7) (.c (.int .i64 0)), none, [], []⟩,
    ⟨some 4, .mov (.t 8), none, [], []⟩] false)
  (.gmask [4] [] .ret)))
def F84 : IFunc := ⟨2, 9, [.tmp 4], ic84, none⟩

def ic85_0_b : IC :=
  (.seq (.seq (.region [
    ⟨some 41, .mov (.t 5), none, [], []⟩,
    ⟨some 42, .faddr 3 (.t 2), none, [], []⟩,
    ⟨some 43, .load 1 false (.t 42), none, [100], []⟩,
    ⟨some 44, .len false (.t 43), none, [], []⟩,
    ⟨some 45, .bin .lss (.t 41) (.t 44), none, [], []⟩,
    ⟨some 46, .mov (.t 45), none, [], []⟩,
    ⟨some 47, .mov (.t 5), some (46, true), [], []⟩,
    ⟨some 48, .faddr 3 (.t 3), some (46, true), [], []⟩,
    ⟨some 49, .load 1 false (.t 48), some (46, true), [101], []⟩,
    ⟨some 50, .len false (.t 49), some (46, true), [], []⟩,
    ⟨some 51, .bin .lss (.t 47) (.t 50), some (46, true), [], []⟩,
    ⟨some 52, .pick (.t 46) (.t 51) (.c (.bool false)), none, [], []⟩] false)
  (.cond (.t 52) .skip
  (.gmask [2, 3] [100, 101] (.exit 1))))
  (.seq (.block 2 (.seq (.seq (.region [
    ⟨some 55, .faddr 3 (.t 2), none, [], []⟩,
    ⟨some 56, .load 1 false (.t 55), none, [100], [0]⟩,
    ⟨some 57, .mov (.t 5), none, [], []⟩,
    ⟨some 58, .iaddr 2 (.t 56) (.t 57), none, [], [0, 1, 2]⟩,
    ⟨some 59, .faddr 0 (.t 58), none, [], [0, 1, 2, 3]⟩,
    ⟨some 60, .load 1 false (.t 59), none, [], [0, 1, 2, 3, 4]⟩,
    ⟨some 61, .faddr 3 (.t 3), none, [], []⟩,
    ⟨some 62, .load 1 false (.t 61), none, [101], [6]⟩,
    ⟨some 63, .mov (.t 5), none, [], []⟩,
    ⟨some 64, .iaddr 2 (.t 62) (.t 63), none, [], [6, 7, 8]⟩,
    ⟨some 65, .faddr 0 (.t 64), none, [], [6, 7, 8, 9]⟩,
    ⟨some 66, .load 1 false (.t 65), none, [], [6, 7, 8, 9, 10]⟩,
    ⟨some 67, .bin .neq (.t 60) (.t 66), none, [], [0, 1, 2, 3, 4, 5, 6, 7, 8, 9, 10, 11]⟩] true)
  (.cond (.t 67) (.seq (.region [
    ⟨some 68, .faddr 3 (.t 2), none, [], []⟩,
    ⟨some 69, .load 1 false (.t 68), none, [100], [0]⟩,
    ⟨some 70, .mov (.t 5), none, [], []⟩,
    ⟨some 71, .iaddr 2 (.t 69) (.t 70), none, [], [0, 1, 2]⟩,
    ⟨some 72, .faddr 0 (.t 71), none, [], [0, 1, 2, 3]⟩,
    ⟨some 73, .load 1 false (.t 72), none, [], [0, 1, 2, 3, 4]⟩,
    ⟨some 74, .faddr 3 (.t 3), none, [], []⟩,
    ⟨some 75, .load 1 false (.t 74), none, [101], [6]⟩,
    ⟨some 76, .mov (.t 5), none, [], []⟩,
    ⟨some 77, .iaddr 2 (.t 75) (.t 76), none, [], [6, 7, 8]⟩,
    ⟨some 78, .faddr 0 (.t 77), none, [], [6, 7, 8, 9]⟩,
    ⟨some 79, .load 1 false (.t 78), none, [], [6, 7, 8, 9, 10]⟩,
    ⟨some 80, .call none 112 [.t 73, .t 79], none, [], [0, 1, 2, 3, 4, 5, 6, 7, 8, 9, 10, 11]⟩,
    ⟨some 4, .mov (.t 80), none, [], [0, 1, 2, 3, 4, 5, 6, 7, 8, 9, 10, 11, 12]⟩] true)
  (.gmask [4] [] .ret))
  .skip))
  (.seq (.region [
    ⟨some 81, .faddr 3 (.t 2), none, [], []⟩,
    ⟨some 82, .load 1 false (.t 81), none, [100], [0]⟩,
    ⟨some 83, .mov (.t 5), none, [], []⟩,
    ⟨some 84, .iaddr 2 (.t 82) (.t 83), none, [], [0, 1, 2]⟩,
    ⟨some 85, .faddr 1 (.t 84), none, [], [0, 1, 2, 3]⟩,
    ⟨some 86, .load 1 false (.t 85), none, [], [0, 1, 2, 3, 4]⟩,
    ⟨some 87, .faddr 3 (.t 3), none, [], []⟩,
    ⟨some 88, .load 1 false (.t 87), none, [101], [6]⟩,
    ⟨some 89, .mov (.t 5), none, [], []⟩,
    ⟨some 90, .iaddr 2 (.t 88) (.t 89), none, [], [6, 7, 8]⟩,
    ⟨some 91, .faddr 1 (.t 90), none, [], [6, 7, 8, 9]⟩,
    ⟨some 92, .load 1 false (.t 91), none, [], [6, 7, 8, 9, 10]⟩,
    ⟨some 93, .bin .neq (.t 86) (.t 92), none, [], [0, 1, 2, 3, 4, 5, 6, 7, 8, 9, 10, 11]⟩] true)
  (.cond (.t 93) (.seq (.region [
    ⟨some 94, .faddr 3 (.t 2), none, [], []⟩,
    ⟨some 95, .load 1 false (.t 94), none, [100], [0]⟩,
    ⟨some 96, .mov (.t 5), none, [], []⟩,
    ⟨some 97, .iaddr 2 (.t 95) (.t 96), none, [], [0, 1, 2]⟩,
    ⟨some 98, .faddr 1 (.t 97), none, [], [0, 1, 2, 3]⟩,
    ⟨some 99, .load 1 false (.t 98), none, [], [0, 1, 2, 3, 4]⟩,
    ⟨some 100, .faddr 3 (.t 3), none, [], []⟩,
    ⟨some 101, .load 1 false (.t 100), none, [101], [6]⟩,
    ⟨some 102, .mov (.t 5), none, [], []⟩,
    ⟨some 103, .iaddr 2 (.t 101) (.t 102), none, [], [6, 7, 8]⟩,
    ⟨some 104, .faddr 1 (.t 103), none, [], [6, 7, 8, 9]⟩,
    ⟨some 105, .load 1 false (.t 104), none, [], [6, 7, 8, 9, 10]⟩,
    ⟨some 106, .call none 112 [.t 99, .t 105], none, [], [0, 1, 2, 3, 4, 5, 6, 7, 8, 9, 10, 11]⟩,
    ⟨some 4, .mov (.t 106), none, [], [0, 1, 2, 3, 4, 5, 6, 7, 8, 9, 10, 11, 12]⟩] true)
  (.gmask [4] [] .ret))
  .skip))))
  (.region [
    ⟨some 53, .mov (.t 5), none, [], []⟩,
    ⟨some 54, .bin .add (.t 53) (.c (.int .i64 1)), none, [], []⟩,
    ⟨some 5, .mov (.t 54), none, [], []⟩] false)))
def ic85_0 : IC := .loop [2, 3, 5] [100, 101] ic85_0_b
/-- corpora/corporaref06.CompareRegions -/
def ic85 : IC :=
  (.seq (.region [
    ⟨some 2, .box 100 4 (.t 0), none, [100], []⟩,
    ⟨some 3, .box 101 4 (.t 1), none, [101], []⟩,
    ⟨some 4, .mov (.c (.int .i64 0)), none, [], []⟩] false)
  (.seq (.block 0 (.seq (.region [
    ⟨some 7, .faddr 1 (.t 2), none, [], []⟩,
    ⟨some 8, .load 1 false (.t 7), none, [100], []⟩,
    ⟨some 9, .faddr 1 (.t 3), none, [], []⟩,
    ⟨some 10, .load 1 false (.t 9), none, [101], []⟩,
    ⟨some 11, .bin .neq (.t 8) (.t 10), none, [], []⟩,
    ⟨some 6, .mov (.t 11), none, [], []⟩] false)
  (.cond (.t 6) (.seq (.region [
    ⟨some 12, .faddr 1 (.t 2), none, [], []⟩,
    ⟨some 13, .load 1 false (.t 12), none, [100], []⟩,
    ⟨some 14, .faddr 1 (.t 3), none, [], []⟩,
    ⟨some 15, .load 1 false (.t 14), none, [101], []⟩,
    ⟨some 16, .bin .lss (.t 13) (.t 15), none, [], []⟩,
    ⟨some 17, .call none 111 [.t 16], none, [], []⟩,
    ⟨some 4, .mov (.t 17), none, [], []⟩] false)
  (.gmask [4] [] .ret))
  (.seq (.region [
    ⟨some 19, .faddr 2 (.t 2), none, [], []⟩,
    ⟨some 20, .load 1 false (.t 19), none, [100], []⟩,
    ⟨some 21, .faddr 2 (.t 3), none, [], []⟩,
    ⟨some 22, .load 1 false (.t 21), none, [101], []⟩,
    ⟨some 23, .bin .neq (.t 20) (.t 22), none, [], []⟩,
    ⟨some 18, .mov (.t 23), none, [], []⟩] false)
  (.cond (.t 18) (.seq (.region [
    ⟨some 24, .faddr 2 (.t 2), none, [], []⟩,
    ⟨some 25, .load 1 false (.t 24), none, [100], []⟩,
    ⟨some 26, .faddr 2 (.t 3), none, [], []⟩,
    ⟨some 27, .load 1 false (.t 26), none, [101], []⟩,
    ⟨some 28, .bin .gtr (.t 25) (.t 27), none, [], []⟩,
    ⟨some 29, .call none 111 [.t 28], none, [], []⟩,
    ⟨some 4, .mov (.t 29), none, [], []⟩] false)
  (.gmask [4] [] .ret))
  (.seq (.region [
    ⟨some 31, .faddr 0 (.t 2), none, [], []⟩,
    ⟨some 32, .load 1 false (.t 31), none, [100], []⟩,
    ⟨some 33, .faddr 0 (.t 3), none, [], []⟩,
    ⟨some 34, .load 1 false (.t 33), none, [101], []⟩,
    ⟨some 35, .bin .neq (.t 32) (.t 34), none, [], []⟩,
    ⟨some 30, .mov (.t 35), none, [], []⟩] false)
  (.cond (.t 30) (.seq (.region [
    ⟨some 36, .faddr 0 (.t 2), none, [], []⟩,
    ⟨some 37, .load 1 false (.t 36), none, [100], []⟩,
    ⟨some 38, .faddr 0 (.t 3), none, [], []⟩,
    ⟨some 39, .load 1 false (.t 38), none, [101], []⟩,
    ⟨some 40, .call none 112 [.t 37, .t 39], none, [], []⟩,
    ⟨some 4, .mov (.t 40), none, [], []⟩] false)
  (.gmask [4] [] .ret))
  .skip)))))))
  (.seq (.seq (.region [
    ⟨some 5, .mov (.c (.int .i64 0)), none, [], []⟩] false)
  (.block 1 (.gmask [2, 3, 5] [100, 101] ic85_0)))
  (.seq (.seq (.region [
    ⟨some 107, .faddr 3 (.t 2), none, [], []⟩,
    ⟨some 108, .load 1 false (.t 107), none, [100], []⟩,
    ⟨some 109, .len false (.t 108), none, [], []⟩,
    ⟨some 110, .faddr 3 (.t 3), none, [], []⟩,
    ⟨some 111, .load 1 false (.t 110), none, [101], []⟩,
    ⟨some 112, .len false (.t 111), none, [], []⟩,
    ⟨some 113, .bin .neq (.t 109) (.t 112), none, [], []⟩] false)
  (.cond (.t 113) (.seq (.region [
    ⟨some 114, .faddr 3 (.t 2), none, [], []⟩,
    ⟨some 115, .load 1 false (.t 114), none, [100], []⟩,
    ⟨some 116, .len false (.t 115), none, [], []⟩,
    ⟨some 117, .faddr 3 (.t 3), none, [], []⟩,
    ⟨some 118, .load 1 false (.t 117), none, [101], []⟩,
    ⟨some 119, .len false (.t 118), none, [], []⟩,
    ⟨some 120, .bin .lss (.t 116) (.t 119), none, [], []⟩,
    ⟨some 121, .call none 111 [.t 120], none, [], []⟩,
    ⟨some 4, .mov (.t 121), none, [], []⟩] false)
  (.gmask [4] [] .ret))
  .skip))
  (.seq (.region [
    ⟨some 4, .mov (.c (.int .i64 0)), none, [], []⟩] false)
  (.gmask [4] [] .ret))))))
def F85 : IFunc := ⟨2, 122, [.tmp 4], ic85, none⟩

/-- corpora/corporaref06.Validate -/
def ic86 : IC :=
  (.seq (.region [
    ⟨some 1, .box 100 7 (.t 0), none, [100], []⟩,
    ⟨some 2, .mov (.c (.int .i64 0)), none, [], []⟩,
    ⟨some 3, .mov (.c (.int .i64 0)), none, [], []⟩,
    ⟨some 4, .mov (.c (.int .i64 0)), none, [], []⟩] false)
  (.seq (.seq (.region [
    ⟨some 18, .faddr 0 (.t 1), none, [], []⟩,
    ⟨some 19, .load 1 false (.t 18), none, [100], []⟩,
    ⟨some 20, .call none 113 [.t 19], none, [], []⟩,
    ⟨some 17, .mov (.t 20), none, [], []⟩,
    ⟨some 21, .extract (.t 17) 0, none, [], []⟩,
    ⟨some 22, .extract (.t 17) 1, none, [], []⟩,
    ⟨some 5, .mov (.t 21), none, [], []⟩,
    ⟨some 6, .mov (.t 22), none, [], []⟩] false)
  (.seq (.region [
    ⟨some 23, .mov (.t 6), none, [], []⟩,
    ⟨some 24, .bin .neq (.t 23) (.c (.int .i64 0)), none, [], []⟩] false)
  (.cond (.t 24) (.seq (.region [
    ⟨some 25, .mov (.t 5), none, [], []⟩,
    ⟨some 26, .mov (.t 6), none, [], []⟩,
    ⟨some 2, .mov (.c (.int .i64 1)), none, [], []⟩,
    ⟨some 3, .mov (.t 25), none, [], []⟩,
    ⟨some 4, .mov (.t 26), none, [], []⟩] false)
  (.gmask [2, 3, 4] [] .ret))
  .skip)))
  (.seq (.seq (.region [
    ⟨some 28, .load 7 true (.t 1), none, [100], []⟩,
    ⟨some 29, .call none 114 [.t 28], none, [], []⟩,
    ⟨some 27, .mov (.t 29), none, [], []⟩,
    ⟨some 30, .extract (.t 27) 0, none, [], []⟩,
    ⟨some 31, .extract (.t 27) 1, none, [], []⟩,
    ⟨some 7, .mov (.t 30), none, [], []⟩,
    ⟨some 8, .mov (.t 31), none, [], []⟩] false)
  (.seq (.region [
    ⟨some 32, .mov (.t 8), none, [], []⟩,
    ⟨some 33, .bin .neq (.t 32) (.c (.int .i64 0)), none, [], []⟩] false)
  (.cond (.t 33) (.seq (.region [
    ⟨some 34, .mov (.t 7), none, [], []⟩,
    ⟨some 35, .mov (.t 8), none, [], []⟩,
    ⟨some 2, .mov (.c (.int .i64 2)), none, [], []⟩,
    ⟨some 3, .mov (.t 34), none, [], []⟩,
    ⟨some 4, .mov (.t 35), none, [], []⟩] false)
  (.gmask [2, 3, 4] [] .ret))
  .skip)))
  (.seq (.seq (.region [
    ⟨some 37, .load 7 true (.t 1), none, [100], []⟩,
    ⟨some 38, .call none 115 [.t 37], none, [], []⟩,
    ⟨some 36, .mov (.t 38), none, [], []⟩,
    ⟨some 39, .extract (.t 36) 0, none, [], []⟩,
    ⟨some 40, .extract (.t 36) 1, none, [], []⟩,
    ⟨some 9, .mov (.t 39), none, [], []⟩,
    ⟨some 10, .mov (.t 40), none, [], []⟩] false)
  (.seq (.region [
    ⟨some 41, .mov (.t 10), none, [], []⟩,
    ⟨some 42, .bin .neq (.t 41) (.c (.int .i64 0)), none, [], []⟩] false)
  (.cond (.t 42) (.seq (.region [
    ⟨some 43, .mov (.t 9), none, [], []⟩,
    ⟨some 44, .mov (.t 10), none, [], []⟩,
    ⟨some 2, .mov (.c (.int .i64 3)), none, [], []⟩,
    ⟨some 3, .mov (.t 43), none, [], []⟩,
    ⟨some 4, .mov (.t 44), none, [], []⟩] false)
  (.gmask [2, 3, 4] [] .ret))
  .skip)))
  (.seq (.seq (.region [
    ⟨some 46, .load 7 true (.t 1), none, [100], []⟩,
    ⟨some 47, .call none 116 [.t 46], none, [], []⟩,
    ⟨some 45, .mov (.t 47), none, [], []⟩,
    ⟨some 48, .extract (.t 45) 0, none, [], []⟩,
    ⟨some 49, .extract (.t 45) 1, none, [], []⟩,
    ⟨some 11, .mov (.t 48), none, [], []⟩,
    ⟨some 12, .mov (.t 49), none, [], []⟩] false)
  (.seq (.region [
    ⟨some 50, .mov (.t 12), none, [], []⟩,
    ⟨some 51, .bin .neq (.t 50) (.c (.int .i64 0)), none, [], []⟩] false)
  (.cond (.t 51) (.seq (.region [
    ⟨some 52, .mov (.t 11), none, [], []⟩,
    ⟨some 53, .mov (.t 12), none, [], []⟩,
    ⟨some 2, .mov (.c (.int .i64 4)), none, [], []⟩,
    ⟨some 3, .mov (.t 52), none, [], []⟩,
    ⟨some 4, .mov (.t 53), none, [], []⟩] false)
  (.gmask [2, 3, 4] [] .ret))
  .skip)))
  (.seq (.seq (.region [
    ⟨some 55, .faddr 4 (.t 1), none, [], []⟩,
    ⟨some 56, .load 1 false (.t 55), none, [100], []⟩,
    ⟨some 57, .load 7 true (.t 1), none, [100], []⟩,
    ⟨some 58, .call none 117 [.t 56, .t 57], none, [], []⟩,
    ⟨some 54, .mov (.t 58), none, [], []⟩,
    ⟨some 59, .extract (.t 54) 0, none, [], []⟩,
    ⟨some 60, .extract (.t 54) 1, none, [], []⟩,
    ⟨some 13, .mov (.t 59), none, [], []⟩,
    ⟨some 14, .mov (.t 60), none, [], []⟩] false)
  (.seq (.region [
    ⟨some 61, .mov (.t 14), none, [], []⟩,
    ⟨some 62, .bin .neq (.t 61) (.c (.int .i64 0)), none, [], []⟩] false)
  (.cond (.t 62) (.seq (.region [
    ⟨some 63, .mov (.t 13), none, [], []⟩,
    ⟨some 64, .mov (.t 14), none, [], []⟩,
    ⟨some 2, .mov (.c (.int .i64 5)), none, [], []⟩,
    ⟨some 3, .mov (.t 63), none, [], []⟩,
    ⟨some 4, .mov (.t 64), none, [], []⟩] false)
  (.gmask [2, 3, 4] [] .ret))
  .skip)))
  (.seq (.seq (.region [
    ⟨some 66, .load 7 true (.t 1), none, [100], []⟩,
    ⟨some 67, .call none 118 [.t 66], none, [], []⟩,
    ⟨some 65, .mov (.t 67), none, [], []⟩,
    ⟨some 68, .extract (.t 65) 0, none, [], []⟩,
    ⟨some 69, .extract (.t 65) 1, none, [], []⟩,
    ⟨some 15, .mov (.t 68), none, [], []⟩,
    ⟨some 16, .mov (.t 69), none, [], []⟩] false)
  (.seq (.region [
    ⟨some 70, .mov (.t 16), none, [], []⟩,
    ⟨some 71, .bin .neq (.t 70) (.c (.int .i64 0)), none, [], []⟩] false)
  (.cond (.t 71) (.seq (.region [
    ⟨some 72, .mov (.t 15), none, [], []⟩,
    ⟨some 73, .mov (.t 16), none, [], []⟩,
    ⟨some 2, .mov (.c (.int .i64 6)), none, [], []⟩,
    ⟨some 3, .mov (.t 72), none, [], []⟩,
    ⟨some 4, .mov (.t 73), none, [], []⟩] false)
  (.gmask [2, 3, 4] [] .ret))
  .skip)))
  (.seq (.region [
    ⟨some 2, .mov (.c (.int .i64 0)), none, [], []⟩,
    ⟨some 3, .mov (.c (.int .i64 0)), none, [], []⟩,
    ⟨some 4, .mov (.c (.int .i64 0)), none, [], []⟩] false)
  (.gmask [2, 3, 4] [] .ret)))))))))
def F86 : IFunc := ⟨1, 74, [.tmp 2, .tmp 3, .tmp 4], ic86, none⟩

/-- corpora/query.atoms$1 -/
def ic87 : IC :=
  (.seq (.region [
    ⟨some 2, .box 100 11 (.t 0), none, [100], []⟩,
    ⟨some 3, .mov (.c (.bool false)), none, [], []⟩] false)
  (.seq (.region [
    ⟨some 4, .load 11 true (.t 2), none, [100], []⟩,
    ⟨some 5, .load 1 false (.t 1), none, [], []⟩,
    ⟨some 6, .call none 59 [.t 4, .t 5], none, [], []⟩,
    ⟨some 7, .un .not (.t 6), none, [], []⟩,
    ⟨some 3, .mov (.t 7), none, [], []⟩] false)
  (.gmask [3] [] .ret)))
def F87 : IFunc := ⟨2, 8, [.tmp 3], ic87, none⟩

def ic88_0_b : IC :=
  (.seq (.region [
    ⟨some 9, .bin .lss (.t 8) (.t 7), none, [], []⟩] false)
  (.seq (.cond (.t 9) .skip
  (.gmask [] [] (.exit 0)))
  (.seq (.block 1 (.seq (.region [
    ⟨some 10, .mov (.t 8), none, [], []⟩,
    ⟨some 5, .mov (.t 10), none, [], []⟩] false)
  (.seq (.region [
    ⟨some 11, .mov (.t 1), none, [], []⟩,
    ⟨some 12, .mov (.t 0), none, [], []⟩,
    ⟨some 13, .mov (.t 5), none, [], []⟩,
    ⟨some 14, .iaddr 2 (.t 12) (.t 13), none, [], []⟩,
    ⟨some 15, .load 2 true (.t 14), none, [], []⟩,
    ⟨some 16, .callv (.t 11) [60, 64, 66, 67, 68, 87, 89, 97, 98, 99, 100, 101, 102, 103, 124, 125, 127, 130, 167] [.t 15], none, [], []⟩] false)
  (.cond (.t 16) (.seq (.region [
    ⟨some 17, .mov (.t 5), none, [], []⟩,
    ⟨some 4, .mov (.t 17), none, [], []⟩] false)
  (.gmask [4] [] .ret))
  .skip))))
  (.region [
    ⟨some 18, .bin .add (.t 8) (.c (.int .i64 1)), none, [], []⟩,
    ⟨some 8, .mov (.t 18), none, [], []⟩] false))))
def ic88_0 : IC := .loop [0, 1, 7, 8] [] ic88_0_b
/-- slices.IndexFunc[[]corpora/api.Attribute,corpora/api.Attribute] -/
def ic88 : IC :=
  (.seq (.region [
    ⟨some 4, .mov (.c (.int .i64 0)), none, [], []⟩] false)
  (.seq (.seq (.region [
    ⟨some 6, .mov (.t 0), none, [], []⟩,
    ⟨some 7, .len false (.t 6), none, [], []⟩,
    ⟨some 8, .mov (.c (.int .i64 0)), none, [], []⟩] false)
  (.block 0 (.gmask [0, 1, 7, 8] [] ic88_0)))
  (.seq (.region [
    ⟨some 4, .mov (.c (.int .i64 (-1))), none, [], []⟩] false)
  (.gmask [4] [] .ret))))
def F88 : IFunc := ⟨2, 19, [.tmp 4], ic88, none⟩

/-- corpora/condition.Attribute$1 -/
def ic89 : IC :=
  (.seq (.region [
    ⟨some 2, .box 100 2 (.t 0), none, [100], []⟩,
    ⟨some 3, .mov (.c (.bool false)), none, [], []⟩] false)
  (.seq (.region [
    ⟨some 4, .faddr 0 (.t 2), none, [], []⟩,
    ⟨some 5, .load 1 false (.t 4), none, [100], []⟩,
    ⟨some 6, .load 1 false (.t 1), none, [], []⟩,
    ⟨some 7, .bin .eql (.t 5) (.t 6), none, [], []⟩,
    ⟨some 3, .mov (.t 7), none, [], []⟩] false)
  (.gmask [3] [] .ret)))
def F89 : IFunc := ⟨2, 8, [.tmp 3], ic89, none⟩

def ic91_0_b : IC :=
  (.seq (.region [
    ⟨some 9, .bin .lss (.t 8) (.t 7), none, [], []⟩] false)
  (.seq (.cond (.t 9) .skip
  (.gmask [] [] (.exit 0)))
  (.seq (.block 1 (.seq (.region [
    ⟨some 10, .mov (.t 8), none, [], []⟩,
    ⟨some 5, .mov (.t 10), none, [], []⟩] false)
  (.seq (.region [
    ⟨some 11, .mov (.t 1), none, [], []⟩,
    ⟨some 12, .mov (.t 0), none, [], []⟩,
    ⟨some 13, .mov (.t 5), none, [], []⟩,
    ⟨some 14, .iaddr 11 (.t 12) (.t 13), none, [], []⟩,
    ⟨some 15, .load 11 true (.t 14), none, [], []⟩,
    ⟨some 16, .callv (.t 11) [60, 64, 66, 67, 68, 87, 89, 97, 98, 99, 100, 101, 102, 103, 124, 125, 127, 130, 167] [.t 15], none, [], []⟩] false)
  (.cond (.t 16) (.seq (.region [
    ⟨some 17, .mov (.t 5), none, [], []⟩,
    ⟨some 4, .mov (.t 17), none, [], []⟩] false)
  (.gmask [4] [] .ret))
  .skip))))
  (.region [
    ⟨some 18, .bin .add (.t 8) (.c (.int .i64 1)), none, [], []⟩,
    ⟨some 8, .mov (.t 18), none, [], []⟩] false))))
def ic91_0 : IC := .loop [0, 1, 7, 8] [] ic91_0_b
/-- slices.IndexFunc[[]corpora/api.Constraint,corpora/api.Constraint] -/
def ic91 : IC :=
  (.seq (.region [
    ⟨some 4, .mov (.c (.int .i64 0)), none, [], []⟩] false)
  (.seq (.seq (.region [
    ⟨some 6, .mov (.t 0), none, [], []⟩,
    ⟨some 7, .len false (.t 6), none, [], []⟩,
    ⟨some 8, .mov (.c (.int .i64 0)), none, [], []⟩] false)
  (.block 0 (.gmask [0, 1, 7, 8] [] ic91_0)))
  (.seq (.region [
    ⟨some 4, .mov (.c (.int .i64 (-1))), none, [], []⟩] false)
  (.gmask [4] [] .ret))))
def F91 : IFunc := ⟨2, 19, [.tmp 4], ic91, none⟩

def ic92_0_b : IC :=
  (.seq (.region [
    ⟨some 9, .bin .lss (.t 8) (.t 7), none, [], []⟩] false)
  (.seq (.cond (.t 9) .skip
  (.gmask [] [] (.exit 0)))
  (.seq (.block 1 (.seq (.region [
    ⟨some 10, .mov (.t 8), none, [], []⟩,
    ⟨some 5, .mov (.t 10), none, [], []⟩] false)
  (.seq (.region [
    ⟨some 11, .mov (.t 1), none, [], []⟩,
    ⟨some 12, .mov (.t 0), none, [], []⟩,
    ⟨some 13, .mov (.t 5), none, [], []⟩,
    ⟨some 14, .iaddr 1 (.t 12) (.t 13), none, [], []⟩,
    ⟨some 15, .load 1 false (.t 14), none, [], []⟩,
    ⟨some 16, .callv (.t 11) [60, 64, 66, 67, 68, 87, 89, 97, 98, 99, 100, 101, 102, 103, 124, 125, 127, 130, 167] [.t 15], none, [], []⟩] false)
  (.cond (.t 16) (.seq (.region [
    ⟨some 17, .mov (.t 5), none, [], []⟩,
    ⟨some 4, .mov (.t 17), none, [], []⟩] false)
  (.gmask [4] [] .ret))
  .skip))))
  (.region [
    ⟨some 18, .bin .add (.t 8) (.c (.int .i64 1)), none, [], []⟩,
    ⟨some 8, .mov (.t 18), none, [], []⟩] false))))
def ic92_0 : IC := .loop [0, 1, 7, 8] [] ic92_0_b
/-- slices.IndexFunc[[]int,int] -/
def ic92 : IC :=
  (.seq (.region [
    ⟨some 4, .mov (.c (.int .i64 0)), none, [], []⟩] false)
  (.seq (.seq (.region [
    ⟨some 6, .mov (.t 0), none, [], []⟩,
    ⟨some 7, .len false (.t 6), none, [], []⟩,
    ⟨some 8, .mov (.c (.int .i64 0)), none, [], []⟩] false)
  (.block 0 (.gmask [0, 1, 7, 8] [] ic92_0)))
  (.seq (.region [
    ⟨some 4, .mov (.c (.int .i64 (-1))), none, [], []⟩] false)
  (.gmask [4] [] .ret))))
def F92 : IFunc := ⟨2, 19, [.tmp 4], ic92, none⟩

def ic93_0_b : IC :=
  (.seq (.region [
    ⟨some 9, .bin .lss (.t 8) (.t 7), none, [], []⟩] false)
  (.seq (.cond (.t 9) .skip
  (.gmask [] [] (.exit 0)))
  (.seq (.block 1 (.seq (.region [
    ⟨some 10, .mov (.t 8), none, [], []⟩,
    ⟨some 5, .mov (.t 10), none, [], []⟩] false)
  (.seq (.region [
    ⟨some 11, .mov (.t 1), none, [], []⟩,
    ⟨some 12, .mov (.t 0), none, [], []⟩,
    ⟨some 13, .mov (.t 5), none, [], []⟩,
    ⟨some 14, .iaddr 1 (.t 12) (.t 13), none, [], []⟩,
    ⟨some 15, .load 1 false (.t 14), none, [], []⟩,
    ⟨some 16, .bin .eql (.t 11) (.t 15), none, [], []⟩] false)
  (.cond (.t 16) (.seq (.region [
    ⟨some 17, .mov (.t 5), none, [], []⟩,
    ⟨some 4, .mov (.t 17), none, [], []⟩] false)
  (.gmask [4] [] .ret))
  .skip))))
  (.region [
    ⟨some 18, .bin .add (.t 8) (.c (.int .i64 1)), none, [], []⟩,
    ⟨some 8, .mov (.t 18), none, [], []⟩] false))))
def ic93_0 : IC := .loop [0, 1, 7, 8] [] ic93_0_b
/-- slices.Index[[]string,string] -/
def ic93 : IC :=
  (.seq (.region [
    ⟨some 4, .mov (.c (.int .i64 0)), none, [], []⟩] false)
  (.seq (.seq (.region [
    ⟨some 6, .mov (.t 0), none, [], []⟩,
    ⟨some 7, .len false (.t 6), none, [], []⟩,
    ⟨some 8, .mov (.c (.int .i64 0)), none, [], []⟩] false)
  (.block 0 (.gmask [0, 1, 7, 8] [] ic93_0)))
  (.seq (.region [
    ⟨some 4, .mov (.c (.int .i64 (-1))), none, [], []⟩] false)
  (.gmask [4] [] .ret))))
def F93 : IFunc := ⟨2, 19, [.tmp 4], ic93, none⟩

/-- corpora/condition.Value -/
def ic96 : IC :=
  (.seq (.region [
    ⟨some 3, .box 100 7 (.t 0), none, [100], []⟩,
    ⟨some 6, .mov (.c (.str ⟨#[]⟩)), none, [], []⟩] false)
  (.seq (.seq (.region [
    ⟨some 7, .mov (.t 1), none, [], []⟩,
    ⟨some 8, .bin .lss (.t 7) (.c (.int .i64 0)), none, [], []⟩,
    ⟨some 9, .mov (.t 8), none, [], []⟩,
    ⟨some 10, .mov (.t 1), some (9, false), [], []⟩,
    ⟨some 11, .faddr 1 (.t 3), some (9, false), [], []⟩,
    ⟨some 12, .load 1 false (.t 11), some (9, false), [100], []⟩,
    ⟨some 13, .len false (.t 12), some (9, false), [], []⟩,
    ⟨some 14, .bin .geq (.t 10) (.t 13), some (9, false), [], []⟩,
    ⟨some 15, .pick (.t 9) (.c (.bool true)) (.t 14), none, [], []⟩,
    ⟨some 16, .mov (.t 15), none, [], []⟩,
    ⟨some 17, .mov (.t 2), some (16, false), [], []⟩,
    ⟨some 18, .bin .lss (.t 17) (.c (.int .i64 0)), some (16, false), [], []⟩,
    ⟨some 19, .pick (.t 16) (.c (.bool true)) (.t 18), none, [], []⟩,
    ⟨some 20, .mov (.t 19), none, [], []⟩,
    ⟨some 21, .mov (.t 2), some (20, false), [], []⟩,
    ⟨some 22, .faddr 1 (.t 3), some (20, false), [], []⟩,
    ⟨some 23, .load 1 false (.t 22), some (20, false), [100], []⟩,
    ⟨some 24, .mov (.t 1), some (20, false), [], []⟩,
    ⟨some 25, .iaddr 1 (.t 23) (.t 24), some (20, false), [], []⟩,
    ⟨some 26, .load 1 false (.t 25), some (20, false), [], []⟩,
    ⟨some 27, .len false (.t 26), some (20, false), [], []⟩,
    ⟨some 28, .bin .geq (.t 21) (.t 27), some (20, false), [], []⟩,
    ⟨some 29, .pick (.t 20) (.c (.bool true)) (.t 28), none, [], []⟩] false)
  (.cond (.t 29) (.seq (.region [
    ⟨some 6, .mov (.c (.str ⟨#[]⟩)), none, [], []⟩] false)
  (.gmask [6] [] .ret))
  .skip))
  (.seq (.region [
    ⟨some 30, .faddr 1 (.t 3), none, [], []⟩,
    ⟨some 31, .load 1 false (.t 30), none, [100], []⟩,
    ⟨some 32, .mov (.t 1), none, [], []⟩,
    ⟨some 33, .iaddr 1 (.t 31) (.t 32), none, [], []⟩,
    ⟨some 34, .load 1 false (.t 33), none, [], []⟩,
    ⟨some 35, .mov (.t 2), none, [], []⟩,
    ⟨some 36, .iaddr 1 (.t 34) (.t 35), none, [], []⟩,
    ⟨some 37, .load 1 false (.t 36), none, [], []⟩,
    ⟨some 6, .mov (.t 37), none, [], []⟩] false)
  (.gmask [6] [] .ret))))
def F96 : IFunc := ⟨3, 38, [.tmp 6], ic96, none⟩

/-- (corpora/global.scene).same -/
def ic97 : IC :=
  (.seq (.region [
    ⟨some 1, .box 100 20 (.t 0), none, [100], []⟩,
    ⟨some 2, .mov (.c (.bool false)), none, [], []⟩] false)
  (.seq (.region [
    ⟨some 3, .faddr 0 (.t 1), none, [], []⟩,
    ⟨some 4, .load 7 true (.t 3), none, [100], [0]⟩,
    ⟨some 5, .faddr 18 (.t 1), none, [], []⟩,
    ⟨some 6, .load 1 false (.t 5), none, [100], [2]⟩,
    ⟨some 7, .faddr 7 (.t 1), none, [], []⟩,
    ⟨some 8, .faddr 3 (.t 7), none, [], [4]⟩,
    ⟨some 9, .load 1 false (.t 8), none, [100], [4, 5]⟩,
    ⟨some 10, .call none 71 [.t 4, .t 6, .t 9], none, [], [0, 1, 2, 3, 4, 5, 6]⟩,
    ⟨some 11, .faddr 0 (.t 1), none, [], []⟩,
    ⟨some 12, .load 7 true (.t 11), none, [100], [8]⟩,
    ⟨some 13, .faddr 19 (.t 1), none, [], []⟩,
    ⟨some 14, .load 1 false (.t 13), none, [100], [10]⟩,
    ⟨some 15, .faddr 7 (.t 1), none, [], []⟩,
    ⟨some 16, .faddr 4 (.t 15), none, [], [12]⟩,
    ⟨some 17, .load 1 false (.t 16), none, [100], [12, 13]⟩,
    ⟨some 18, .call none 71 [.t 12, .t 14, .t 17], none, [], [0, 1, 2, 3, 4, 5, 6, 7, 8, 9, 10, 11, 12, 13, 14]⟩,
    ⟨some 19, .bin .eql (.t 10) (.t 18), none, [], [0, 1, 2, 3, 4, 5, 6, 7, 8, 9, 10, 11, 12, 13, 14, 15]⟩,
    ⟨some 2, .mov (.t 19), none, [], [0, 1, 2, 3, 4, 5, 6, 7, 8, 9, 10, 11, 12, 13, 14, 15, 16]⟩] true)
  (.gmask [2] [] .ret)))
def F97 : IFunc := ⟨1, 20, [.tmp 2], ic97, none⟩

/-- (corpora/global.scene).distance -/
def ic98 : IC :=
  (.seq (.region [
    ⟨some 1, .box 100 20 (.t 0), none, [100], []⟩,
    ⟨some 2, .mov (.c (.bool false)), none, [], []⟩] false)
  (.seq (.region [
    ⟨some 3, .faddr 7 (.t 1), none, [], []⟩,
    ⟨some 4, .faddr 7 (.t 3), none, [], []⟩,
    ⟨some 5, .load 1 false (.t 4), none, [100], []⟩,
    ⟨some 6, .faddr 19 (.t 1), none, [], []⟩,
    ⟨some 7, .load 1 false (.t 6), none, [100], []⟩,
    ⟨some 8, .faddr 18 (.t 1), none, [], []⟩,
    ⟨some 9, .load 1 false (.t 8), none, [100], []⟩,
    ⟨some 10, .bin .sub (.t 7) (.t 9), none, [], []⟩,
    ⟨some 11, .bin .leq (.t 5) (.t 10), none, [], []⟩,
    ⟨some 12, .mov (.t 11), none, [], []⟩,
    ⟨some 13, .faddr 19 (.t 1), some (12, true), [], []⟩,
    ⟨some 14, .load 1 false (.t 13), some (12, true), [100], []⟩,
    ⟨some 15, .faddr 18 (.t 1), some (12, true), [], []⟩,
    ⟨some 16, .load 1 false (.t 15), some (12, true), [100], []⟩,
    ⟨some 17, .bin .sub (.t 14) (.t 16), some (12, true), [], []⟩,
    ⟨some 18, .faddr 7 (.t 1), some (12, true), [], []⟩,
    ⟨some 19, .faddr 8 (.t 18), some (12, true), [], []⟩,
    ⟨some 20, .load 1 false (.t 19), some (12, true), [100], []⟩,
    ⟨some 21, .bin .leq (.t 17) (.t 20), some (12, true), [], []⟩,
    ⟨some 22, .pick (.t 12) (.t 21) (.c (.bool false)), none, [], []⟩,
    ⟨some 2, .mov (.t 22), none, [], []⟩] false)
  (.gmask [2] [] .ret)))
def F98 : IFunc := ⟨1, 23, [.tmp 2], ic98, none⟩

/-- (corpora/global.scene).region -/
def ic99 : IC :=
  (.seq (.region [
    ⟨some 1, .box 100 20 (.t 0), none, [100], []⟩,
    ⟨some 2, .mov (.c (.bool false)), none, [], []⟩] false)
  (.seq (.region [
    ⟨some 3, .faddr 0 (.t 1), none, [], []⟩,
    ⟨some 4, .faddr 3 (.t 3), none, [], []⟩,
    ⟨some 5, .load 1 false (.t 4), none, [100], []⟩,
    ⟨some 6, .mkFn 127 1 [] [.t 1], none, [100], []⟩,
    ⟨some 7, .call none 126 [.t 5, .t 6], none, [], []⟩,
    ⟨some 2, .mov (.t 7), none, [], []⟩] false)
  (.gmask [2] [] .ret)))
def F99 : IFunc := ⟨1, 8, [.tmp 2], ic99, none⟩

/-- (corpora/global.scene).head -/
def ic100 : IC :=
  (.seq (.region [
    ⟨some 1, .box 100 20 (.t 0), none, [100], []⟩,
    ⟨some 2, .mov (.c (.bool false)), none, [], []⟩] false)
  (.seq (.region [
    ⟨some 6, .faddr 0 (.t 1), none, [], []⟩,
    ⟨some 7, .load 7 true (.t 6), none, [100], []⟩,
    ⟨some 8, .faddr 18 (.t 1), none, [], []⟩,
    ⟨some 9, .load 1 false (.t 8), none, [100], []⟩,
    ⟨some 10, .call none 72 [.t 7, .t 9], none, [], []⟩,
    ⟨some 5, .mov (.t 10), none, [], []⟩,
    ⟨some 11, .extract (.t 5) 0, none, [], []⟩,
    ⟨some 12, .extract (.t 5) 1, none, [], []⟩,
    ⟨some 3, .mov (.t 11), none, [], []⟩,
    ⟨some 4, .mov (.t 12), none, [], []⟩] false)
  (.seq (.region [
    ⟨some 13, .mov (.t 3), none, [], []⟩,
    ⟨some 14, .len false (.t 13), none, [], [0]⟩,
    ⟨some 15, .bin .gtr (.t 14) (.c (.int .i64 0)), none, [], [0, 1]⟩,
    ⟨some 16, .mov (.t 15), none, [], [0, 1, 2]⟩,
    ⟨some 17, .mov (.t 3), some (16, true), [], [0, 1, 2, 3]⟩,
    ⟨some 18, .iaddr 1 (.t 17) (.c (.int .i64 0)), some (16, true), [], [0, 1, 2, 3, 4]⟩,
    ⟨some 19, .load 1 false (.t 18), some (16, true), [], [0, 1, 2, 3, 4, 5]⟩,
    ⟨some 20, .faddr 19 (.t 1), some (16, true), [], [0, 1, 2, 3]⟩,
    ⟨some 21, .load 1 false (.t 20), some (16, true), [100], [0, 1, 2, 3, 7]⟩,
    ⟨some 22, .bin .eql (.t 19) (.t 21), some (16, true), [], [0, 1, 2, 3, 4, 5, 6, 7, 8]⟩,
    ⟨some 23, .pick (.t 16) (.t 22) (.c (.bool false)), none, [], [0, 1, 2, 3, 4, 5, 6, 7, 8, 9]⟩,
    ⟨some 2, .mov (.t 23), none, [], [0, 1, 2, 3, 4, 5, 6, 7, 8, 9, 10]⟩] true)
  (.gmask [2] [] .ret))))
def F100 : IFunc := ⟨1, 24, [.tmp 2], ic100, none⟩

/-- (corpora/global.scene).ancestor -/
def ic101 : IC :=
  (.seq (.region [
    ⟨some 1, .box 100 20 (.t 0), none, [100], []⟩,
    ⟨some 2, .mov (.c (.bool false)), none, [], []⟩] false)
  (.seq (.region [
    ⟨some 6, .faddr 0 (.t 1), none, [], []⟩,
    ⟨some 7, .load 7 true (.t 6), none, [100], []⟩,
    ⟨some 8, .faddr 18 (.t 1), none, [], []⟩,
    ⟨some 9, .load 1 false (.t 8), none, [100], []⟩,
    ⟨some 10, .call none 72 [.t 7, .t 9], none, [], []⟩,
    ⟨some 5, .mov (.t 10), none, [], []⟩,
    ⟨some 11, .extract (.t 5) 0, none, [], []⟩,
    ⟨some 12, .extract (.t 5) 1, none, [], []⟩,
    ⟨some 3, .mov (.t 11), none, [], []⟩,
    ⟨some 4, .mov (.t 12), none, [], []⟩] false)
  (.seq (.region [
    ⟨some 13, .mov (.t 3), none, [], []⟩,
    ⟨some 14, .faddr 19 (.t 1), none, [], []⟩,
    ⟨some 15, .load 1 false (.t 14), none, [100], []⟩,
    ⟨some 16, .call none 84 [.t 13, .t 15], none, [], []⟩,
    ⟨some 2, .mov (.t 16), none, [], []⟩] false)
  (.gmask [2] [] .ret))))
def F101 : IFunc := ⟨1, 17, [.tmp 2], ic101, none⟩

/-- (corpora/global.scene).path -/
def ic102 : IC :=
  (.seq (.region [
    ⟨some 1, .box 101 20 (.t 0), none, [101], []⟩,
    ⟨some 2, .mov (.c (.bool false)), none, [], []⟩] false)
  (.seq (.region [
    ⟨some 7, .faddr 0 (.t 1), none, [], []⟩,
    ⟨some 8, .load 7 true (.t 7), none, [101], []⟩,
    ⟨some 9, .faddr 18 (.t 1), none, [], []⟩,
    ⟨some 10, .load 1 false (.t 9), none, [101], []⟩,
    ⟨some 11, .call none 72 [.t 8, .t 10], none, [], []⟩,
    ⟨some 6, .mov (.t 11), none, [], []⟩,
    ⟨some 12, .extract (.t 6) 0, none, [], []⟩,
    ⟨some 13, .extract (.t 6) 1, none, [], []⟩,
    ⟨some 3, .mov (.t 12), none, [], []⟩,
    ⟨some 4, .mov (.t 13), none, [], []⟩] false)
  (.seq (.region [
    ⟨some 14, .faddr 18 (.t 1), none, [], []⟩,
    ⟨some 15, .load 1 false (.t 14), none, [101], [0]⟩,
    ⟨some 16, .buildSl (some 100) 1 (.int .i64 0) 1 [(0, .t 15)], none, [100], [0, 1]⟩,
    ⟨some 17, .mov (.t 3), none, [], []⟩,
    ⟨some 18, .app none 1 8 (.t 16) (.t 17), none, [100], [0, 1, 2, 3]⟩,
    ⟨some 19, .faddr 19 (.t 1), none, [], []⟩,
    ⟨some 20, .load 1 false (.t 19), none, [101], [5]⟩,
    ⟨some 21, .call none 110 [.t 18, .t 20], none, [100], [0, 1, 2, 3, 4, 5, 6]⟩,
    ⟨some 5, .mov (.t 21), none, [], [0, 1, 2, 3, 4, 5, 6, 7]⟩] true)
  (.seq (.region [
    ⟨some 22, .mov (.t 5), none, [], []⟩,
    ⟨some 23, .bin .geq (.t 22) (.c (.int .i64 0)), none, [], [0]⟩,
    ⟨some 24, .mov (.t 23), none, [], [0, 1]⟩,
    ⟨some 25, .mov (.t 4), some (24, true), [], [0, 1, 2]⟩,
    ⟨some 26, .mov (.t 5), some (24, true), [], [0, 1, 2]⟩,
    ⟨some 27, .slice false 1 (.t 25) none (some (.t 26)), some (24, true), [], [0, 1, 2, 3, 4]⟩,
    ⟨some 28, .faddr 7 (.t 1), some (24, true), [], [0, 1, 2]⟩,
    ⟨some 29, .faddr 9 (.t 28), some (24, true), [], [0, 1, 2, 6]⟩,
    ⟨some 30, .load 1 false (.t 29), some (24, true), [101], [0, 1, 2, 6, 7]⟩,
    ⟨some 31, .call none 128 [.t 27, .t 30], some (24, true), [], [0, 1, 2, 3, 4, 5, 6, 7, 8]⟩,
    ⟨some 32, .pick (.t 24) (.t 31) (.c (.bool false)), none, [], [0, 1, 2, 3, 4, 5, 6, 7, 8, 9]⟩,
    ⟨some 2, .mov (.t 32), none, [], [0, 1, 2, 3, 4, 5, 6, 7, 8, 9, 10]⟩] true)
  (.gmask [2] [] .ret)))))
def F102 : IFunc := ⟨1, 33, [.tmp 2], ic102, none⟩

/-- (corpora/global.scene).node -/
def ic103 : IC :=
  (.seq (.region [
    ⟨some 1, .box 100 20 (.t 0), none, [100], []⟩,
    ⟨some 2, .mov (.c (.bool false)), none, [], []⟩] false)
  (.seq (.region [
    ⟨some 3, .faddr 0 (.t 1), none, [], []⟩,
    ⟨some 4, .faddr 4 (.t 3), none, [], []⟩,
    ⟨some 5, .load 1 false (.t 4), none, [100], []⟩,
    ⟨some 6, .mkFn 130 1 [] [.t 1], none, [100], []⟩,
    ⟨some 7, .call none 129 [.t 5, .t 6], none, [], []⟩,
    ⟨some 2, .mov (.t 7), none, [], []⟩] false)
  (.gmask [2] [] .ret)))
def F103 : IFunc := ⟨1, 8, [.tmp 2], ic103, none⟩

def ic104_0_b : IC :=
  (.seq (.region [
    ⟨some 9, .next (.t 8), none, [101], []⟩,
    ⟨some 10, .extract (.t 9) 0, none, [], []⟩] false)
  (.seq (.cond (.t 10) .skip
  (.gmask [0, 3] [100] (.exit 0)))
  (.block 1 (.seq (.region [
    ⟨some 11, .extract (.t 9) 1, none, [], []⟩,
    ⟨some 12, .extract (.t 9) 2, none, [], []⟩,
    ⟨some 4, .mov (.t 11), none, [], []⟩,
    ⟨some 5, .mov (.t 12), none, [], []⟩] false)
  (.seq (.seq (.region [
    ⟨some 13, .mov (.t 3), none, [], []⟩,
    ⟨some 14, .len false (.t 13), none, [100], []⟩,
    ⟨some 15, .bin .gtr (.t 14) (.c (.int .i64 0)), none, [], []⟩] false)
  (.gpost [0, 3, 4, 5, 8] [100, 101] (.cond (.t 15) (.region [
    ⟨some 16, .mov (.t 3), none, [], []⟩,
    ⟨some 17, .mov (.t 3), none, [], []⟩,
    ⟨some 18, .len false (.t 17), none, [100], []⟩,
    ⟨some 19, .bin .sub (.t 18) (.c (.int .i64 1)), none, [], []⟩,
    ⟨some 20, .mov (.t 4), none, [], []⟩,
    ⟨some 21, .mov (.t 3), none, [], []⟩,
    ⟨some 22, .mov (.t 3), none, [], []⟩,
    ⟨some 23, .len false (.t 22), none, [100], []⟩,
    ⟨some 24, .bin .sub (.t 23) (.c (.int .i64 1)), none, [], []⟩,
    ⟨some 25, .iaddr 4 (.t 21) (.t 24), none, [100], []⟩,
    ⟨some 26, .faddr 1 (.t 25), none, [100], []⟩,
    ⟨some 27, .load 1 false (.t 26), none, [100], []⟩,
    ⟨some 28, .bin .sub (.t 20) (.t 27), none, [], []⟩,
    ⟨some 29, .iaddr 4 (.t 16) (.t 19), none, [100], []⟩,
    ⟨some 30, .faddr 2 (.t 29), none, [100], []⟩,
    ⟨none, .store 1 (.t 30) (.t 28), none, [100], []⟩] false)
  .skip)))
  (.region [
    ⟨some 31, .mov (.t 3), none, [], []⟩,
    ⟨some 32, .mov (.t 5), none, [], []⟩,
    ⟨some 33, .mov (.t 4), none, [], []⟩,
    ⟨some 34, .build [.int .i32 0, .int .i64 0, .int .i64 0, .bool false] [(0, 1, .t 32), (1, 1, .t 33)], none, [], []⟩,
    ⟨some 35, .buildSl none 4 (.agg [.int .i32 0, .int .i64 0, .int .i64 0, .bool false]) 1 [(0, .t 34)], none, [], []⟩,
    ⟨some 36, .app none 4 32 (.t 31) (.t 35), none, [100], []⟩,
    ⟨some 3, .mov (.t 36), none, [], []⟩] false))))))
def ic104_0 : IC := .loop [0, 3, 8] [100, 101] ic104_0_b
def ic104_1_b : IC :=
  (.seq (.region [
    ⟨some 59, .bin .lss (.t 58) (.t 57), none, [], []⟩] false)
  (.seq (.cond (.t 59) .skip
  (.gmask [3] [100] (.exit 2)))
  (.seq (.block 3 (.seq (.region [
    ⟨some 60, .mov (.t 58), none, [], []⟩,
    ⟨some 6, .mov (.t 60), none, [], []⟩] false)
  (.region [
    ⟨some 61, .mov (.t 3), none, [], []⟩,
    ⟨some 62, .mov (.t 6), none, [], []⟩,
    ⟨some 63, .mov (.t 3), none, [], []⟩,
    ⟨some 64, .mov (.t 6), none, [], []⟩,
    ⟨some 65, .iaddr 4 (.t 63) (.t 64), none, [100], []⟩,
    ⟨some 66, .faddr 0 (.t 65), none, [100], []⟩,
    ⟨some 67, .load 1 false (.t 66), none, [100], []⟩,
    ⟨some 68, .bin .neq (.t 67) (.c (.int .i32 65533)), none, [], []⟩,
    ⟨some 69, .mov (.t 68), none, [], []⟩,
    ⟨some 70, .mov (.t 3), some (69, false), [], []⟩,
    ⟨some 71, .mov (.t 6), some (69, false), [], []⟩,
    ⟨some 72, .iaddr 4 (.t 70) (.t 71), some (69, false), [100], []⟩,
    ⟨some 73, .faddr 2 (.t 72), some (69, false), [100], []⟩,
    ⟨some 74, .load 1 false (.t 73), some (69, false), [100], []⟩,
    ⟨some 75, .bin .eql (.t 74) (.c (.int .i64 3)), some (69, false), [], []⟩,
    ⟨some 76, .pick (.t 69) (.c (.bool true)) (.t 75), none, [], []⟩,
    ⟨some 77, .iaddr 4 (.t 61) (.t 62), none, [100], []⟩,
    ⟨some 78, .faddr 3 (.t 77), none, [100], []⟩,
    ⟨none, .store 1 (.t 78) (.t 76), none, [100], []⟩] false)))
  (.region [
    ⟨some 79, .bin .add (.t 58) (.c (.int .i64 1)), none, [], []⟩,
    ⟨some 58, .mov (.t 79), none, [], []⟩] false))))
def ic104_1 : IC := .loop [3, 57, 58] [100] ic104_1_b
/-- corpora/corporaref01.Units -/
def ic104 : IC :=
  (.seq (.region [
    ⟨some 2, .movp (.c (.nil)), none, [], []⟩] false)
  (.seq (.region [
    ⟨some 3, .nilarr 100 4, none, [100], []⟩] false)
  (.seq (.seq (.region [
    ⟨some 7, .mov (.t 0), none, [], []⟩,
    ⟨some 8, .range 101 (.t 7), none, [101], []⟩] false)
  (.block 0 (.gmask [0, 3, 8] [100, 101] ic104_0)))
  (.seq (.seq (.region [
    ⟨some 37, .mov (.t 3), none, [], []⟩,
    ⟨some 38, .len false (.t 37), none, [100], []⟩,
    ⟨some 39, .bin .gtr (.t 38) (.c (.int .i64 0)), none, [], []⟩] false)
  (.gpost [3] [100] (.cond (.t 39) (.region [
    ⟨some 40, .mov (.t 3), none, [], []⟩,
    ⟨some 41, .mov (.t 3), none, [], []⟩,
    ⟨some 42, .len false (.t 41), none, [100], []⟩,
    ⟨some 43, .bin .sub (.t 42) (.c (.int .i64 1)), none, [], []⟩,
    ⟨some 44, .mov (.t 0), none, [], []⟩,
    ⟨some 45, .len true (.t 44), none, [], []⟩,
    ⟨some 46, .mov (.t 3), none, [], []⟩,
    ⟨some 47, .mov (.t 3), none, [], []⟩,
    ⟨some 48, .len false (.t 47), none, [100], []⟩,
    ⟨some 49, .bin .sub (.t 48) (.c (.int .i64 1)), none, [], []⟩,
    ⟨some 50, .iaddr 4 (.t 46) (.t 49), none, [100], []⟩,
    ⟨some 51, .faddr 1 (.t 50), none, [100], []⟩,
    ⟨some 52, .load 1 false (.t 51), none, [100], []⟩,
    ⟨some 53, .bin .sub (.t 45) (.t 52), none, [], []⟩,
    ⟨some 54, .iaddr 4 (.t 40) (.t 43), none, [100], []⟩,
    ⟨some 55, .faddr 2 (.t 54), none, [100], []⟩,
    ⟨none, .store 1 (.t 55) (.t 53), none, [100], []⟩] false)
  .skip)))
  (.seq (.seq (.region [
    ⟨some 56, .mov (.t 3), none, [], []⟩,
    ⟨some 57, .len false (.t 56), none, [100], []⟩,
    ⟨some 58, .mov (.c (.int .i64 0)), none, [], []⟩] false)
  (.block 2 (.gmask [3, 57, 58] [100] ic104_1)))
  (.seq (.region [
    ⟨some 80, .mov (.t 3), none, [], []⟩,
    ⟨some 2, .mov (.t 80), none, [], []⟩] false)
  (.gmask [2] [100] .ret)))))))
def F104 : IFunc := ⟨1, 81, [.tmp 2], ic104, none⟩

def ic110_0_b : IC :=
  (.seq (.region [
    ⟨some 9, .bin .lss (.t 8) (.t 7), none, [], []⟩] false)
  (.seq (.cond (.t 9) .skip
  (.gmask [] [] (.exit 0)))
  (.seq (.block 1 (.seq (.region [
    ⟨some 10, .mov (.t 8), none, [], []⟩,
    ⟨some 5, .mov (.t 10), none, [], []⟩] false)
  (.seq (.region [
    ⟨some 11, .mov (.t 1), none, [], []⟩,
    ⟨some 12, .mov (.t 0), none, [], []⟩,
    ⟨some 13, .mov (.t 5), none, [], []⟩,
    ⟨some 14, .iaddr 1 (.t 12) (.t 13), none, [], []⟩,
    ⟨some 15, .load 1 false (.t 14), none, [], []⟩,
    ⟨some 16, .bin .eql (.t 11) (.t 15), none, [], []⟩] false)
  (.cond (.t 16) (.seq (.region [
    ⟨some 17, .mov (.t 5), none, [], []⟩,
    ⟨some 4, .mov (.t 17), none, [], []⟩] false)
  (.gmask [4] [] .ret))
  .skip))))
  (.region [
    ⟨some 18, .bin .add (.t 8) (.c (.int .i64 1)), none, [], []⟩,
    ⟨some 8, .mov (.t 18), none, [], []⟩] false))))
def ic110_0 : IC := .loop [0, 1, 7, 8] [] ic110_0_b
/-- slices.Index[[]int,int] -/
def ic110 : IC :=
  (.seq (.region [
    ⟨some 4, .mov (.c (.int .i64 0)), none, [], []⟩] false)
  (.seq (.seq (.region [
    ⟨some 6, .mov (.t 0), none, [], []⟩,
    ⟨some 7, .len false (.t 6), none, [], []⟩,
    ⟨some 8, .mov (.c (.int .i64 0)), none, [], []⟩] false)
  (.block 0 (.gmask [0, 1, 7, 8] [] ic110_0)))
  (.seq (.region [
    ⟨some 4, .mov (.c (.int .i64 (-1))), none, [], []⟩] false)
  (.gmask [4] [] .ret))))
def F110 : IFunc := ⟨2, 19, [.tmp 4], ic110, none⟩

/-- corpora/corporaref06.sign -/
def ic111 : IC :=
  (.seq (.region [
    ⟨some 2, .mov (.c (.int .i64 0)), none, [], []⟩] false)
  (.seq (.seq (.region [
    ⟨some 3, .mov (.t 0), none, [], []⟩] false)
  (.cond (.t 3) (.seq (.region [
    ⟨some 2, .mov (.c (.int .i64 (-1))), none, [], []⟩] false)
  (.gmask [2] [] .ret))
  .skip))
  (.seq (.region [
    ⟨some 2, .mov (.c (.int .i64 1)), none, [], []⟩] false)
  (.gmask [2] [] .ret))))
def F111 : IFunc := ⟨1, 4, [.tmp 2], ic111, none⟩

/-- corpora/corporaref06.compare -/
def ic112 : IC :=
  (.seq (.region [
    ⟨some 4, .mov (.c (.int .i64 0)), none, [], []⟩] false)
  (.seq (.block 0 (.seq (.region [
    ⟨some 6, .mov (.t 0), none, [], []⟩,
    ⟨some 7, .mov (.t 1), none, [], []⟩,
    ⟨some 8, .bin .lss (.t 6) (.t 7), none, [], []⟩,
    ⟨some 5, .mov (.t 8), none, [], []⟩] false)
  (.cond (.t 5) (.seq (.region [
    ⟨some 4, .mov (.c (.int .i64 (-1))), none, [], []⟩] false)
  (.gmask [4] [] .ret))
  (.seq (.region [
    ⟨some 10, .mov (.t 0), none, [], []⟩,
    ⟨some 11, .mov (.t 1), none, [], []⟩,
    ⟨some 12, .bin .gtr (.t 10) (.t 11), none, [], []⟩,
    ⟨some 9, .mov (.t 12), none, [], []⟩] false)
  (.cond (.t 9) (.seq (.region [
    ⟨some 4, .mov (.c (.int .i64 1)), none, [], []⟩] false)
  (.gmask [4] [] .ret))
  .skip)))))
  (.seq (.region [
    ⟨some 4, .mov (.c (.int .i64 0)), none, [], []⟩] false)
  (.gmask [4] [] .ret))))
def F112 : IFunc := ⟨2, 13, [.tmp 4], ic112, none⟩

def ic113_0_b : IC :=
  (.seq (.region [
    ⟨some 31, .bin .lss (.t 30) (.t 29), none, [], []⟩] false)
  (.seq (.cond (.t 31) .skip
  (.gmask [0, 14, 15, 16] [] (.exit 2)))
  (.seq (.block 3 (.seq (.region [
    ⟨some 32, .iaddr 2 (.t 28) (.t 30), none, [], []⟩,
    ⟨some 33, .load 2 true (.t 32), none, [], []⟩,
    ⟨some 7, .alloc 101 [.str ⟨#[]⟩, .bool false], none, [101], []⟩,
    ⟨none, .store 2 (.t 7) (.t 33), none, [101], []⟩] false)
  (.seq (.region [
    ⟨some 34, .faddr 0 (.t 5), none, [], []⟩,
    ⟨some 35, .load 1 false (.t 34), none, [100], []⟩,
    ⟨some 36, .faddr 0 (.t 7), none, [], []⟩,
    ⟨some 37, .load 1 false (.t 36), none, [101], []⟩,
    ⟨some 38, .bin .eql (.t 35) (.t 37), none, [], []⟩] false)
  (.cond (.t 38) (.seq (.region [
    ⟨some 39, .mov (.t 4), none, [], []⟩,
    ⟨some 2, .mov (.t 39), none, [], []⟩,
    ⟨some 3, .mov (.c (.int .i64 5)), none, [], []⟩] false)
  (.gmask [2, 3] [] .ret))
  .skip))))
  (.region [
    ⟨some 40, .bin .add (.t 30) (.c (.int .i64 1)), none, [], []⟩,
    ⟨some 30, .mov (.t 40), none, [], []⟩] false))))
def ic113_0 : IC := .loop [0, 4, 5, 14, 15, 16, 28, 29, 30] [100] ic113_0_b
def ic113_1_b : IC :=
  (.seq (.region [
    ⟨some 17, .bin .lss (.t 16) (.t 15), none, [], []⟩] false)
  (.seq (.cond (.t 17) .skip
  (.gmask [] [] (.exit 0)))
  (.seq (.block 1 (.seq (.region [
    ⟨some 18, .mov (.t 16), none, [], []⟩,
    ⟨some 19, .iaddr 2 (.t 14) (.t 16), none, [], []⟩,
    ⟨some 20, .load 2 true (.t 19), none, [], []⟩,
    ⟨some 5, .alloc 100 [.str ⟨#[]⟩, .bool false], none, [100], []⟩,
    ⟨some 4, .mov (.t 18), none, [], []⟩,
    ⟨none, .store 2 (.t 5) (.t 20), none, [100], []⟩] false)
  (.seq (.seq (.region [
    ⟨some 21, .faddr 0 (.t 5), none, [], []⟩,
    ⟨some 22, .load 1 false (.t 21), none, [100], []⟩,
    ⟨some 23, .call none 138 [.t 22], none, [], []⟩,
    ⟨some 24, .un .not (.t 23), none, [], []⟩] false)
  (.cond (.t 24) (.seq (.region [
    ⟨some 25, .mov (.t 4), none, [], []⟩,
    ⟨some 2, .mov (.t 25), none, [], []⟩,
    ⟨some 3, .mov (.c (.int .i64 4)), none, [], []⟩] false)
  (.gmask [2, 3] [] .ret))
  .skip))
  (.seq (.region [
    ⟨some 26, .mov (.t 0), none, [], []⟩,
    ⟨some 27, .mov (.t 4), none, [], []⟩,
    ⟨some 28, .slice false 2 (.t 26) none (some (.t 27)), none, [], []⟩,
    ⟨some 29, .len false (.t 28), none, [], []⟩,
    ⟨some 30, .mov (.c (.int .i64 0)), none, [], []⟩] false)
  (.block 2 (.gmask [0, 4, 5, 14, 15, 16, 28, 29, 30] [100] ic113_0))))))
  (.region [
    ⟨some 41, .bin .add (.t 16) (.c (.int .i64 1)), none, [], []⟩,
    ⟨some 16, .mov (.t 41), none, [], []⟩] false))))
def ic113_1 : IC := .loop [0, 14, 15, 16] [] ic113_1_b
/-- corpora/corporaref06.Attributes -/
def ic113 : IC :=
  (.seq (.region [
    ⟨some 2, .mov (.c (.int .i64 0)), none, [], []⟩,
    ⟨some 3, .mov (.c (.int .i64 0)), none, [], []⟩] false)
  (.seq (.seq (.region [
    ⟨some 8, .mov (.t 0), none, [], []⟩,
    ⟨some 9, .len false (.t 8), none, [], []⟩,
    ⟨some 10, .bin .eql (.t 9) (.c (.int .i64 0)), none, [], []⟩] false)
  (.cond (.t 10) (.seq (.region [
    ⟨some 2, .mov (.c (.int .i64 0)), none, [], []⟩,
    ⟨some 3, .mov (.c (.int .i64 15)), none, [], []⟩] false)
  (.gmask [2, 3] [] .ret))
  .skip))
  (.seq (.seq (.region [
    ⟨some 11, .mov (.t 0), none, [], []⟩,
    ⟨some 12, .len false (.t 11), none, [], []⟩,
    ⟨some 13, .bin .gtr (.t 12) (.c (.int .i64 8)), none, [], []⟩] false)
  (.cond (.t 13) (.seq (.region [
    ⟨some 2, .mov (.c (.int .i64 0)), none, [], []⟩,
    ⟨some 3, .mov (.c (.int .i64 2)), none, [], []⟩] false)
  (.gmask [2, 3] [] .ret))
  .skip))
  (.seq (.seq (.region [
    ⟨some 14, .mov (.t 0), none, [], []⟩,
    ⟨some 15, .len false (.t 14), none, [], []⟩,
    ⟨some 16, .mov (.c (.int .i64 0)), none, [], []⟩] false)
  (.block 0 (.gmask [0, 14, 15, 16] [] ic113_1)))
  (.seq (.region [
    ⟨some 2, .mov (.c (.int .i64 0)), none, [], []⟩,
    ⟨some 3, .mov (.c (.int .i64 0)), none, [], []⟩] false)
  (.gmask [2, 3] [] .ret))))))
def F113 : IFunc := ⟨1, 42, [.tmp 2, .tmp 3], ic113, none⟩

def ic114_0_b : IC :=
  (.seq (.region [
    ⟨some 31, .bin .lss (.t 30) (.t 29), none, [], []⟩] false)
  (.seq (.cond (.t 31) .skip
  (.gmask [1, 14, 15, 16] [100] (.exit 2)))
  (.seq (.block 3 (.seq (.region [
    ⟨some 32, .mov (.t 30), none, [], []⟩,
    ⟨some 33, .iaddr 1 (.t 28) (.t 30), none, [], []⟩,
    ⟨some 34, .load 1 false (.t 33), none, [], []⟩,
    ⟨some 6, .mov (.t 32), none, [], []⟩,
    ⟨some 7, .mov (.t 34), none, [], []⟩] false)
  (.seq (.region [
    ⟨some 35, .faddr 0 (.t 1), none, [], []⟩,
    ⟨some 36, .load 1 false (.t 35), none, [100], []⟩,
    ⟨some 37, .mov (.t 6), none, [], []⟩,
    ⟨some 38, .iaddr 2 (.t 36) (.t 37), none, [], []⟩,
    ⟨some 39, .load 2 true (.t 38), none, [], []⟩,
    ⟨some 40, .mov (.t 7), none, [], []⟩,
    ⟨some 41, .call none 139 [.t 39, .t 40], none, [], []⟩,
    ⟨some 8, .mov (.t 41), none, [], []⟩] false)
  (.seq (.region [
    ⟨some 42, .mov (.t 8), none, [], []⟩,
    ⟨some 43, .bin .neq (.t 42) (.c (.int .i64 0)), none, [], []⟩] false)
  (.cond (.t 43) (.seq (.region [
    ⟨some 44, .mov (.t 4), none, [], []⟩,
    ⟨some 45, .mov (.t 8), none, [], []⟩,
    ⟨some 2, .mov (.t 44), none, [], []⟩,
    ⟨some 3, .mov (.t 45), none, [], []⟩] false)
  (.gmask [2, 3] [] .ret))
  .skip)))))
  (.region [
    ⟨some 46, .bin .add (.t 30) (.c (.int .i64 1)), none, [], []⟩,
    ⟨some 30, .mov (.t 46), none, [], []⟩] false))))
def ic114_0 : IC := .loop [1, 4, 14, 15, 16, 28, 29, 30] [100] ic114_0_b
def ic114_1_b : IC :=
  (.seq (.region [
    ⟨some 17, .bin .lss (.t 16) (.t 15), none, [], []⟩] false)
  (.seq (.cond (.t 17) .skip
  (.gmask [] [] (.exit 0)))
  (.seq (.block 1 (.seq (.region [
    ⟨some 18, .mov (.t 16), none, [], []⟩,
    ⟨some 19, .iaddr 1 (.t 14) (.t 16), none, [], []⟩,
    ⟨some 20, .load 1 false (.t 19), none, [], []⟩,
    ⟨some 4, .mov (.t 18), none, [], []⟩,
    ⟨some 5, .mov (.t 20), none, [], []⟩] false)
  (.seq (.seq (.region [
    ⟨some 21, .mov (.t 5), none, [], []⟩,
    ⟨some 22, .len false (.t 21), none, [], []⟩,
    ⟨some 23, .faddr 0 (.t 1), none, [], []⟩,
    ⟨some 24, .load 1 false (.t 23), none, [100], []⟩,
    ⟨some 25, .len false (.t 24), none, [], []⟩,
    ⟨some 26, .bin .neq (.t 22) (.t 25), none, [], []⟩] false)
  (.cond (.t 26) (.seq (.region [
    ⟨some 27, .mov (.t 4), none, [], []⟩,
    ⟨some 2, .mov (.t 27), none, [], []⟩,
    ⟨some 3, .mov (.c (.int .i64 15)), none, [], []⟩] false)
  (.gmask [2, 3] [] .ret))
  .skip))
  (.seq (.region [
    ⟨some 28, .mov (.t 5), none, [], []⟩,
    ⟨some 29, .len false (.t 28), none, [], []⟩,
    ⟨some 30, .mov (.c (.int .i64 0)), none, [], []⟩] false)
  (.block 2 (.gmask [1, 4, 14, 15, 16, 28, 29, 30] [100] ic114_0))))))
  (.region [
    ⟨some 47, .bin .add (.t 16) (.c (.int .i64 1)), none, [], []⟩,
    ⟨some 16, .mov (.t 47), none, [], []⟩] false))))
def ic114_1 : IC := .loop [1, 14, 15, 16] [100] ic114_1_b
/-- corpora/corporaref06.tokens -/
def ic114 : IC :=
  (.seq (.region [
    ⟨some 1, .box 100 7 (.t 0), none, [100], []⟩,
    ⟨some 2, .mov (.c (.int .i64 0)), none, [], []⟩,
    ⟨some 3, .mov (.c (.int .i64 0)), none, [], []⟩] false)
  (.seq (.seq (.region [
    ⟨some 9, .faddr 1 (.t 1), none, [], []⟩,
    ⟨some 10, .load 1 false (.t 9), none, [100], []⟩,
    ⟨some 11, .len false (.t 10), none, [], []⟩,
    ⟨some 12, .bin .gtr (.t 11) (.c (.int .i64 4096)), none, [], []⟩] false)
  (.cond (.t 12) (.seq (.region [
    ⟨some 2, .mov (.c (.int .i64 0)), none, [], []⟩,
    ⟨some 3, .mov (.c (.int .i64 2)), none, [], []⟩] false)
  (.gmask [2, 3] [] .ret))
  .skip))
  (.seq (.seq (.region [
    ⟨some 13, .faddr 1 (.t 1), none, [], []⟩,
    ⟨some 14, .load 1 false (.t 13), none, [100], []⟩,
    ⟨some 15, .len false (.t 14), none, [], []⟩,
    ⟨some 16, .mov (.c (.int .i64 0)), none, [], []⟩] false)
  (.block 0 (.gmask [1, 14, 15, 16] [100] ic114_1)))
  (.seq (.region [
    ⟨some 2, .mov (.c (.int .i64 0)), none, [], []⟩,
    ⟨some 3, .mov (.c (.int .i64 0)), none, [], []⟩] false)
  (.gmask [2, 3] [] .ret)))))
def F114 : IFunc := ⟨1, 48, [.tmp 2, .tmp 3], ic114, none⟩

def ic115_0_b : IC :=
  (.seq (.region [
    ⟨some 44, .bin .lss (.t 43) (.t 42), none, [], []⟩] false)
  (.seq (.cond (.t 44) .skip
  (.gmask [1, 4, 5, 6, 7, 26, 27, 28] [100, 101] (.exit 2)))
  (.seq (.block 3 (.seq (.region [
    ⟨some 45, .iaddr 4 (.t 41) (.t 43), none, [], []⟩,
    ⟨some 46, .load 4 true (.t 45), none, [], []⟩,
    ⟨some 9, .alloc 102 [.str ⟨#[]⟩, .int .i64 0, .int .i64 0, .nil], none, [102], []⟩,
    ⟨none, .store 4 (.t 9) (.t 46), none, [102], []⟩] false)
  (.seq (.region [
    ⟨some 47, .faddr 0 (.t 9), none, [], []⟩,
    ⟨some 48, .load 1 false (.t 47), none, [102], []⟩,
    ⟨some 49, .faddr 0 (.t 7), none, [], []⟩,
    ⟨some 50, .load 1 false (.t 49), none, [101], []⟩,
    ⟨some 51, .bin .eql (.t 48) (.t 50), none, [], []⟩] false)
  (.cond (.t 51) (.seq (.region [
    ⟨some 52, .mov (.t 6), none, [], []⟩,
    ⟨some 2, .mov (.t 52), none, [], []⟩,
    ⟨some 3, .mov (.c (.int .i64 5)), none, [], []⟩] false)
  (.gmask [2, 3] [] .ret))
  .skip))))
  (.region [
    ⟨some 53, .bin .add (.t 43) (.c (.int .i64 1)), none, [], []⟩,
    ⟨some 43, .mov (.t 53), none, [], []⟩] false))))
def ic115_0 : IC := .loop [1, 4, 5, 6, 7, 26, 27, 28, 41, 42, 43] [100, 101] ic115_0_b
def ic115_1_b : IC :=
  (.seq (.region [
    ⟨some 29, .bin .lss (.t 28) (.t 27), none, [], []⟩] false)
  (.seq (.cond (.t 29) .skip
  (.gmask [] [] (.exit 0)))
  (.seq (.block 1 (.seq (.region [
    ⟨some 30, .mov (.t 28), none, [], []⟩,
    ⟨some 31, .iaddr 4 (.t 26) (.t 28), none, [], []⟩,
    ⟨some 32, .load 4 true (.t 31), none, [], []⟩,
    ⟨some 7, .alloc 101 [.str ⟨#[]⟩, .int .i64 0, .int .i64 0, .nil], none, [101], []⟩,
    ⟨some 6, .mov (.t 30), none, [], []⟩,
    ⟨none, .store 4 (.t 7) (.t 32), none, [101], []⟩] false)
  (.seq (.seq (.region [
    ⟨some 33, .faddr 0 (.t 7), none, [], []⟩,
    ⟨some 34, .load 1 false (.t 33), none, [101], []⟩,
    ⟨some 35, .call none 138 [.t 34], none, [], []⟩,
    ⟨some 36, .un .not (.t 35), none, [], []⟩] false)
  (.cond (.t 36) (.seq (.region [
    ⟨some 37, .mov (.t 6), none, [], []⟩,
    ⟨some 2, .mov (.t 37), none, [], []⟩,
    ⟨some 3, .mov (.c (.int .i64 4)), none, [], []⟩] false)
  (.gmask [2, 3] [] .ret))
  .skip))
  (.seq (.seq (.region [
    ⟨some 38, .faddr 2 (.t 1), none, [], []⟩,
    ⟨some 39, .load 1 false (.t 38), none, [100], []⟩,
    ⟨some 40, .mov (.t 6), none, [], []⟩,
    ⟨some 41, .slice false 4 (.t 39) none (some (.t 40)), none, [], []⟩,
    ⟨some 42, .len false (.t 41), none, [], []⟩,
    ⟨some 43, .mov (.c (.int .i64 0)), none, [], []⟩] false)
  (.block 2 (.gmask [1, 4, 5, 6, 7, 26, 27, 28, 41, 42, 43] [100, 101] ic115_0)))
  (.seq (.seq (.region [
    ⟨some 54, .faddr 1 (.t 7), none, [], []⟩,
    ⟨some 55, .load 1 false (.t 54), none, [101], []⟩,
    ⟨some 56, .mov (.t 5), none, [], []⟩,
    ⟨some 57, .bin .neq (.t 55) (.t 56), none, [], []⟩,
    ⟨some 58, .mov (.t 57), none, [], []⟩,
    ⟨some 59, .faddr 2 (.t 7), some (58, false), [], []⟩,
    ⟨some 60, .load 1 false (.t 59), some (58, false), [101], []⟩,
    ⟨some 61, .faddr 1 (.t 7), some (58, false), [], []⟩,
    ⟨some 62, .load 1 false (.t 61), some (58, false), [101], []⟩,
    ⟨some 63, .bin .leq (.t 60) (.t 62), some (58, false), [], []⟩,
    ⟨some 64, .pick (.t 58) (.c (.bool true)) (.t 63), none, [], []⟩,
    ⟨some 65, .mov (.t 64), none, [], []⟩,
    ⟨some 66, .faddr 2 (.t 7), some (65, false), [], []⟩,
    ⟨some 67, .load 1 false (.t 66), some (65, false), [101], []⟩,
    ⟨some 68, .mov (.t 4), some (65, false), [], []⟩,
    ⟨some 69, .bin .gtr (.t 67) (.t 68), some (65, false), [], []⟩,
    ⟨some 70, .pick (.t 65) (.c (.bool true)) (.t 69), none, [], []⟩,
    ⟨some 71, .mov (.t 70), none, [], []⟩,
    ⟨some 72, .mov (.t 6), some (71, false), [], []⟩,
    ⟨some 73, .faddr 2 (.t 1), some (71, false), [], []⟩,
    ⟨some 74, .load 1 false (.t 73), some (71, false), [100], []⟩,
    ⟨some 75, .len false (.t 74), some (71, false), [], []⟩,
    ⟨some 76, .bin .sub (.t 75) (.c (.int .i64 1)), some (71, false), [], []⟩,
    ⟨some 77, .bin .eql (.t 72) (.t 76), some (71, false), [], []⟩,
    ⟨some 78, .mov (.t 77), some (71, false), [], []⟩,
    ⟨some 79, .faddr 2 (.t 7), some (78, true), [], []⟩,
    ⟨some 80, .load 1 false (.t 79), some (78, true), [101], []⟩,
    ⟨some 81, .mov (.t 4), some (78, true), [], []⟩,
    ⟨some 82, .bin .neq (.t 80) (.t 81), some (78, true), [], []⟩,
    ⟨some 83, .pick (.t 78) (.t 82) (.c (.bool false)), some (71, false), [], []⟩,
    ⟨some 84, .pick (.t 71) (.c (.bool true)) (.t 83), none, [], []⟩] false)
  (.cond (.t 84) (.seq (.region [
    ⟨some 85, .mov (.t 6), none, [], []⟩,
    ⟨some 2, .mov (.t 85), none, [], []⟩,
    ⟨some 3, .mov (.c (.int .i64 8)), none, [], []⟩] false)
  (.gmask [2, 3] [] .ret))
  .skip))
  (.seq (.seq (.region [
    ⟨some 86, .faddr 3 (.t 7), none, [], []⟩,
    ⟨some 87, .load 1 false (.t 86), none, [101], []⟩,
    ⟨some 88, .call none 140 [.t 87], none, [], []⟩,
    ⟨some 10, .mov (.t 88), none, [], []⟩] false)
  (.seq (.region [
    ⟨some 89, .mov (.t 10), none, [], []⟩,
    ⟨some 90, .bin .neq (.t 89) (.c (.int .i64 0)), none, [], []⟩] false)
  (.cond (.t 90) (.seq (.region [
    ⟨some 91, .mov (.t 6), none, [], []⟩,
    ⟨some 92, .mov (.t 10), none, [], []⟩,
    ⟨some 2, .mov (.t 91), none, [], []⟩,
    ⟨some 3, .mov (.t 92), none, [], []⟩] false)
  (.gmask [2, 3] [] .ret))
  .skip)))
  (.region [
    ⟨some 93, .faddr 2 (.t 7), none, [], []⟩,
    ⟨some 94, .load 1 false (.t 93), none, [101], []⟩,
    ⟨some 5, .mov (.t 94), none, [], []⟩] false)))))))
  (.region [
    ⟨some 95, .bin .add (.t 28) (.c (.int .i64 1)), none, [], []⟩,
    ⟨some 28, .mov (.t 95), none, [], []⟩] false))))
def ic115_1 : IC := .loop [1, 4, 5, 26, 27, 28] [100] ic115_1_b
/-- corpora/corporaref06.texts -/
def ic115 : IC :=
  (.seq (.region [
    ⟨some 1, .box 100 7 (.t 0), none, [100], []⟩,
    ⟨some 2, .mov (.c (.int .i64 0)), none, [], []⟩,
    ⟨some 3, .mov (.c (.int .i64 0)), none, [], []⟩] false)
  (.seq (.region [
    ⟨some 11, .faddr 1 (.t 1), none, [], []⟩,
    ⟨some 12, .load 1 false (.t 11), none, [100], []⟩,
    ⟨some 13, .len false (.t 12), none, [], []⟩,
    ⟨some 4, .mov (.t 13), none, [], []⟩] false)
  (.seq (.seq (.region [
    ⟨some 14, .faddr 2 (.t 1), none, [], []⟩,
    ⟨some 15, .load 1 false (.t 14), none, [100], []⟩,
    ⟨some 16, .len false (.t 15), none, [], []⟩,
    ⟨some 17, .bin .gtr (.t 16) (.c (.int .i64 64)), none, [], []⟩] false)
  (.cond (.t 17) (.seq (.region [
    ⟨some 2, .mov (.c (.int .i64 0)), none, [], []⟩,
    ⟨some 3, .mov (.c (.int .i64 2)), none, [], []⟩] false)
  (.gmask [2, 3] [] .ret))
  .skip))
  (.seq (.seq (.region [
    ⟨some 18, .faddr 2 (.t 1), none, [], []⟩,
    ⟨some 19, .load 1 false (.t 18), none, [100], []⟩,
    ⟨some 20, .len false (.t 19), none, [], []⟩,
    ⟨some 21, .bin .eql (.t 20) (.c (.int .i64 0)), none, [], []⟩,
    ⟨some 22, .mov (.t 4), none, [], []⟩,
    ⟨some 23, .bin .eql (.t 22) (.c (.int .i64 0)), none, [], []⟩,
    ⟨some 24, .eqB true (.t 21) (.t 23), none, [], []⟩] false)
  (.cond (.t 24) (.seq (.region [
    ⟨some 2, .mov (.c (.int .i64 0)), none, [], []⟩,
    ⟨some 3, .mov (.c (.int .i64 15)), none, [], []⟩] false)
  (.gmask [2, 3] [] .ret))
  .skip))
  (.seq (.region [
    ⟨some 5, .mov (.c (.int .i64 0)), none, [], []⟩] false)
  (.seq (.seq (.region [
    ⟨some 25, .faddr 2 (.t 1), none, [], []⟩,
    ⟨some 26, .load 1 false (.t 25), none, [100], []⟩,
    ⟨some 27, .len false (.t 26), none, [], []⟩,
    ⟨some 28, .mov (.c (.int .i64 0)), none, [], []⟩] false)
  (.block 0 (.gmask [1, 4, 5, 26, 27, 28] [100] ic115_1)))
  (.seq (.region [
    ⟨some 2, .mov (.c (.int .i64 0)), none, [], []⟩,
    ⟨some 3, .mov (.c (.int .i64 0)), none, [], []⟩] false)
  (.gmask [2, 3] [] .ret))))))))
def F115 : IFunc := ⟨1, 96, [.tmp 2, .tmp 3], ic115, none⟩

def ic116_0_b : IC :=
  (.seq (.region [
    ⟨some 65, .bin .lss (.t 64) (.t 63), none, [], []⟩] false)
  (.seq (.cond (.t 65) .skip
  (.gmask [1, 4, 7, 15, 16, 17] [100] (.exit 3)))
  (.seq (.block 4 (.seq (.region [
    ⟨some 66, .mov (.t 64), none, [], []⟩,
    ⟨some 67, .iaddr 4 (.t 62) (.t 64), none, [], []⟩,
    ⟨some 68, .load 4 true (.t 67), none, [], []⟩,
    ⟨some 9, .alloc 102 [.str ⟨#[]⟩, .int .i64 0, .int .i64 0, .nil], none, [102], []⟩,
    ⟨some 8, .mov (.t 66), none, [], []⟩,
    ⟨none, .store 4 (.t 9) (.t 68), none, [102], []⟩] false)
  (.seq (.seq (.region [
    ⟨some 69, .faddr 1 (.t 9), none, [], []⟩,
    ⟨some 70, .load 1 false (.t 69), none, [102], []⟩,
    ⟨some 71, .faddr 1 (.t 5), none, [], []⟩,
    ⟨some 72, .load 1 false (.t 71), none, [101], []⟩,
    ⟨some 73, .bin .leq (.t 70) (.t 72), none, [], []⟩,
    ⟨some 74, .mov (.t 73), none, [], []⟩,
    ⟨some 75, .faddr 1 (.t 5), some (74, true), [], []⟩,
    ⟨some 76, .load 1 false (.t 75), some (74, true), [101], []⟩,
    ⟨some 77, .faddr 2 (.t 9), some (74, true), [], []⟩,
    ⟨some 78, .load 1 false (.t 77), some (74, true), [102], []⟩,
    ⟨some 79, .bin .lss (.t 76) (.t 78), some (74, true), [], []⟩,
    ⟨some 80, .pick (.t 74) (.t 79) (.c (.bool false)), none, [], []⟩] false)
  (.gpost [1, 4, 5, 7, 8, 9, 15, 16, 17, 62, 63, 64] [100, 101, 102] (.cond (.t 80) (.region [
    ⟨some 81, .mov (.t 7), none, [], []⟩,
    ⟨some 82, .bin .add (.t 81) (.c (.int .i64 1)), none, [], []⟩,
    ⟨some 7, .mov (.t 82), none, [], []⟩] false)
  .skip)))
  (.seq (.region [
    ⟨some 83, .mov (.t 8), none, [], []⟩,
    ⟨some 84, .mov (.t 4), none, [], []⟩,
    ⟨some 85, .bin .lss (.t 83) (.t 84), none, [], []⟩,
    ⟨some 86, .mov (.t 85), none, [], []⟩,
    ⟨some 87, .faddr 0 (.t 9), some (86, true), [], []⟩,
    ⟨some 88, .load 1 false (.t 87), some (86, true), [102], []⟩,
    ⟨some 89, .faddr 0 (.t 5), some (86, true), [], []⟩,
    ⟨some 90, .load 1 false (.t 89), some (86, true), [101], []⟩,
    ⟨some 91, .bin .eql (.t 88) (.t 90), some (86, true), [], []⟩,
    ⟨some 92, .pick (.t 86) (.t 91) (.c (.bool false)), none, [], []⟩,
    ⟨some 93, .mov (.t 92), none, [], []⟩,
    ⟨some 94, .faddr 1 (.t 9), some (93, true), [], []⟩,
    ⟨some 95, .load 1 false (.t 94), some (93, true), [102], []⟩,
    ⟨some 96, .faddr 2 (.t 5), some (93, true), [], []⟩,
    ⟨some 97, .load 1 false (.t 96), some (93, true), [101], []⟩,
    ⟨some 98, .bin .lss (.t 95) (.t 97), some (93, true), [], []⟩,
    ⟨some 99, .pick (.t 93) (.t 98) (.c (.bool false)), none, [], []⟩,
    ⟨some 100, .mov (.t 99), none, [], []⟩,
    ⟨some 101, .faddr 1 (.t 5), some (100, true), [], []⟩,
    ⟨some 102, .load 1 false (.t 101), some (100, true), [101], []⟩,
    ⟨some 103, .faddr 2 (.t 9), some (100, true), [], []⟩,
    ⟨some 104, .load 1 false (.t 103), some (100, true), [102], []⟩,
    ⟨some 105, .bin .lss (.t 102) (.t 104), some (100, true), [], []⟩,
    ⟨some 106, .pick (.t 100) (.t 105) (.c (.bool false)), none, [], []⟩,
    ⟨some 107, .mov (.t 106), none, [], []⟩,
    ⟨some 108, .faddr 1 (.t 9), some (107, true), [], []⟩,
    ⟨some 109, .load 1 false (.t 108), some (107, true), [102], []⟩,
    ⟨some 110, .faddr 1 (.t 5), some (107, true), [], []⟩,
    ⟨some 111, .load 1 false (.t 110), some (107, true), [101], []⟩,
    ⟨some 112, .bin .leq (.t 109) (.t 111), some (107, true), [], []⟩,
    ⟨some 113, .mov (.t 112), some (107, true), [], []⟩,
    ⟨some 114, .faddr 2 (.t 5), some (113, true), [], []⟩,
    ⟨some 115, .load 1 false (.t 114), some (113, true), [101], []⟩,
    ⟨some 116, .faddr 2 (.t 9), some (113, true), [], []⟩,
    ⟨some 117, .load 1 false (.t 116), some (113, true), [102], []⟩,
    ⟨some 118, .bin .leq (.t 115) (.t 117), some (113, true), [], []⟩,
    ⟨some 119, .pick (.t 113) (.t 118) (.c (.bool false)), some (107, true), [], []⟩,
    ⟨some 120, .un .not (.t 119), some (107, true), [], []⟩,
    ⟨some 121, .pick (.t 107) (.t 120) (.c (.bool false)), none, [], []⟩,
    ⟨some 122, .mov (.t 121), none, [], []⟩,
    ⟨some 123, .faddr 1 (.t 5), some (122, true), [], []⟩,
    ⟨some 124, .load 1 false (.t 123), some (122, true), [101], []⟩,
    ⟨some 125, .faddr 1 (.t 9), some (122, true), [], []⟩,
    ⟨some 126, .load 1 false (.t 125), some (122, true), [102], []⟩,
    ⟨some 127, .bin .leq (.t 124) (.t 126), some (122, true), [], []⟩,
    ⟨some 128, .mov (.t 127), some (122, true), [], []⟩,
    ⟨some 129, .faddr 2 (.t 9), some (128, true), [], []⟩,
    ⟨some 130, .load 1 false (.t 129), some (128, true), [102], []⟩,
    ⟨some 131, .faddr 2 (.t 5), some (128, true), [], []⟩,
    ⟨some 132, .load 1 false (.t 131), some (128, true), [101], []⟩,
    ⟨some 133, .bin .leq (.t 130) (.t 132), some (128, true), [], []⟩,
    ⟨some 134, .pick (.t 128) (.t 133) (.c (.bool false)), some (122, true), [], []⟩,
    ⟨some 135, .un .not (.t 134), some (122, true), [], []⟩,
    ⟨some 136, .pick (.t 122) (.t 135) (.c (.bool false)), none, [], []⟩] false)
  (.cond (.t 136) (.seq (.region [
    ⟨some 137, .mov (.t 4), none, [], []⟩,
    ⟨some 2, .mov (.t 137), none, [], []⟩,
    ⟨some 3, .mov (.c (.int .i64 13)), none, [], []⟩] false)
  (.gmask [2, 3] [] .ret))
  .skip)))))
  (.region [
    ⟨some 138, .bin .add (.t 64) (.c (.int .i64 1)), none, [], []⟩,
    ⟨some 64, .mov (.t 138), none, [], []⟩] false))))
def ic116_0 : IC := .loop [1, 4, 5, 7, 15, 16, 17, 62, 63, 64] [100, 101] ic116_0_b
def ic116_1_b : IC :=
  (.seq (.region [
    ⟨some 18, .bin .lss (.t 17) (.t 16), none, [], []⟩] false)
  (.seq (.cond (.t 18) .skip
  (.gmask [] [] (.exit 0)))
  (.seq (.block 1 (.seq (.region [
    ⟨some 19, .mov (.t 17), none, [], []⟩,
    ⟨some 20, .iaddr 4 (.t 15) (.t 17), none, [], []⟩,
    ⟨some 21, .load 4 true (.t 20), none, [], []⟩,
    ⟨some 5, .alloc 101 [.str ⟨#[]⟩, .int .i64 0, .int .i64 0, .nil], none, [101], []⟩,
    ⟨some 4, .mov (.t 19), none, [], []⟩,
    ⟨none, .store 4 (.t 5) (.t 21), none, [101], []⟩] false)
  (.seq (.block 2 (.seq (.region [
    ⟨some 23, .faddr 0 (.t 5), none, [], []⟩,
    ⟨some 24, .load 1 false (.t 23), none, [101], []⟩,
    ⟨some 25, .call none 138 [.t 24], none, [], []⟩,
    ⟨some 26, .un .not (.t 25), none, [], []⟩,
    ⟨some 22, .mov (.t 26), none, [], []⟩] false)
  (.cond (.t 22) (.seq (.region [
    ⟨some 27, .mov (.t 4), none, [], []⟩,
    ⟨some 2, .mov (.t 27), none, [], []⟩,
    ⟨some 3, .mov (.c (.int .i64 4)), none, [], []⟩] false)
  (.gmask [2, 3] [] .ret))
  (.seq (.region [
    ⟨some 29, .load 7 true (.t 1), none, [100], []⟩,
    ⟨some 30, .faddr 1 (.t 5), none, [], []⟩,
    ⟨some 31, .load 1 false (.t 30), none, [101], []⟩,
    ⟨some 32, .faddr 2 (.t 5), none, [], []⟩,
    ⟨some 33, .load 1 false (.t 32), none, [101], []⟩,
    ⟨some 34, .call none 141 [.t 29, .t 31, .t 33], none, [], []⟩,
    ⟨some 35, .un .not (.t 34), none, [], []⟩,
    ⟨some 28, .mov (.t 35), none, [], []⟩] false)
  (.cond (.t 28) (.seq (.region [
    ⟨some 36, .mov (.t 4), none, [], []⟩,
    ⟨some 2, .mov (.t 36), none, [], []⟩,
    ⟨some 3, .mov (.c (.int .i64 8)), none, [], []⟩] false)
  (.gmask [2, 3] [] .ret))
  .skip)))))
  (.seq (.seq (.region [
    ⟨some 37, .faddr 3 (.t 5), none, [], []⟩,
    ⟨some 38, .load 1 false (.t 37), none, [101], []⟩,
    ⟨some 39, .call none 140 [.t 38], none, [], []⟩,
    ⟨some 6, .mov (.t 39), none, [], []⟩] false)
  (.seq (.region [
    ⟨some 40, .mov (.t 6), none, [], []⟩,
    ⟨some 41, .bin .neq (.t 40) (.c (.int .i64 0)), none, [], []⟩] false)
  (.cond (.t 41) (.seq (.region [
    ⟨some 42, .mov (.t 4), none, [], []⟩,
    ⟨some 43, .mov (.t 6), none, [], []⟩,
    ⟨some 2, .mov (.t 42), none, [], []⟩,
    ⟨some 3, .mov (.t 43), none, [], []⟩] false)
  (.gmask [2, 3] [] .ret))
  .skip)))
  (.seq (.seq (.region [
    ⟨some 44, .mov (.t 4), none, [], []⟩,
    ⟨some 45, .bin .gtr (.t 44) (.c (.int .i64 0)), none, [], [0]⟩,
    ⟨some 46, .mov (.t 45), none, [], [0, 1]⟩,
    ⟨some 47, .faddr 3 (.t 1), some (46, true), [], [0, 1, 2]⟩,
    ⟨some 48, .load 1 false (.t 47), some (46, true), [100], [0, 1, 2, 3]⟩,
    ⟨some 49, .mov (.t 4), some (46, true), [], [0, 1, 2]⟩,
    ⟨some 50, .bin .sub (.t 49) (.c (.int .i64 1)), some (46, true), [], [0, 1, 2, 5]⟩,
    ⟨some 51, .iaddr 4 (.t 48) (.t 50), some (46, true), [], [0, 1, 2, 3, 4, 5, 6]⟩,
    ⟨some 52, .load 4 true (.t 51), some (46, true), [], [0, 1, 2, 3, 4, 5, 6, 7]⟩,
    ⟨some 53, .load 4 true (.t 5), some (46, true), [101], [0, 1, 2]⟩,
    ⟨some 54, .call none 85 [.t 52, .t 53], some (46, true), [], [0, 1, 2, 3, 4, 5, 6, 7, 8, 9]⟩,
    ⟨some 55, .bin .gtr (.t 54) (.c (.int .i64 0)), some (46, true), [], [0, 1, 2, 3, 4, 5, 6, 7, 8, 9, 10]⟩,
    ⟨some 56, .pick (.t 46) (.t 55) (.c (.bool false)), none, [], [0, 1, 2, 3, 4, 5, 6, 7, 8, 9, 10, 11]⟩] true)
  (.cond (.t 56) (.seq (.region [
    ⟨some 57, .mov (.t 4), none, [], []⟩,
    ⟨some 2, .mov (.t 57), none, [], []⟩,
    ⟨some 3, .mov (.c (.int .i64 6)), none, [], []⟩] false)
  (.gmask [2, 3] [] .ret))
  .skip))
  (.seq (.region [
    ⟨some 7, .mov (.c (.int .i64 0)), none, [], []⟩] false)
  (.seq (.seq (.region [
    ⟨some 58, .faddr 3 (.t 1), none, [], []⟩,
    ⟨some 59, .load 1 false (.t 58), none, [100], []⟩,
    ⟨some 60, .mov (.t 4), none, [], []⟩,
    ⟨some 61, .bin .add (.t 60) (.c (.int .i64 1)), none, [], []⟩,
    ⟨some 62, .slice false 4 (.t 59) none (some (.t 61)), none, [], []⟩,
    ⟨some 63, .len false (.t 62), none, [], []⟩,
    ⟨some 64, .mov (.c (.int .i64 0)), none, [], []⟩] false)
  (.block 3 (.gmask [1, 4, 5, 7, 15, 16, 17, 62, 63, 64] [100, 101] ic116_0)))
  (.seq (.region [
    ⟨some 139, .mov (.t 7), none, [], []⟩,
    ⟨some 140, .bin .gtr (.t 139) (.c (.int .i64 40)), none, [], []⟩] false)
  (.cond (.t 140) (.seq (.region [
    ⟨some 141, .mov (.t 4), none, [], []⟩,
    ⟨some 2, .mov (.t 141), none, [], []⟩,
    ⟨some 3, .mov (.c (.int .i64 2)), none, [], []⟩] false)
  (.gmask [2, 3] [] .ret))
  .skip)))))))))
  (.region [
    ⟨some 142, .bin .add (.t 17) (.c (.int .i64 1)), none, [], []⟩,
    ⟨some 17, .mov (.t 142), none, [], []⟩] false))))
def ic116_1 : IC := .loop [1, 15, 16, 17] [100] ic116_1_b
/-- corpora/corporaref06.regions -/
def ic116 : IC :=
  (.seq (.region [
    ⟨some 1, .box 100 7 (.t 0), none, [100], []⟩,
    ⟨some 2, .mov (.c (.int .i64 0)), none, [], []⟩,
    ⟨some 3, .mov (.c (.int .i64 0)), none, [], []⟩] false)
  (.seq (.seq (.region [
    ⟨some 10, .faddr 3 (.t 1), none, [], []⟩,
    ⟨some 11, .load 1 false (.t 10), none, [100], []⟩,
    ⟨some 12, .len false (.t 11), none, [], []⟩,
    ⟨some 13, .bin .gtr (.t 12) (.c (.int .i64 1024)), none, [], []⟩] false)
  (.cond (.t 13) (.seq (.region [
    ⟨some 2, .mov (.c (.int .i64 0)), none, [], []⟩,
    ⟨some 3, .mov (.c (.int .i64 2)), none, [], []⟩] false)
  (.gmask [2, 3] [] .ret))
  .skip))
  (.seq (.seq (.region [
    ⟨some 14, .faddr 3 (.t 1), none, [], []⟩,
    ⟨some 15, .load 1 false (.t 14), none, [100], []⟩,
    ⟨some 16, .len false (.t 15), none, [], []⟩,
    ⟨some 17, .mov (.c (.int .i64 0)), none, [], []⟩] false)
  (.block 0 (.gmask [1, 15, 16, 17] [100] ic116_1)))
  (.seq (.region [
    ⟨some 2, .mov (.c (.int .i64 0)), none, [], []⟩,
    ⟨some 3, .mov (.c (.int .i64 0)), none, [], []⟩] false)
  (.gmask [2, 3] [] .ret)))))
def F116 : IFunc := ⟨1, 143, [.tmp 2, .tmp 3], ic116, none⟩

def ic117_0_b : IC :=
  (.seq (.seq (.region [
    ⟨some 42, .mov (.t 9), none, [], []⟩,
    ⟨some 43, .bin .geq (.t 42) (.c (.int .i64 0)), none, [], []⟩,
    ⟨some 44, .mov (.t 43), none, [], []⟩,
    ⟨some 45, .mov (.t 9), some (44, true), [], []⟩,
    ⟨some 46, .faddr 3 (.t 8), some (44, true), [], []⟩,
    ⟨some 47, .load 1 false (.t 46), some (44, true), [103], []⟩,
    ⟨some 48, .bin .neq (.t 45) (.t 47), some (44, true), [], []⟩,
    ⟨some 49, .pick (.t 44) (.t 48) (.c (.bool false)), none, [], []⟩] false)
  (.cond (.t 49) .skip
  (.gmask [0, 3, 6, 7, 8, 9, 18, 19, 20] [100, 102, 103] (.exit 3))))
  (.block 4 (.region [
    ⟨some 50, .mov (.t 0), none, [], []⟩,
    ⟨some 51, .mov (.t 9), none, [], []⟩,
    ⟨some 52, .iaddr 4 (.t 50) (.t 51), none, [], []⟩,
    ⟨some 53, .faddr 3 (.t 52), none, [], []⟩,
    ⟨some 54, .load 1 false (.t 53), none, [], []⟩,
    ⟨some 9, .mov (.t 54), none, [], []⟩] false)))
def ic117_0 : IC := .loop [0, 3, 6, 7, 8, 9, 18, 19, 20] [100, 102, 103] ic117_0_b
def ic117_1_b : IC :=
  (.seq (.seq (.region [
    ⟨some 94, .mov (.t 11), none, [], []⟩,
    ⟨some 95, .bin .geq (.t 94) (.c (.int .i64 0)), none, [], []⟩] false)
  (.cond (.t 95) .skip
  (.gmask [0, 3, 6, 7, 18, 19, 20] [100, 102] (.exit 5))))
  (.seq (.block 6 (.seq (.region [
    ⟨some 98, .mov (.t 0), none, [], []⟩,
    ⟨some 99, .mov (.t 11), none, [], []⟩,
    ⟨some 100, .iaddr 4 (.t 98) (.t 99), none, [], [0, 1]⟩,
    ⟨some 101, .faddr 3 (.t 100), none, [], [0, 1, 2]⟩,
    ⟨some 102, .load 1 false (.t 101), none, [], [0, 1, 2, 3]⟩,
    ⟨some 103, .faddr 3 (.t 8), none, [], []⟩,
    ⟨some 104, .load 1 false (.t 103), none, [103], [5]⟩,
    ⟨some 105, .bin .eql (.t 102) (.t 104), none, [], [0, 1, 2, 3, 4, 5, 6]⟩] true)
  (.cond (.t 105) (.seq (.seq (.region [
    ⟨some 106, .faddr 1 (.t 8), none, [], []⟩,
    ⟨some 107, .load 1 false (.t 106), none, [103], [0]⟩,
    ⟨some 108, .mov (.t 0), none, [], []⟩,
    ⟨some 109, .mov (.t 11), none, [], []⟩,
    ⟨some 110, .iaddr 4 (.t 108) (.t 109), none, [], [2, 3]⟩,
    ⟨some 111, .faddr 2 (.t 110), none, [], [2, 3, 4]⟩,
    ⟨some 112, .load 1 false (.t 111), none, [], [2, 3, 4, 5]⟩,
    ⟨some 113, .bin .lss (.t 107) (.t 112), none, [], [0, 1, 2, 3, 4, 5, 6]⟩] true)
  (.cond (.t 113) (.seq (.region [
    ⟨some 114, .mov (.t 7), none, [], []⟩,
    ⟨some 4, .mov (.t 114), none, [], []⟩,
    ⟨some 5, .mov (.c (.int .i64 8)), none, [], []⟩] false)
  (.gmask [4, 5] [] .ret))
  .skip))
  (.gmask [0, 3, 6, 7, 18, 19, 20] [100, 102] (.exit 5)))
  .skip)))
  (.region [
    ⟨some 96, .mov (.t 11), none, [], []⟩,
    ⟨some 97, .bin .sub (.t 96) (.c (.int .i64 1)), none, [], []⟩,
    ⟨some 11, .mov (.t 97), none, [], []⟩] false)))
def ic117_1 : IC := .loop [0, 3, 6, 7, 8, 11, 18, 19, 20] [100, 102, 103] ic117_1_b
def ic117_2_b : IC :=
  (.seq (.region [
    ⟨some 21, .bin .lss (.t 20) (.t 19), none, [], []⟩] false)
  (.seq (.cond (.t 21) .skip
  (.gmask [] [] (.exit 0)))
  (.seq (.block 1 (.seq (.region [
    ⟨some 22, .mov (.t 20), none, [], []⟩,
    ⟨some 23, .iaddr 4 (.t 18) (.t 20), none, [], []⟩,
    ⟨some 24, .load 4 true (.t 23), none, [], []⟩,
    ⟨some 8, .alloc 103 [.str ⟨#[]⟩, .int .i64 0, .int .i64 0, .int .i64 0], none, [103], []⟩,
    ⟨some 7, .mov (.t 22), none, [], []⟩,
    ⟨none, .store 4 (.t 8) (.t 24), none, [103], []⟩] false)
  (.seq (.block 2 (.seq (.region [
    ⟨some 26, .faddr 0 (.t 8), none, [], []⟩,
    ⟨some 27, .load 1 false (.t 26), none, [103], []⟩,
    ⟨some 28, .call none 138 [.t 27], none, [], []⟩,
    ⟨some 29, .un .not (.t 28), none, [], []⟩,
    ⟨some 25, .mov (.t 29), none, [], []⟩] false)
  (.cond (.t 25) (.seq (.region [
    ⟨some 30, .mov (.t 7), none, [], []⟩,
    ⟨some 4, .mov (.t 30), none, [], []⟩,
    ⟨some 5, .mov (.c (.int .i64 4)), none, [], []⟩] false)
  (.gmask [4, 5] [] .ret))
  (.seq (.region [
    ⟨some 32, .load 7 true (.t 3), none, [102], []⟩,
    ⟨some 33, .faddr 1 (.t 8), none, [], []⟩,
    ⟨some 34, .load 1 false (.t 33), none, [103], []⟩,
    ⟨some 35, .faddr 2 (.t 8), none, [], []⟩,
    ⟨some 36, .load 1 false (.t 35), none, [103], []⟩,
    ⟨some 37, .call none 141 [.t 32, .t 34, .t 36], none, [], []⟩,
    ⟨some 38, .un .not (.t 37), none, [], []⟩,
    ⟨some 31, .mov (.t 38), none, [], []⟩] false)
  (.cond (.t 31) (.seq (.region [
    ⟨some 39, .mov (.t 7), none, [], []⟩,
    ⟨some 4, .mov (.t 39), none, [], []⟩,
    ⟨some 5, .mov (.c (.int .i64 8)), none, [], []⟩] false)
  (.gmask [4, 5] [] .ret))
  .skip)))))
  (.seq (.region [
    ⟨some 40, .mov (.t 7), none, [], []⟩,
    ⟨some 41, .bin .sub (.t 40) (.c (.int .i64 1)), none, [], []⟩,
    ⟨some 9, .mov (.t 41), none, [], []⟩] false)
  (.seq (.block 3 (.gmask [0, 3, 6, 7, 8, 9, 18, 19, 20] [100, 102, 103] ic117_0))
  (.seq (.seq (.region [
    ⟨some 55, .mov (.t 9), none, [], []⟩,
    ⟨some 56, .bin .lss (.t 55) (.c (.int .i64 0)), none, [], []⟩,
    ⟨some 57, .mov (.t 56), none, [], []⟩,
    ⟨some 58, .faddr 3 (.t 8), some (57, true), [], []⟩,
    ⟨some 59, .load 1 false (.t 58), some (57, true), [103], []⟩,
    ⟨some 60, .bin .neq (.t 59) (.c (.int .i64 (-1))), some (57, true), [], []⟩,
    ⟨some 61, .pick (.t 57) (.t 60) (.c (.bool false)), none, [], []⟩] false)
  (.cond (.t 61) (.seq (.region [
    ⟨some 62, .mov (.t 7), none, [], []⟩,
    ⟨some 4, .mov (.t 62), none, [], []⟩,
    ⟨some 5, .mov (.c (.int .i64 6)), none, [], []⟩] false)
  (.gmask [4, 5] [] .ret))
  .skip))
  (.seq (.seq (.region [
    ⟨some 63, .faddr 3 (.t 8), none, [], []⟩,
    ⟨some 64, .load 1 false (.t 63), none, [103], []⟩,
    ⟨some 65, .bin .geq (.t 64) (.c (.int .i64 0)), none, [], []⟩] false)
  (.gpost [0, 3, 6, 7, 8, 18, 19, 20] [100, 102, 103] (.cond (.t 65) (.seq (.region [
    ⟨some 66, .mov (.t 0), none, [], []⟩,
    ⟨some 67, .faddr 3 (.t 8), none, [], []⟩,
    ⟨some 68, .load 1 false (.t 67), none, [103], []⟩,
    ⟨some 69, .iaddr 4 (.t 66) (.t 68), none, [], []⟩,
    ⟨some 70, .load 4 true (.t 69), none, [], []⟩,
    ⟨some 10, .alloc 104 [.str ⟨#[]⟩, .int .i64 0, .int .i64 0, .int .i64 0], none, [104], []⟩,
    ⟨none, .store 4 (.t 10) (.t 70), none, [104], []⟩] false)
  (.seq (.seq (.region [
    ⟨some 71, .faddr 1 (.t 8), none, [], []⟩,
    ⟨some 72, .load 1 false (.t 71), none, [103], []⟩,
    ⟨some 73, .faddr 1 (.t 10), none, [], []⟩,
    ⟨some 74, .load 1 false (.t 73), none, [104], []⟩,
    ⟨some 75, .bin .lss (.t 72) (.t 74), none, [], []⟩,
    ⟨some 76, .mov (.t 75), none, [], []⟩,
    ⟨some 77, .faddr 2 (.t 8), some (76, false), [], []⟩,
    ⟨some 78, .load 1 false (.t 77), some (76, false), [103], []⟩,
    ⟨some 79, .faddr 2 (.t 10), some (76, false), [], []⟩,
    ⟨some 80, .load 1 false (.t 79), some (76, false), [104], []⟩,
    ⟨some 81, .bin .gtr (.t 78) (.t 80), some (76, false), [], []⟩,
    ⟨some 82, .pick (.t 76) (.c (.bool true)) (.t 81), none, [], []⟩] false)
  (.cond (.t 82) (.seq (.region [
    ⟨some 83, .mov (.t 7), none, [], []⟩,
    ⟨some 4, .mov (.t 83), none, [], []⟩,
    ⟨some 5, .mov (.c (.int .i64 8)), none, [], []⟩] false)
  (.gmask [4, 5] [] .ret))
  .skip))
  (.region [
    ⟨some 84, .mov (.t 6), none, [], []⟩,
    ⟨some 85, .mov (.t 7), none, [], []⟩,
    ⟨some 86, .mov (.t 6), none, [], []⟩,
    ⟨some 87, .faddr 3 (.t 8), none, [], []⟩,
    ⟨some 88, .load 1 false (.t 87), none, [103], []⟩,
    ⟨some 89, .iaddr 1 (.t 86) (.t 88), none, [100], []⟩,
    ⟨some 90, .load 1 false (.t 89), none, [100], []⟩,
    ⟨some 91, .iaddr 1 (.t 84) (.t 85), none, [100], []⟩,
    ⟨none, .store 1 (.t 91) (.t 90), none, [100], []⟩] false)))
  .skip)))
  (.seq (.seq (.region [
    ⟨some 92, .mov (.t 7), none, [], []⟩,
    ⟨some 93, .bin .sub (.t 92) (.c (.int .i64 1)), none, [], []⟩,
    ⟨some 11, .mov (.t 93), none, [], []⟩] false)
  (.block 5 (.gmask [0, 3, 6, 7, 8, 11, 18, 19, 20] [100, 102, 103] ic117_1)))
  (.seq (.region [
    ⟨some 115, .mov (.t 6), none, [], []⟩,
    ⟨some 116, .mov (.t 7), none, [], []⟩,
    ⟨some 117, .iaddr 1 (.t 115) (.t 116), none, [100], []⟩,
    ⟨some 118, .load 1 false (.t 117), none, [100], []⟩,
    ⟨some 119, .bin .add (.t 118) (.c (.int .i64 1)), none, [], []⟩,
    ⟨some 120, .iaddr 1 (.t 115) (.t 116), none, [100], []⟩,
    ⟨none, .store 1 (.t 120) (.t 119), none, [100], []⟩] false)
  (.seq (.region [
    ⟨some 121, .mov (.t 6), none, [], []⟩,
    ⟨some 122, .mov (.t 7), none, [], []⟩,
    ⟨some 123, .iaddr 1 (.t 121) (.t 122), none, [100], []⟩,
    ⟨some 124, .load 1 false (.t 123), none, [100], []⟩,
    ⟨some 125, .bin .gtr (.t 124) (.c (.int .i64 40)), none, [], []⟩] false)
  (.cond (.t 125) (.seq (.region [
    ⟨some 126, .mov (.t 7), none, [], []⟩,
    ⟨some 4, .mov (.t 126), none, [], []⟩,
    ⟨some 5, .mov (.c (.int .i64 2)), none, [], []⟩] false)
  (.gmask [4, 5] [] .ret))
  .skip)))))))))))
  (.region [
    ⟨some 127, .bin .add (.t 20) (.c (.int .i64 1)), none, [], []⟩,
    ⟨some 20, .mov (.t 127), none, [], []⟩] false))))
def ic117_2 : IC := .loop [0, 3, 6, 18, 19, 20] [100, 102] ic117_2_b
/-- corpora/corporaref06.Nodes -/
def ic117 : IC :=
  (.seq (.region [
    ⟨some 3, .box 102 7 (.t 1), none, [102], []⟩,
    ⟨some 4, .mov (.c (.int .i64 0)), none, [], []⟩,
    ⟨some 5, .mov (.c (.int .i64 0)), none, [], []⟩] false)
  (.seq (.seq (.region [
    ⟨some 12, .mov (.t 0), none, [], []⟩,
    ⟨some 13, .len false (.t 12), none, [], []⟩,
    ⟨some 14, .bin .gtr (.t 13) (.c (.int .i64 2048)), none, [], []⟩] false)
  (.cond (.t 14) (.seq (.region [
    ⟨some 4, .mov (.c (.int .i64 0)), none, [], []⟩,
    ⟨some 5, .mov (.c (.int .i64 2)), none, [], []⟩] false)
  (.gmask [4, 5] [] .ret))
  .skip))
  (.seq (.region [
    ⟨some 15, .mov (.t 0), none, [], []⟩,
    ⟨some 16, .len false (.t 15), none, [], []⟩,
    ⟨some 17, .makeSl 100 1 8 (.int .i64 0) (.t 16) (.t 16), none, [100], []⟩,
    ⟨some 6, .mov (.t 17), none, [], []⟩] false)
  (.seq (.seq (.region [
    ⟨some 18, .mov (.t 0), none, [], []⟩,
    ⟨some 19, .len false (.t 18), none, [], []⟩,
    ⟨some 20, .mov (.c (.int .i64 0)), none, [], []⟩] false)
  (.block 0 (.gmask [0, 3, 6, 18, 19, 20] [100, 102] ic117_2)))
  (.seq (.region [
    ⟨some 4, .mov (.c (.int .i64 0)), none, [], []⟩,
    ⟨some 5, .mov (.c (.int .i64 0)), none, [], []⟩] false)
  (.gmask [4, 5] [] .ret))))))
def F117 : IFunc := ⟨2, 128, [.tmp 4, .tmp 5], ic117, none⟩

def ic118_0_b : IC :=
  (.seq (.region [
    ⟨some 39, .bin .lss (.t 38) (.t 37), none, [], []⟩] false)
  (.seq (.cond (.t 39) .skip
  (.gmask [] [] (.exit 0)))
  (.seq (.block 1 (.seq (.region [
    ⟨some 40, .mov (.t 38), none, [], []⟩,
    ⟨some 41, .iaddr 1 (.t 36) (.t 38), none, [], []⟩,
    ⟨some 42, .load 1 false (.t 41), none, [], []⟩,
    ⟨some 5, .mov (.t 40), none, [], []⟩,
    ⟨some 6, .mov (.t 42), none, [], []⟩] false)
  (.seq (.seq (.region [
    ⟨some 43, .mov (.t 6), none, [], []⟩,
    ⟨some 44, .bin .neq (.t 43) (.c (.int .i64 (-1))), none, [], [0]⟩,
    ⟨some 45, .mov (.t 44), none, [], [0, 1]⟩,
    ⟨some 46, .mov (.t 6), some (45, true), [], [0, 1, 2]⟩,
    ⟨some 47, .bin .lss (.t 46) (.c (.int .i64 0)), some (45, true), [], [0, 1, 2, 3]⟩,
    ⟨some 48, .mov (.t 47), some (45, true), [], [0, 1, 2, 3, 4]⟩,
    ⟨some 49, .mov (.t 6), some (48, false), [], [0, 1, 2, 3, 4, 5]⟩,
    ⟨some 50, .mov (.t 4), some (48, false), [], [0, 1, 2, 3, 4, 5]⟩,
    ⟨some 51, .bin .geq (.t 49) (.t 50), some (48, false), [], [0, 1, 2, 3, 4, 5, 6, 7]⟩,
    ⟨some 52, .pick (.t 48) (.c (.bool true)) (.t 51), some (45, true), [], [0, 1, 2, 3, 4, 5, 6, 7, 8]⟩,
    ⟨some 53, .mov (.t 52), some (45, true), [], [0, 1, 2, 3, 4, 5, 6, 7, 8, 9]⟩,
    ⟨some 54, .load 7 true (.t 1), some (53, false), [100], [0, 1, 2, 3, 4, 5, 6, 7, 8, 9, 10]⟩,
    ⟨some 55, .mov (.t 6), some (53, false), [], [0, 1, 2, 3, 4, 5, 6, 7, 8, 9, 10]⟩,
    ⟨some 56, .call none 143 [.t 54, .t 55], some (53, false), [], [0, 1, 2, 3, 4, 5, 6, 7, 8, 9, 10, 11, 12]⟩,
    ⟨some 57, .load 7 true (.t 1), some (53, false), [100], [0, 1, 2, 3, 4, 5, 6, 7, 8, 9, 10]⟩,
    ⟨some 58, .mov (.t 5), some (53, false), [], [0, 1, 2, 3, 4, 5, 6, 7, 8, 9, 10]⟩,
    ⟨some 59, .call none 143 [.t 57, .t 58], some (53, false), [], [0, 1, 2, 3, 4, 5, 6, 7, 8, 9, 10, 11, 12, 13, 14, 15]⟩,
    ⟨some 60, .bin .neq (.t 56) (.t 59), some (53, false), [], [0, 1, 2, 3, 4, 5, 6, 7, 8, 9, 10, 11, 12, 13, 14, 15, 16]⟩,
    ⟨some 61, .pick (.t 53) (.c (.bool true)) (.t 60), some (45, true), [], [0, 1, 2, 3, 4, 5, 6, 7, 8, 9, 10, 11, 12, 13, 14, 15, 16, 17]⟩,
    ⟨some 62, .pick (.t 45) (.t 61) (.c (.bool false)), none, [], [0, 1, 2, 3, 4, 5, 6, 7, 8, 9, 10, 11, 12, 13, 14, 15, 16, 17, 18]⟩] true)
  (.cond (.t 62) (.seq (.region [
    ⟨some 63, .mov (.t 5), none, [], []⟩,
    ⟨some 2, .mov (.t 63), none, [], []⟩,
    ⟨some 3, .mov (.c (.int .i64 8)), none, [], []⟩] false)
  (.gmask [2, 3] [] .ret))
  .skip))
  (.seq (.seq (.region [
    ⟨some 64, .faddr 6 (.t 1), none, [], []⟩,
    ⟨some 65, .load 1 false (.t 64), none, [100], []⟩,
    ⟨some 66, .mov (.t 5), none, [], []⟩,
    ⟨some 67, .iaddr 1 (.t 65) (.t 66), none, [], []⟩,
    ⟨some 68, .load 1 false (.t 67), none, [], []⟩,
    ⟨some 69, .bin .neq (.t 68) (.c (.str ⟨#[]⟩)), none, [], []⟩,
    ⟨some 70, .mov (.t 69), none, [], []⟩,
    ⟨some 71, .faddr 6 (.t 1), some (70, true), [], []⟩,
    ⟨some 72, .load 1 false (.t 71), some (70, true), [100], []⟩,
    ⟨some 73, .mov (.t 5), some (70, true), [], []⟩,
    ⟨some 74, .iaddr 1 (.t 72) (.t 73), some (70, true), [], []⟩,
    ⟨some 75, .load 1 false (.t 74), some (70, true), [], []⟩,
    ⟨some 76, .call none 138 [.t 75], some (70, true), [], []⟩,
    ⟨some 77, .un .not (.t 76), some (70, true), [], []⟩,
    ⟨some 78, .pick (.t 70) (.t 77) (.c (.bool false)), none, [], []⟩] false)
  (.cond (.t 78) (.seq (.region [
    ⟨some 79, .mov (.t 5), none, [], []⟩,
    ⟨some 2, .mov (.t 79), none, [], []⟩,
    ⟨some 3, .mov (.c (.int .i64 4)), none, [], []⟩] false)
  (.gmask [2, 3] [] .ret))
  .skip))
  (.seq (.region [
    ⟨some 80, .faddr 5 (.t 1), none, [], []⟩,
    ⟨some 81, .load 1 false (.t 80), none, [100], []⟩,
    ⟨some 82, .mov (.t 5), none, [], []⟩,
    ⟨some 83, .call none 144 [.t 81, .t 82], none, [], []⟩] false)
  (.cond (.t 83) (.seq (.region [
    ⟨some 84, .mov (.t 5), none, [], []⟩,
    ⟨some 2, .mov (.t 84), none, [], []⟩,
    ⟨some 3, .mov (.c (.int .i64 12)), none, [], []⟩] false)
  (.gmask [2, 3] [] .ret))
  .skip))))))
  (.region [
    ⟨some 85, .bin .add (.t 38) (.c (.int .i64 1)), none, [], []⟩,
    ⟨some 38, .mov (.t 85), none, [], []⟩] false))))
def ic118_0 : IC := .loop [1, 4, 36, 37, 38] [100] ic118_0_b
/-- corpora/corporaref06.heads -/
def ic118 : IC :=
  (.seq (.region [
    ⟨some 1, .box 100 7 (.t 0), none, [100], []⟩,
    ⟨some 2, .mov (.c (.int .i64 0)), none, [], []⟩,
    ⟨some 3, .mov (.c (.int .i64 0)), none, [], []⟩] false)
  (.seq (.region [
    ⟨some 7, .faddr 5 (.t 1), none, [], []⟩,
    ⟨some 8, .load 1 false (.t 7), none, [100], []⟩,
    ⟨some 9, .len false (.t 8), none, [], []⟩,
    ⟨some 4, .mov (.t 9), none, [], []⟩] false)
  (.seq (.seq (.region [
    ⟨some 10, .mov (.t 4), none, [], []⟩,
    ⟨some 11, .faddr 6 (.t 1), none, [], []⟩,
    ⟨some 12, .load 1 false (.t 11), none, [100], []⟩,
    ⟨some 13, .len false (.t 12), none, [], []⟩,
    ⟨some 14, .bin .neq (.t 10) (.t 13), none, [], []⟩,
    ⟨some 15, .mov (.t 14), none, [], []⟩,
    ⟨some 16, .mov (.t 4), some (15, false), [], []⟩,
    ⟨some 17, .bin .neq (.t 16) (.c (.int .i64 0)), some (15, false), [], []⟩,
    ⟨some 18, .mov (.t 17), some (15, false), [], []⟩,
    ⟨some 19, .mov (.t 4), some (18, true), [], []⟩,
    ⟨some 20, .faddr 1 (.t 1), some (18, true), [], []⟩,
    ⟨some 21, .load 1 false (.t 20), some (18, true), [100], []⟩,
    ⟨some 22, .len false (.t 21), some (18, true), [], []⟩,
    ⟨some 23, .bin .neq (.t 19) (.t 22), some (18, true), [], []⟩,
    ⟨some 24, .pick (.t 18) (.t 23) (.c (.bool false)), some (15, false), [], []⟩,
    ⟨some 25, .pick (.t 15) (.c (.bool true)) (.t 24), none, [], []⟩] false)
  (.cond (.t 25) (.seq (.region [
    ⟨some 2, .mov (.c (.int .i64 0)), none, [], []⟩,
    ⟨some 3, .mov (.c (.int .i64 15)), none, [], []⟩] false)
  (.gmask [2, 3] [] .ret))
  .skip))
  (.seq (.seq (.region [
    ⟨some 26, .mov (.t 4), none, [], []⟩,
    ⟨some 27, .bin .gtr (.t 26) (.c (.int .i64 0)), none, [], []⟩,
    ⟨some 28, .mov (.t 27), none, [], []⟩,
    ⟨some 29, .faddr 5 (.t 1), some (28, true), [], []⟩,
    ⟨some 30, .load 1 false (.t 29), some (28, true), [100], []⟩,
    ⟨some 31, .faddr 6 (.t 1), some (28, true), [], []⟩,
    ⟨some 32, .load 1 false (.t 31), some (28, true), [100], []⟩,
    ⟨some 33, .call none 142 [.t 30, .t 32], some (28, true), [], []⟩,
    ⟨some 34, .pick (.t 28) (.t 33) (.c (.bool false)), none, [], []⟩] false)
  (.cond (.t 34) (.seq (.region [
    ⟨some 2, .mov (.c (.int .i64 0)), none, [], []⟩,
    ⟨some 3, .mov (.c (.int .i64 14)), none, [], []⟩] false)
  (.gmask [2, 3] [] .ret))
  .skip))
  (.seq (.seq (.region [
    ⟨some 35, .faddr 5 (.t 1), none, [], []⟩,
    ⟨some 36, .load 1 false (.t 35), none, [100], []⟩,
    ⟨some 37, .len false (.t 36), none, [], []⟩,
    ⟨some 38, .mov (.c (.int .i64 0)), none, [], []⟩] false)
  (.block 0 (.gmask [1, 4, 36, 37, 38] [100] ic118_0)))
  (.seq (.region [
    ⟨some 2, .mov (.c (.int .i64 0)), none, [], []⟩,
    ⟨some 3, .mov (.c (.int .i64 0)), none, [], []⟩] false)
  (.gmask [2, 3] [] .ret)))))))
def F118 : IFunc := ⟨1, 86, [.tmp 2, .tmp 3], ic118, none⟩

/-- slices.ContainsFunc[[]corpora/api.Region,corpora/api.Region] -/
def ic126 : IC :=
  (.seq (.region [
    ⟨some 4, .mov (.c (.bool false)), none, [], []⟩] false)
  (.seq (.region [
    ⟨some 5, .mov (.t 0), none, [], []⟩,
    ⟨some 6, .mov (.t 1), none, [], []⟩,
    ⟨some 7, .call none 156 [.t 5, .t 6], none, [], []⟩,
    ⟨some 8, .bin .geq (.t 7) (.c (.int .i64 0)), none, [], []⟩,
    ⟨some 4, .mov (.t 8), none, [], []⟩] false)
  (.gmask [4] [] .ret)))
def F126 : IFunc := ⟨2, 9, [.tmp 4], ic126, none⟩

/-- (corpora/global.scene).region$1 -/
def ic127 : IC :=
  (.seq (.region [
    ⟨some 2, .box 100 4 (.t 0), none, [100], []⟩,
    ⟨some 3, .mov (.c (.bool false)), none, [], []⟩] false)
  (.seq (.region [
    ⟨some 4, .faddr 0 (.t 2), none, [], []⟩,
    ⟨some 5, .load 1 false (.t 4), none, [100], []⟩,
    ⟨some 6, .faddr 7 (.t 1), none, [], []⟩,
    ⟨some 7, .faddr 3 (.t 6), none, [], []⟩,
    ⟨some 8, .load 1 false (.t 7), none, [], []⟩,
    ⟨some 9, .bin .eql (.t 5) (.t 8), none, [], []⟩,
    ⟨some 10, .mov (.t 9), none, [], []⟩,
    ⟨some 11, .faddr 1 (.t 2), some (10, true), [], []⟩,
    ⟨some 12, .load 1 false (.t 11), some (10, true), [100], []⟩,
    ⟨some 13, .faddr 18 (.t 1), some (10, true), [], []⟩,
    ⟨some 14, .load 1 false (.t 13), some (10, true), [], []⟩,
    ⟨some 15, .faddr 19 (.t 1), some (10, true), [], []⟩,
    ⟨some 16, .load 1 false (.t 15), some (10, true), [], []⟩,
    ⟨some 17, .mm false (.t 14) (.t 16), some (10, true), [], []⟩,
    ⟨some 18, .bin .leq (.t 12) (.t 17), some (10, true), [], []⟩,
    ⟨some 19, .pick (.t 10) (.t 18) (.c (.bool false)), none, [], []⟩,
    ⟨some 20, .mov (.t 19), none, [], []⟩,
    ⟨some 21, .faddr 18 (.t 1), some (20, true), [], []⟩,
    ⟨some 22, .load 1 false (.t 21), some (20, true), [], []⟩,
    ⟨some 23, .faddr 19 (.t 1), some (20, true), [], []⟩,
    ⟨some 24, .load 1 false (.t 23), some (20, true), [], []⟩,
    ⟨some 25, .mm true (.t 22) (.t 24), some (20, true), [], []⟩,
    ⟨some 26, .faddr 2 (.t 2), some (20, true), [], []⟩,
    ⟨some 27, .load 1 false (.t 26), some (20, true), [100], []⟩,
    ⟨some 28, .bin .lss (.t 25) (.t 27), some (20, true), [], []⟩,
    ⟨some 29, .pick (.t 20) (.t 28) (.c (.bool false)), none, [], []⟩,
    ⟨some 3, .mov (.t 29), none, [], []⟩] false)
  (.gmask [3] [] .ret)))
def F127 : IFunc := ⟨2, 30, [.tmp 3], ic127, none⟩

def ic128_0_b : IC :=
  (.seq (.region [
    ⟨some 14, .bin .lss (.t 13) (.t 12), none, [], []⟩] false)
  (.seq (.cond (.t 14) .skip
  (.gmask [] [] (.exit 0)))
  (.seq (.block 1 (.seq (.region [
    ⟨some 15, .mov (.t 13), none, [], []⟩,
    ⟨some 5, .mov (.t 15), none, [], []⟩] false)
  (.seq (.region [
    ⟨some 16, .mov (.t 0), none, [], []⟩,
    ⟨some 17, .mov (.t 5), none, [], []⟩,
    ⟨some 18, .iaddr 1 (.t 16) (.t 17), none, [], [0, 1]⟩,
    ⟨some 19, .load 1 false (.t 18), none, [], [0, 1, 2]⟩,
    ⟨some 20, .mov (.t 1), none, [], []⟩,
    ⟨some 21, .mov (.t 5), none, [], []⟩,
    ⟨some 22, .iaddr 1 (.t 20) (.t 21), none, [], [4, 5]⟩,
    ⟨some 23, .load 1 false (.t 22), none, [], [4, 5, 6]⟩,
    ⟨some 24, .bin .neq (.t 19) (.t 23), none, [], [0, 1, 2, 3, 4, 5, 6, 7]⟩] true)
  (.cond (.t 24) (.seq (.region [
    ⟨some 4, .mov (.c (.bool false)), none, [], []⟩] false)
  (.gmask [4] [] .ret))
  .skip))))
  (.region [
    ⟨some 25, .bin .add (.t 13) (.c (.int .i64 1)), none, [], []⟩,
    ⟨some 13, .mov (.t 25), none, [], []⟩] false))))
def ic128_0 : IC := .loop [0, 1, 12, 13] [] ic128_0_b
/-- slices.Equal[[]string,string] -/
def ic128 : IC :=
  (.seq (.region [
    ⟨some 4, .mov (.c (.bool false)), none, [], []⟩] false)
  (.seq (.seq (.region [
    ⟨some 6, .mov (.t 0), none, [], []⟩,
    ⟨some 7, .len false (.t 6), none, [], []⟩,
    ⟨some 8, .mov (.t 1), none, [], []⟩,
    ⟨some 9, .len false (.t 8), none, [], []⟩,
    ⟨some 10, .bin .neq (.t 7) (.t 9), none, [], []⟩] false)
  (.cond (.t 10) (.seq (.region [
    ⟨some 4, .mov (.c (.bool false)), none, [], []⟩] false)
  (.gmask [4] [] .ret))
  .skip))
  (.seq (.seq (.region [
    ⟨some 11, .mov (.t 0), none, [], []⟩,
    ⟨some 12, .len false (.t 11), none, [], []⟩,
    ⟨some 13, .mov (.c (.int .i64 0)), none, [], []⟩] false)
  (.block 0 (.gmask [0, 1, 12, 13] [] ic128_0)))
  (.seq (.region [
    ⟨some 4, .mov (.c (.bool true)), none, [], []⟩] false)
  (.gmask [4] [] .ret)))))
def F128 : IFunc := ⟨2, 26, [.tmp 4], ic128, none⟩

/-- slices.ContainsFunc[[]corpora/api.Node,corpora/api.Node] -/
def ic129 : IC :=
  (.seq (.region [
    ⟨some 4, .mov (.c (.bool false)), none, [], []⟩] false)
  (.seq (.region [
    ⟨some 5, .mov (.t 0), none, [], []⟩,
    ⟨some 6, .mov (.t 1), none, [], []⟩,
    ⟨some 7, .call none 157 [.t 5, .t 6], none, [], []⟩,
    ⟨some 8, .bin .geq (.t 7) (.c (.int .i64 0)), none, [], []⟩,
    ⟨some 4, .mov (.t 8), none, [], []⟩] false)
  (.gmask [4] [] .ret)))
def F129 : IFunc := ⟨2, 9, [.tmp 4], ic129, none⟩

/-- (corpora/global.scene).node$1 -/
def ic130 : IC :=
  (.seq (.region [
    ⟨some 2, .box 100 4 (.t 0), none, [100], []⟩,
    ⟨some 3, .mov (.c (.bool false)), none, [], []⟩] false)
  (.seq (.region [
    ⟨some 4, .faddr 0 (.t 2), none, [], []⟩,
    ⟨some 5, .load 1 false (.t 4), none, [100], []⟩,
    ⟨some 6, .faddr 7 (.t 1), none, [], []⟩,
    ⟨some 7, .faddr 3 (.t 6), none, [], []⟩,
    ⟨some 8, .load 1 false (.t 7), none, [], []⟩,
    ⟨some 9, .bin .eql (.t 5) (.t 8), none, [], []⟩,
    ⟨some 10, .mov (.t 9), none, [], []⟩,
    ⟨some 11, .faddr 1 (.t 2), some (10, true), [], []⟩,
    ⟨some 12, .load 1 false (.t 11), some (10, true), [100], []⟩,
    ⟨some 13, .faddr 18 (.t 1), some (10, true), [], []⟩,
    ⟨some 14, .load 1 false (.t 13), some (10, true), [], []⟩,
    ⟨some 15, .faddr 19 (.t 1), some (10, true), [], []⟩,
    ⟨some 16, .load 1 false (.t 15), some (10, true), [], []⟩,
    ⟨some 17, .mm false (.t 14) (.t 16), some (10, true), [], []⟩,
    ⟨some 18, .bin .leq (.t 12) (.t 17), some (10, true), [], []⟩,
    ⟨some 19, .pick (.t 10) (.t 18) (.c (.bool false)), none, [], []⟩,
    ⟨some 20, .mov (.t 19), none, [], []⟩,
    ⟨some 21, .faddr 18 (.t 1), some (20, true), [], []⟩,
    ⟨some 22, .load 1 false (.t 21), some (20, true), [], []⟩,
    ⟨some 23, .faddr 19 (.t 1), some (20, true), [], []⟩,
    ⟨some 24, .load 1 false (.t 23), some (20, true), [], []⟩,
    ⟨some 25, .mm true (.t 22) (.t 24), some (20, true), [], []⟩,
    ⟨some 26, .faddr 2 (.t 2), some (20, true), [], []⟩,
    ⟨some 27, .load 1 false (.t 26), some (20, true), [100], []⟩,
    ⟨some 28, .bin .lss (.t 25) (.t 27), some (20, true), [], []⟩,
    ⟨some 29, .pick (.t 20) (.t 28) (.c (.bool false)), none, [], []⟩,
    ⟨some 3, .mov (.t 29), none, [], []⟩] false)
  (.gmask [3] [] .ret)))
def F130 : IFunc := ⟨2, 30, [.tmp 3], ic130, none⟩

def ic138_0_b : IC :=
  (.seq (.seq (.region [
    ⟨some 18, .mov (.t 3), none, [], []⟩,
    ⟨some 19, .mov (.t 0), none, [], []⟩,
    ⟨some 20, .len true (.t 19), none, [], []⟩,
    ⟨some 21, .bin .lss (.t 18) (.t 20), none, [], []⟩] false)
  (.cond (.t 21) .skip
  (.gmask [] [] (.exit 0))))
  (.seq (.block 1 (.seq (.region [
    ⟨some 24, .mov (.t 0), none, [], []⟩,
    ⟨some 25, .mov (.t 3), none, [], []⟩,
    ⟨some 26, .index (.t 24) (.t 25), none, [], []⟩,
    ⟨some 27, .call none 164 [.t 26], none, [], []⟩,
    ⟨some 28, .un .not (.t 27), none, [], []⟩] false)
  (.cond (.t 28) (.seq (.region [
    ⟨some 2, .mov (.c (.bool false)), none, [], []⟩] false)
  (.gmask [2] [] .ret))
  .skip)))
  (.region [
    ⟨some 22, .mov (.t 3), none, [], []⟩,
    ⟨some 23, .bin .add (.t 22) (.c (.int .i64 1)), none, [], []⟩,
    ⟨some 3, .mov (.t 23), none, [], []⟩] false)))
def ic138_0 : IC := .loop [0, 3] [] ic138_0_b
/-- corpora/corporaref04.ValidName -/
def ic138 : IC :=
  (.seq (.region [
    ⟨some 2, .mov (.c (.bool false)), none, [], []⟩] false)
  (.seq (.seq (.region [
    ⟨some 4, .mov (.t 0), none, [], []⟩,
    ⟨some 5, .len true (.t 4), none, [], []⟩,
    ⟨some 6, .bin .lss (.t 5) (.c (.int .i64 1)), none, [], []⟩,
    ⟨some 7, .mov (.t 6), none, [], []⟩,
    ⟨some 8, .mov (.t 0), some (7, false), [], []⟩,
    ⟨some 9, .len true (.t 8), some (7, false), [], []⟩,
    ⟨some 10, .bin .gtr (.t 9) (.c (.int .i64 32)), some (7, false), [], []⟩,
    ⟨some 11, .pick (.t 7) (.c (.bool true)) (.t 10), none, [], []⟩,
    ⟨some 12, .mov (.t 11), none, [], []⟩,
    ⟨some 13, .mov (.t 0), some (12, false), [], []⟩,
    ⟨some 14, .index (.t 13) (.c (.int .i64 0)), some (12, false), [], []⟩,
    ⟨some 15, .call none 163 [.t 14], some (12, false), [], []⟩,
    ⟨some 16, .un .not (.t 15), some (12, false), [], []⟩,
    ⟨some 17, .pick (.t 12) (.c (.bool true)) (.t 16), none, [], []⟩] false)
  (.cond (.t 17) (.seq (.region [
    ⟨some 2, .mov (.c (.bool false)), none, [], []⟩] false)
  (.gmask [2] [] .ret))
  .skip))
  (.seq (.seq (.region [
    ⟨some 3, .mov (.c (.int .i64 1)), none, [], []⟩] false)
  (.block 0 (.gmask [0, 3] [] ic138_0)))
  (.seq (.region [
    ⟨some 2, .mov (.c (.bool true)), none, [], []⟩] false)
  (.gmask [2] [] .ret)))))
def F138 : IFunc := ⟨1, 29, [.tmp 2], ic138, none⟩

/-- corpora/corporaref06.Value -/
def ic139 : IC :=
  (.seq (.region [
    ⟨some 2, .box 100 2 (.t 0), none, [100], []⟩,
    ⟨some 4, .mov (.c (.int .i64 0)), none, [], []⟩] false)
  (.seq (.seq (.region [
    ⟨some 7, .faddr 1 (.t 2), none, [], []⟩,
    ⟨some 8, .load 1 false (.t 7), none, [100], []⟩] false)
  (.cond (.t 8) (.seq (.region [
    ⟨some 10, .mov (.t 1), none, [], []⟩,
    ⟨some 11, .call none 165 [.t 10], none, [], []⟩,
    ⟨some 9, .mov (.t 11), none, [], []⟩,
    ⟨some 12, .extract (.t 9) 0, none, [], []⟩,
    ⟨some 13, .extract (.t 9) 1, none, [], []⟩,
    ⟨some 5, .mov (.t 12), none, [], []⟩,
    ⟨some 6, .mov (.t 13), none, [], []⟩] false)
  (.seq (.region [
    ⟨some 14, .mov (.t 6), none, [], []⟩,
    ⟨some 4, .mov (.t 14), none, [], []⟩] false)
  (.gmask [4] [] .ret)))
  .skip))
  (.seq (.region [
    ⟨some 15, .mov (.t 1), none, [], []⟩,
    ⟨some 16, .call none 166 [.t 15], none, [], []⟩,
    ⟨some 4, .mov (.t 16), none, [], []⟩] false)
  (.gmask [4] [] .ret))))
def F139 : IFunc := ⟨2, 17, [.tmp 4], ic139, none⟩

def ic140_0_b : IC :=
  (.seq (.region [
    ⟨some 12, .bin .lss (.t 11) (.t 10), none, [], []⟩] false)
  (.seq (.cond (.t 12) .skip
  (.gmask [] [] (.exit 0)))
  (.seq (.block 1 (.seq (.region [
    ⟨some 13, .mov (.t 11), none, [], []⟩,
    ⟨some 14, .iaddr 2 (.t 9) (.t 11), none, [], []⟩,
    ⟨some 15, .load 2 true (.t 14), none, [], []⟩,
    ⟨some 4, .alloc 100 [.str ⟨#[]⟩, .str ⟨#[]⟩], none, [100], []⟩,
    ⟨some 3, .mov (.t 13), none, [], []⟩,
    ⟨none, .store 2 (.t 4) (.t 15), none, [100], []⟩] false)
  (.seq (.block 2 (.seq (.region [
    ⟨some 17, .faddr 0 (.t 4), none, [], []⟩,
    ⟨some 18, .load 1 false (.t 17), none, [100], []⟩,
    ⟨some 19, .call none 138 [.t 18], none, [], []⟩,
    ⟨some 20, .un .not (.t 19), none, [], []⟩,
    ⟨some 16, .mov (.t 20), none, [], []⟩] false)
  (.cond (.t 16) (.seq (.region [
    ⟨some 2, .mov (.c (.int .i64 4)), none, [], []⟩] false)
  (.gmask [2] [] .ret))
  (.seq (.region [
    ⟨some 22, .mov (.t 3), none, [], []⟩,
    ⟨some 23, .bin .gtr (.t 22) (.c (.int .i64 0)), none, [], [0]⟩,
    ⟨some 24, .mov (.t 23), none, [], [0, 1]⟩,
    ⟨some 25, .mov (.t 0), some (24, true), [], [0, 1, 2]⟩,
    ⟨some 26, .mov (.t 3), some (24, true), [], [0, 1, 2]⟩,
    ⟨some 27, .bin .sub (.t 26) (.c (.int .i64 1)), some (24, true), [], [0, 1, 2, 4]⟩,
    ⟨some 28, .iaddr 2 (.t 25) (.t 27), some (24, true), [], [0, 1, 2, 3, 4, 5]⟩,
    ⟨some 29, .faddr 0 (.t 28), some (24, true), [], [0, 1, 2, 3, 4, 5, 6]⟩,
    ⟨some 30, .load 1 false (.t 29), some (24, true), [], [0, 1, 2, 3, 4, 5, 6, 7]⟩,
    ⟨some 31, .faddr 0 (.t 4), some (24, true), [], [0, 1, 2]⟩,
    ⟨some 32, .load 1 false (.t 31), some (24, true), [100], [0, 1, 2, 9]⟩,
    ⟨some 33, .bin .geq (.t 30) (.t 32), some (24, true), [], [0, 1, 2, 3, 4, 5, 6, 7, 8, 9, 10]⟩,
    ⟨some 34, .pick (.t 24) (.t 33) (.c (.bool false)), none, [], [0, 1, 2, 3, 4, 5, 6, 7, 8, 9, 10, 11]⟩,
    ⟨some 21, .mov (.t 34), none, [], [0, 1, 2, 3, 4, 5, 6, 7, 8, 9, 10, 11, 12]⟩] true)
  (.cond (.t 21) (.seq (.region [
    ⟨some 2, .mov (.c (.int .i64 6)), none, [], []⟩] false)
  (.gmask [2] [] .ret))
  .skip)))))
  (.seq (.region [
    ⟨some 35, .faddr 1 (.t 4), none, [], []⟩,
    ⟨some 36, .load 1 false (.t 35), none, [100], []⟩,
    ⟨some 37, .call none 166 [.t 36], none, [], []⟩,
    ⟨some 5, .mov (.t 37), none, [], []⟩] false)
  (.seq (.region [
    ⟨some 38, .mov (.t 5), none, [], []⟩,
    ⟨some 39, .bin .neq (.t 38) (.c (.int .i64 0)), none, [], []⟩] false)
  (.cond (.t 39) (.seq (.region [
    ⟨some 40, .mov (.t 5), none, [], []⟩,
    ⟨some 2, .mov (.t 40), none, [], []⟩] false)
  (.gmask [2] [] .ret))
  .skip))))))
  (.region [
    ⟨some 41, .bin .add (.t 11) (.c (.int .i64 1)), none, [], []⟩,
    ⟨some 11, .mov (.t 41), none, [], []⟩] false))))
def ic140_0 : IC := .loop [0, 9, 10, 11] [] ic140_0_b
/-- corpora/corporaref06.pairs -/
def ic140 : IC :=
  (.seq (.region [
    ⟨some 2, .mov (.c (.int .i64 0)), none, [], []⟩] false)
  (.seq (.seq (.region [
    ⟨some 6, .mov (.t 0), none, [], []⟩,
    ⟨some 7, .len false (.t 6), none, [], []⟩,
    ⟨some 8, .bin .gtr (.t 7) (.c (.int .i64 8)), none, [], []⟩] false)
  (.cond (.t 8) (.seq (.region [
    ⟨some 2, .mov (.c (.int .i64 2)), none, [], []⟩] false)
  (.gmask [2] [] .ret))
  .skip))
  (.seq (.seq (.region [
    ⟨some 9, .mov (.t 0), none, [], []⟩,
    ⟨some 10, .len false (.t 9), none, [], []⟩,
    ⟨some 11, .mov (.c (.int .i64 0)), none, [], []⟩] false)
  (.block 0 (.gmask [0, 9, 10, 11] [] ic140_0)))
  (.seq (.region [
    ⟨some 2, .mov (.c (.int .i64 0)), none, [], []⟩] false)
  (.gmask [2] [] .ret)))))
def F140 : IFunc := ⟨1, 42, [.tmp 2], ic140, none⟩

def ic141_0_b : IC :=
  (.seq (.region [
    ⟨some 13, .bin .lss (.t 12) (.t 11), none, [], []⟩] false)
  (.seq (.cond (.t 13) .skip
  (.gmask [] [] (.exit 0)))
  (.seq (.block 1 (.seq (.region [
    ⟨some 14, .iaddr 4 (.t 10) (.t 12), none, [], []⟩,
    ⟨some 15, .load 4 true (.t 14), none, [], []⟩,
    ⟨some 8, .alloc 101 [.str ⟨#[]⟩, .int .i64 0, .int .i64 0, .nil], none, [101], []⟩,
    ⟨none, .store 4 (.t 8) (.t 15), none, [101], []⟩] false)
  (.seq (.region [
    ⟨some 16, .faddr 1 (.t 8), none, [], []⟩,
    ⟨some 17, .load 1 false (.t 16), none, [101], []⟩,
    ⟨some 18, .mov (.t 1), none, [], []⟩,
    ⟨some 19, .bin .leq (.t 17) (.t 18), none, [], []⟩,
    ⟨some 20, .mov (.t 19), none, [], []⟩,
    ⟨some 21, .mov (.t 1), some (20, true), [], []⟩,
    ⟨some 22, .mov (.t 2), some (20, true), [], []⟩,
    ⟨some 23, .bin .lss (.t 21) (.t 22), some (20, true), [], []⟩,
    ⟨some 24, .pick (.t 20) (.t 23) (.c (.bool false)), none, [], []⟩,
    ⟨some 25, .mov (.t 24), none, [], []⟩,
    ⟨some 26, .mov (.t 2), some (25, true), [], []⟩,
    ⟨some 27, .faddr 2 (.t 8), some (25, true), [], []⟩,
    ⟨some 28, .load 1 false (.t 27), some (25, true), [101], []⟩,
    ⟨some 29, .bin .leq (.t 26) (.t 28), some (25, true), [], []⟩,
    ⟨some 30, .pick (.t 25) (.t 29) (.c (.bool false)), none, [], []⟩] false)
  (.cond (.t 30) (.seq (.region [
    ⟨some 6, .mov (.c (.bool true)), none, [], []⟩] false)
  (.gmask [6] [] .ret))
  .skip))))
  (.region [
    ⟨some 31, .bin .add (.t 12) (.c (.int .i64 1)), none, [], []⟩,
    ⟨some 12, .mov (.t 31), none, [], []⟩] false))))
def ic141_0 : IC := .loop [1, 2, 10, 11, 12] [] ic141_0_b
/-- corpora/corporaref06.within -/
def ic141 : IC :=
  (.seq (.region [
    ⟨some 3, .box 100 7 (.t 0), none, [100], []⟩,
    ⟨some 6, .mov (.c (.bool false)), none, [], []⟩] false)
  (.seq (.seq (.region [
    ⟨some 9, .faddr 2 (.t 3), none, [], []⟩,
    ⟨some 10, .load 1 false (.t 9), none, [100], []⟩,
    ⟨some 11, .len false (.t 10), none, [], []⟩,
    ⟨some 12, .mov (.c (.int .i64 0)), none, [], []⟩] false)
  (.block 0 (.gmask [1, 2, 10, 11, 12] [] ic141_0)))
  (.seq (.region [
    ⟨some 6, .mov (.c (.bool false)), none, [], []⟩] false)
  (.gmask [6] [] .ret))))
def F141 : IFunc := ⟨3, 32, [.tmp 6], ic141, none⟩

def ic142_0_b : IC :=
  (.seq (.region [
    ⟨some 9, .bin .lss (.t 8) (.t 7), none, [], []⟩] false)
  (.seq (.cond (.t 9) .skip
  (.gmask [] [] (.exit 0)))
  (.seq (.block 1 (.seq (.region [
    ⟨some 10, .mov (.t 8), none, [], []⟩,
    ⟨some 5, .mov (.t 10), none, [], []⟩] false)
  (.seq (.region [
    ⟨some 11, .mov (.t 0), none, [], []⟩,
    ⟨some 12, .mov (.t 5), none, [], []⟩,
    ⟨some 13, .iaddr 1 (.t 11) (.t 12), none, [], []⟩,
    ⟨some 14, .load 1 false (.t 13), none, [], []⟩,
    ⟨some 15, .bin .neq (.t 14) (.c (.int .i64 (-1))), none, [], []⟩,
    ⟨some 16, .mov (.t 15), none, [], []⟩,
    ⟨some 17, .mov (.t 1), some (16, false), [], []⟩,
    ⟨some 18, .mov (.t 5), some (16, false), [], []⟩,
    ⟨some 19, .iaddr 1 (.t 17) (.t 18), some (16, false), [], []⟩,
    ⟨some 20, .load 1 false (.t 19), some (16, false), [], []⟩,
    ⟨some 21, .bin .neq (.t 20) (.c (.str ⟨#[]⟩)), some (16, false), [], []⟩,
    ⟨some 22, .pick (.t 16) (.c (.bool true)) (.t 21), none, [], []⟩] false)
  (.cond (.t 22) (.seq (.region [
    ⟨some 4, .mov (.c (.bool false)), none, [], []⟩] false)
  (.gmask [4] [] .ret))
  .skip))))
  (.region [
    ⟨some 23, .bin .add (.t 8) (.c (.int .i64 1)), none, [], []⟩,
    ⟨some 8, .mov (.t 23), none, [], []⟩] false))))
def ic142_0 : IC := .loop [0, 1, 7, 8] [] ic142_0_b
/-- corpora/corporaref06.bare -/
def ic142 : IC :=
  (.seq (.region [
    ⟨some 4, .mov (.c (.bool false)), none, [], []⟩] false)
  (.seq (.seq (.region [
    ⟨some 6, .mov (.t 0), none, [], []⟩,
    ⟨some 7, .len false (.t 6), none, [], []⟩,
    ⟨some 8, .mov (.c (.int .i64 0)), none, [], []⟩] false)
  (.block 0 (.gmask [0, 1, 7, 8] [] ic142_0)))
  (.seq (.region [
    ⟨some 4, .mov (.c (.bool true)), none, [], []⟩] false)
  (.gmask [4] [] .ret))))
def F142 : IFunc := ⟨2, 24, [.tmp 4], ic142, none⟩

def ic143_0_b : IC :=
  (.seq (.region [
    ⟨some 11, .bin .lss (.t 10) (.t 9), none, [], []⟩] false)
  (.seq (.cond (.t 11) .skip
  (.gmask [] [] (.exit 0)))
  (.seq (.block 1 (.seq (.region [
    ⟨some 12, .mov (.t 10), none, [], []⟩,
    ⟨some 13, .iaddr 4 (.t 8) (.t 10), none, [], []⟩,
    ⟨some 14, .load 4 true (.t 13), none, [], []⟩,
    ⟨some 6, .alloc 101 [.str ⟨#[]⟩, .int .i64 0, .int .i64 0, .nil], none, [101], []⟩,
    ⟨some 5, .mov (.t 12), none, [], []⟩,
    ⟨none, .store 4 (.t 6) (.t 14), none, [101], []⟩] false)
  (.seq (.region [
    ⟨some 15, .faddr 1 (.t 6), none, [], []⟩,
    ⟨some 16, .load 1 false (.t 15), none, [101], []⟩,
    ⟨some 17, .mov (.t 1), none, [], []⟩,
    ⟨some 18, .bin .leq (.t 16) (.t 17), none, [], []⟩,
    ⟨some 19, .mov (.t 18), none, [], []⟩,
    ⟨some 20, .mov (.t 1), some (19, true), [], []⟩,
    ⟨some 21, .faddr 2 (.t 6), some (19, true), [], []⟩,
    ⟨some 22, .load 1 false (.t 21), some (19, true), [101], []⟩,
    ⟨some 23, .bin .lss (.t 20) (.t 22), some (19, true), [], []⟩,
    ⟨some 24, .pick (.t 19) (.t 23) (.c (.bool false)), none, [], []⟩] false)
  (.cond (.t 24) (.seq (.region [
    ⟨some 25, .mov (.t 5), none, [], []⟩,
    ⟨some 4, .mov (.t 25), none, [], []⟩] false)
  (.gmask [4] [] .ret))
  .skip))))
  (.region [
    ⟨some 26, .bin .add (.t 10) (.c (.int .i64 1)), none, [], []⟩,
    ⟨some 10, .mov (.t 26), none, [], []⟩] false))))
def ic143_0 : IC := .loop [1, 8, 9, 10] [] ic143_0_b
/-- corpora/corporaref06.TextAt -/
def ic143 : IC :=
  (.seq (.region [
    ⟨some 2, .box 100 7 (.t 0), none, [100], []⟩,
    ⟨some 4, .mov (.c (.int .i64 0)), none, [], []⟩] false)
  (.seq (.seq (.region [
    ⟨some 7, .faddr 2 (.t 2), none, [], []⟩,
    ⟨some 8, .load 1 false (.t 7), none, [100], []⟩,
    ⟨some 9, .len false (.t 8), none, [], []⟩,
    ⟨some 10, .mov (.c (.int .i64 0)), none, [], []⟩] false)
  (.block 0 (.gmask [1, 8, 9, 10] [] ic143_0)))
  (.seq (.region [
    ⟨some 4, .mov (.c (.int .i64 (-1))), none, [], []⟩] false)
  (.gmask [4] [] .ret))))
def F143 : IFunc := ⟨2, 27, [.tmp 4], ic143, none⟩

def ic144_0_b : IC :=
  (.seq (.region [
    ⟨some 10, .bin .lss (.t 9) (.t 8), none, [], []⟩] false)
  (.seq (.cond (.t 10) .skip
  (.gmask [] [] (.exit 0)))
  (.seq (.block 1 (.seq (.region [
    ⟨some 11, .mov (.t 0), none, [], []⟩,
    ⟨some 12, .mov (.t 5), none, [], []⟩,
    ⟨some 13, .iaddr 1 (.t 11) (.t 12), none, [], []⟩,
    ⟨some 14, .load 1 false (.t 13), none, [], []⟩,
    ⟨some 5, .mov (.t 14), none, [], []⟩] false)
  (.seq (.seq (.region [
    ⟨some 15, .mov (.t 5), none, [], []⟩,
    ⟨some 16, .bin .lss (.t 15) (.c (.int .i64 0)), none, [], []⟩,
    ⟨some 17, .mov (.t 16), none, [], []⟩,
    ⟨some 18, .mov (.t 5), some (17, false), [], []⟩,
    ⟨some 19, .mov (.t 0), some (17, false), [], []⟩,
    ⟨some 20, .len false (.t 19), some (17, false), [], []⟩,
    ⟨some 21, .bin .geq (.t 18) (.t 20), some (17, false), [], []⟩,
    ⟨some 22, .pick (.t 17) (.c (.bool true)) (.t 21), none, [], []⟩] false)
  (.cond (.t 22) (.seq (.region [
    ⟨some 4, .mov (.c (.bool false)), none, [], []⟩] false)
  (.gmask [4] [] .ret))
  .skip))
  (.seq (.region [
    ⟨some 23, .mov (.t 5), none, [], []⟩,
    ⟨some 24, .mov (.t 1), none, [], []⟩,
    ⟨some 25, .bin .eql (.t 23) (.t 24), none, [], []⟩] false)
  (.cond (.t 25) (.seq (.region [
    ⟨some 4, .mov (.c (.bool true)), none, [], []⟩] false)
  (.gmask [4] [] .ret))
  .skip)))))
  (.region [
    ⟨some 26, .bin .add (.t 9) (.c (.int .i64 1)), none, [], []⟩,
    ⟨some 9, .mov (.t 26), none, [], []⟩] false))))
def ic144_0 : IC := .loop [0, 1, 5, 8, 9] [] ic144_0_b
/-- corpora/corporaref06.cyclic -/
def ic144 : IC :=
  (.seq (.region [
    ⟨some 4, .mov (.c (.bool false)), none, [], []⟩] false)
  (.seq (.region [
    ⟨some 6, .mov (.t 1), none, [], []⟩,
    ⟨some 5, .mov (.t 6), none, [], []⟩] false)
  (.seq (.seq (.region [
    ⟨some 7, .mov (.t 0), none, [], []⟩,
    ⟨some 8, .len false (.t 7), none, [], []⟩,
    ⟨some 9, .mov (.c (.int .i64 0)), none, [], []⟩] false)
  (.block 0 (.gmask [0, 1, 5, 8, 9] [] ic144_0)))
  (.seq (.region [
    ⟨some 4, .mov (.c (.bool false)), none, [], []⟩] false)
  (.gmask [4] [] .ret)))))
def F144 : IFunc := ⟨2, 27, [.tmp 4], ic144, none⟩

def ic156_0_b : IC :=
  (.seq (.region [
    ⟨some 9, .bin .lss (.t 8) (.t 7), none, [], []⟩] false)
  (.seq (.cond (.t 9) .skip
  (.gmask [] [] (.exit 0)))
  (.seq (.block 1 (.seq (.region [
    ⟨some 10, .mov (.t 8), none, [], []⟩,
    ⟨some 5, .mov (.t 10), none, [], []⟩] false)
  (.seq (.region [
    ⟨some 11, .mov (.t 1), none, [], []⟩,
    ⟨some 12, .mov (.t 0), none, [], []⟩,
    ⟨some 13, .mov (.t 5), none, [], []⟩,
    ⟨some 14, .iaddr 4 (.t 12) (.t 13), none, [], []⟩,
    ⟨some 15, .load 4 true (.t 14), none, [], []⟩,
    ⟨some 16, .callv (.t 11) [60, 64, 66, 67, 68, 87, 89, 97, 98, 99, 100, 101, 102, 103, 124, 125, 127, 130, 167] [.t 15], none, [], []⟩] false)
  (.cond (.t 16) (.seq (.region [
    ⟨some 17, .mov (.t 5), none, [], []⟩,
    ⟨some 4, .mov (.t 17), none, [], []⟩] false)
  (.gmask [4] [] .ret))
  .skip))))
  (.region [
    ⟨some 18, .bin .add (.t 8) (.c (.int .i64 1)), none, [], []⟩,
    ⟨some 8, .mov (.t 18), none, [], []⟩] false))))
def ic156_0 : IC := .loop [0, 1, 7, 8] [] ic156_0_b
/-- slices.IndexFunc[[]corpora/api.Region,corpora/api.Region] -/
def ic156 : IC :=
  (.seq (.region [
    ⟨some 4, .mov (.c (.int .i64 0)), none, [], []⟩] false)
  (.seq (.seq (.region [
    ⟨some 6, .mov (.t 0), none, [], []⟩,
    ⟨some 7, .len false (.t 6), none, [], []⟩,
    ⟨some 8, .mov (.c (.int .i64 0)), none, [], []⟩] false)
  (.block 0 (.gmask [0, 1, 7, 8] [] ic156_0)))
  (.seq (.region [
    ⟨some 4, .mov (.c (.int .i64 (-1))), none, [], []⟩] false)
  (.gmask [4] [] .ret))))
def F156 : IFunc := ⟨2, 19, [.tmp 4], ic156, none⟩

def ic157_0_b : IC :=
  (.seq (.region [
    ⟨some 9, .bin .lss (.t 8) (.t 7), none, [], []⟩] false)
  (.seq (.cond (.t 9) .skip
  (.gmask [] [] (.exit 0)))
  (.seq (.block 1 (.seq (.region [
    ⟨some 10, .mov (.t 8), none, [], []⟩,
    ⟨some 5, .mov (.t 10), none, [], []⟩] false)
  (.seq (.region [
    ⟨some 11, .mov (.t 1), none, [], []⟩,
    ⟨some 12, .mov (.t 0), none, [], []⟩,
    ⟨some 13, .mov (.t 5), none, [], []⟩,
    ⟨some 14, .iaddr 4 (.t 12) (.t 13), none, [], []⟩,
    ⟨some 15, .load 4 true (.t 14), none, [], []⟩,
    ⟨some 16, .callv (.t 11) [60, 64, 66, 67, 68, 87, 89, 97, 98, 99, 100, 101, 102, 103, 124, 125, 127, 130, 167] [.t 15], none, [], []⟩] false)
  (.cond (.t 16) (.seq (.region [
    ⟨some 17, .mov (.t 5), none, [], []⟩,
    ⟨some 4, .mov (.t 17), none, [], []⟩] false)
  (.gmask [4] [] .ret))
  .skip))))
  (.region [
    ⟨some 18, .bin .add (.t 8) (.c (.int .i64 1)), none, [], []⟩,
    ⟨some 8, .mov (.t 18), none, [], []⟩] false))))
def ic157_0 : IC := .loop [0, 1, 7, 8] [] ic157_0_b
/-- slices.IndexFunc[[]corpora/api.Node,corpora/api.Node] -/
def ic157 : IC :=
  (.seq (.region [
    ⟨some 4, .mov (.c (.int .i64 0)), none, [], []⟩] false)
  (.seq (.seq (.region [
    ⟨some 6, .mov (.t 0), none, [], []⟩,
    ⟨some 7, .len false (.t 6), none, [], []⟩,
    ⟨some 8, .mov (.c (.int .i64 0)), none, [], []⟩] false)
  (.block 0 (.gmask [0, 1, 7, 8] [] ic157_0)))
  (.seq (.region [
    ⟨some 4, .mov (.c (.int .i64 (-1))), none, [], []⟩] false)
  (.gmask [4] [] .ret))))
def F157 : IFunc := ⟨2, 19, [.tmp 4], ic157, none⟩

def ic160_0_b : IC :=
  (.seq (.region [
    ⟨some 9, .bin .lss (.t 8) (.t 7), none, [], []⟩] false)
  (.seq (.cond (.t 9) .skip
  (.gmask [] [] (.exit 0)))
  (.seq (.block 1 (.seq (.region [
    ⟨some 10, .iaddr 4 (.t 6) (.t 8), none, [], []⟩,
    ⟨some 11, .load 4 true (.t 10), none, [], []⟩,
    ⟨some 4, .alloc 100 [.int .i32 0, .int .i64 0, .int .i64 0, .bool false], none, [100], []⟩,
    ⟨none, .store 4 (.t 4) (.t 11), none, [100], []⟩] false)
  (.seq (.region [
    ⟨some 12, .faddr 3 (.t 4), none, [], []⟩,
    ⟨some 13, .load 1 false (.t 12), none, [100], []⟩,
    ⟨some 14, .un .not (.t 13), none, [], []⟩] false)
  (.cond (.t 14) (.seq (.region [
    ⟨some 2, .mov (.c (.bool false)), none, [], []⟩] false)
  (.gmask [2] [] .ret))
  .skip))))
  (.region [
    ⟨some 15, .bin .add (.t 8) (.c (.int .i64 1)), none, [], []⟩,
    ⟨some 8, .mov (.t 15), none, [], []⟩] false))))
def ic160_0 : IC := .loop [6, 7, 8] [] ic160_0_b
/-- corpora/corporaref01.Valid -/
def ic160 : IC :=
  (.seq (.region [
    ⟨some 2, .mov (.c (.bool false)), none, [], []⟩] false)
  (.seq (.seq (.region [
    ⟨some 5, .mov (.t 0), none, [], []⟩,
    ⟨some 6, .call none 104 [.t 5], none, [], []⟩,
    ⟨some 7, .len false (.t 6), none, [], []⟩,
    ⟨some 8, .mov (.c (.int .i64 0)), none, [], []⟩] false)
  (.block 0 (.gmask [6, 7, 8] [] ic160_0)))
  (.seq (.region [
    ⟨some 2, .mov (.c (.bool true)), none, [], []⟩] false)
  (.gmask [2] [] .ret))))
def F160 : IFunc := ⟨1, 16, [.tmp 2], ic160, none⟩

/-- corpora/corporaref04.First -/
def ic163 : IC :=
  (.seq (.region [
    ⟨some 2, .mov (.c (.bool false)), none, [], []⟩] false)
  (.seq (.region [
    ⟨some 3, .mov (.t 0), none, [], []⟩,
    ⟨some 4, .bin .eql (.t 3) (.c (.int .u8 95)), none, [], []⟩,
    ⟨some 5, .mov (.t 4), none, [], []⟩,
    ⟨some 6, .mov (.t 0), some (5, false), [], []⟩,
    ⟨some 7, .bin .geq (.t 6) (.c (.int .u8 65)), some (5, false), [], []⟩,
    ⟨some 8, .mov (.t 7), some (5, false), [], []⟩,
    ⟨some 9, .mov (.t 0), some (8, true), [], []⟩,
    ⟨some 10, .bin .leq (.t 9) (.c (.int .u8 90)), some (8, true), [], []⟩,
    ⟨some 11, .pick (.t 8) (.t 10) (.c (.bool false)), some (5, false), [], []⟩,
    ⟨some 12, .pick (.t 5) (.c (.bool true)) (.t 11), none, [], []⟩,
    ⟨some 13, .mov (.t 12), none, [], []⟩,
    ⟨some 14, .mov (.t 0), some (13, false), [], []⟩,
    ⟨some 15, .bin .geq (.t 14) (.c (.int .u8 97)), some (13, false), [], []⟩,
    ⟨some 16, .mov (.t 15), some (13, false), [], []⟩,
    ⟨some 17, .mov (.t 0), some (16, true), [], []⟩,
    ⟨some 18, .bin .leq (.t 17) (.c (.int .u8 122)), some (16, true), [], []⟩,
    ⟨some 19, .pick (.t 16) (.t 18) (.c (.bool false)), some (13, false), [], []⟩,
    ⟨some 20, .pick (.t 13) (.c (.bool true)) (.t 19), none, [], []⟩,
    ⟨some 2, .mov (.t 20), none, [], []⟩] false)
  (.gmask [2] [] .ret)))
def F163 : IFunc := ⟨1, 21, [.tmp 2], ic163, none⟩

/-- corpora/corporaref04.Next -/
def ic164 : IC :=
  (.seq (.region [
    ⟨some 2, .mov (.c (.bool false)), none, [], []⟩] false)
  (.seq (.region [
    ⟨some 3, .mov (.t 0), none, [], []⟩,
    ⟨some 4, .call none 163 [.t 3], none, [], []⟩,
    ⟨some 5, .mov (.t 4), none, [], []⟩,
    ⟨some 6, .mov (.t 0), some (5, false), [], []⟩,
    ⟨some 7, .bin .geq (.t 6) (.c (.int .u8 48)), some (5, false), [], []⟩,
    ⟨some 8, .mov (.t 7), some (5, false), [], []⟩,
    ⟨some 9, .mov (.t 0), some (8, true), [], []⟩,
    ⟨some 10, .bin .leq (.t 9) (.c (.int .u8 57)), some (8, true), [], []⟩,
    ⟨some 11, .pick (.t 8) (.t 10) (.c (.bool false)), some (5, false), [], []⟩,
    ⟨some 12, .pick (.t 5) (.c (.bool true)) (.t 11), none, [], []⟩,
    ⟨some 13, .mov (.t 12), none, [], []⟩,
    ⟨some 14, .mov (.t 0), some (13, false), [], []⟩,
    ⟨some 15, .bin .eql (.t 14) (.c (.int .u8 45)), some (13, false), [], []⟩,
    ⟨some 16, .pick (.t 13) (.c (.bool true)) (.t 15), none, [], []⟩,
    ⟨some 2, .mov (.t 16), none, [], []⟩] false)
  (.gmask [2] [] .ret)))
def F164 : IFunc := ⟨1, 17, [.tmp 2], ic164, none⟩

def ic165_0_b : IC :=
  (.seq (.seq (.region [
    ⟨some 31, .mov (.t 8), none, [], []⟩,
    ⟨some 32, .mov (.t 5), none, [], []⟩,
    ⟨some 33, .bin .lss (.t 31) (.t 32), none, [], []⟩] false)
  (.cond (.t 33) .skip
  (.gmask [6] [100] (.exit 0))))
  (.seq (.gpost [0, 5, 6, 7, 8] [100] (.block 1 (.seq (.seq (.region [
    ⟨some 36, .mov (.t 0), none, [], []⟩,
    ⟨some 37, .mov (.t 8), none, [], []⟩,
    ⟨some 38, .index (.t 36) (.t 37), none, [], []⟩,
    ⟨some 39, .bin .neq (.t 38) (.c (.int .u8 124)), none, [], []⟩] false)
  (.cond (.t 39) (.gmask [0, 5, 6, 7, 8] [100] (.exit 1))
  .skip))
  (.seq (.seq (.region [
    ⟨some 40, .mov (.t 8), none, [], []⟩,
    ⟨some 41, .mov (.t 7), none, [], []⟩,
    ⟨some 42, .bin .eql (.t 40) (.t 41), none, [], []⟩] false)
  (.cond (.t 42) (.seq (.region [
    ⟨some 2, .movp (.c (.nil)), none, [], []⟩,
    ⟨some 3, .mov (.c (.int .i64 3)), none, [], []⟩] false)
  (.gmask [2, 3] [100] .ret))
  .skip))
  (.seq (.region [
    ⟨some 43, .mov (.t 6), none, [], []⟩,
    ⟨some 44, .mov (.t 0), none, [], []⟩,
    ⟨some 45, .mov (.t 7), none, [], []⟩,
    ⟨some 46, .mov (.t 8), none, [], []⟩,
    ⟨some 47, .slice true 1 (.t 44) (some (.t 45)) (some (.t 46)), none, [], []⟩,
    ⟨some 48, .buildSl none 1 (.str ⟨#[]⟩) 1 [(0, .t 47)], none, [], []⟩,
    ⟨some 49, .app none 1 16 (.t 43) (.t 48), none, [100], []⟩,
    ⟨some 6, .mov (.t 49), none, [], []⟩] false)
  (.region [
    ⟨some 50, .mov (.t 8), none, [], []⟩,
    ⟨some 51, .bin .add (.t 50) (.c (.int .i64 1)), none, [], []⟩,
    ⟨some 7, .mov (.t 51), none, [], []⟩] false))))))
  (.region [
    ⟨some 34, .mov (.t 8), none, [], []⟩,
    ⟨some 35, .bin .add (.t 34) (.c (.int .i64 1)), none, [], []⟩,
    ⟨some 8, .mov (.t 35), none, [], []⟩] false)))
def ic165_0 : IC := .loop [0, 5, 6, 7, 8] [100] ic165_0_b
def ic165_1_b : IC :=
  (.seq (.seq (.region [
    ⟨some 52, .mov (.t 9), none, [], []⟩,
    ⟨some 53, .mov (.t 6), none, [], []⟩,
    ⟨some 54, .len false (.t 53), none, [100], []⟩,
    ⟨some 55, .bin .lss (.t 52) (.t 54), none, [], []⟩] false)
  (.cond (.t 55) .skip
  (.gmask [6] [100] (.exit 2))))
  (.seq (.block 3 (.seq (.region [
    ⟨some 58, .mov (.t 6), none, [], []⟩,
    ⟨some 59, .mov (.t 9), none, [], []⟩,
    ⟨some 60, .bin .sub (.t 59) (.c (.int .i64 1)), none, [], [1]⟩,
    ⟨some 61, .iaddr 1 (.t 58) (.t 60), none, [100], [0, 1, 2]⟩,
    ⟨some 62, .load 1 false (.t 61), none, [100], [0, 1, 2, 3]⟩,
    ⟨some 63, .mov (.t 6), none, [], []⟩,
    ⟨some 64, .mov (.t 9), none, [], []⟩,
    ⟨some 65, .iaddr 1 (.t 63) (.t 64), none, [100], [5, 6]⟩,
    ⟨some 66, .load 1 false (.t 65), none, [100], [5, 6, 7]⟩,
    ⟨some 67, .bin .geq (.t 62) (.t 66), none, [], [0, 1, 2, 3, 4, 5, 6, 7, 8]⟩] true)
  (.cond (.t 67) (.seq (.region [
    ⟨some 2, .movp (.c (.nil)), none, [], []⟩,
    ⟨some 3, .mov (.c (.int .i64 6)), none, [], []⟩] false)
  (.gmask [2, 3] [100] .ret))
  .skip)))
  (.region [
    ⟨some 56, .mov (.t 9), none, [], []⟩,
    ⟨some 57, .bin .add (.t 56) (.c (.int .i64 1)), none, [], []⟩,
    ⟨some 9, .mov (.t 57), none, [], []⟩] false)))
def ic165_1 : IC := .loop [6, 9] [100] ic165_1_b
/-- corpora/corporaref05.Parse -/
def ic165 : IC :=
  (.seq (.region [
    ⟨some 2, .movp (.c (.nil)), none, [], []⟩,
    ⟨some 3, .mov (.c (.int .i64 0)), none, [], []⟩] false)
  (.seq (.seq (.region [
    ⟨some 10, .mov (.t 0), none, [], []⟩,
    ⟨some 11, .call none 166 [.t 10], none, [], []⟩,
    ⟨some 4, .mov (.t 11), none, [], []⟩] false)
  (.seq (.region [
    ⟨some 12, .mov (.t 4), none, [], []⟩,
    ⟨some 13, .bin .neq (.t 12) (.c (.int .i64 0)), none, [], []⟩] false)
  (.cond (.t 13) (.seq (.region [
    ⟨some 14, .mov (.t 4), none, [], []⟩,
    ⟨some 2, .movp (.c (.nil)), none, [], []⟩,
    ⟨some 3, .mov (.t 14), none, [], []⟩] false)
  (.gmask [2, 3] [100] .ret))
  .skip)))
  (.seq (.region [
    ⟨some 15, .mov (.t 0), none, [], []⟩,
    ⟨some 16, .len true (.t 15), none, [], []⟩,
    ⟨some 5, .mov (.t 16), none, [], []⟩] false)
  (.seq (.seq (.region [
    ⟨some 17, .mov (.t 5), none, [], []⟩,
    ⟨some 18, .bin .eql (.t 17) (.c (.int .i64 0)), none, [], []⟩,
    ⟨some 19, .mov (.t 18), none, [], []⟩,
    ⟨some 20, .mov (.t 0), some (19, false), [], []⟩,
    ⟨some 21, .index (.t 20) (.c (.int .i64 0)), some (19, false), [], []⟩,
    ⟨some 22, .bin .neq (.t 21) (.c (.int .u8 124)), some (19, false), [], []⟩,
    ⟨some 23, .pick (.t 19) (.c (.bool true)) (.t 22), none, [], []⟩,
    ⟨some 24, .mov (.t 23), none, [], []⟩,
    ⟨some 25, .mov (.t 0), some (24, false), [], []⟩,
    ⟨some 26, .mov (.t 5), some (24, false), [], []⟩,
    ⟨some 27, .bin .sub (.t 26) (.c (.int .i64 1)), some (24, false), [], []⟩,
    ⟨some 28, .index (.t 25) (.t 27), some (24, false), [], []⟩,
    ⟨some 29, .bin .neq (.t 28) (.c (.int .u8 124)), some (24, false), [], []⟩,
    ⟨some 30, .pick (.t 24) (.c (.bool true)) (.t 29), none, [], []⟩] false)
  (.cond (.t 30) (.seq (.region [
    ⟨some 2, .movp (.c (.nil)), none, [], []⟩,
    ⟨some 3, .mov (.c (.int .i64 3)), none, [], []⟩] false)
  (.gmask [2, 3] [100] .ret))
  .skip))
  (.seq (.region [
    ⟨some 6, .nilarr 100 1, none, [100], []⟩] false)
  (.seq (.region [
    ⟨some 7, .mov (.c (.int .i64 1)), none, [], []⟩] false)
  (.seq (.seq (.region [
    ⟨some 8, .mov (.c (.int .i64 1)), none, [], []⟩] false)
  (.block 0 (.gmask [0, 5, 6, 7, 8] [100] ic165_0)))
  (.seq (.seq (.region [
    ⟨some 9, .mov (.c (.int .i64 1)), none, [], []⟩] false)
  (.block 2 (.gmask [6, 9] [100] ic165_1)))
  (.seq (.region [
    ⟨some 68, .mov (.t 6), none, [], []⟩,
    ⟨some 2, .mov (.t 68), none, [], []⟩,
    ⟨some 3, .mov (.c (.int .i64 0)), none, [], []⟩] false)
  (.gmask [2, 3] [100] .ret))))))))))
def F165 : IFunc := ⟨1, 69, [.tmp 2, .tmp 3], ic165, none⟩

def ic166_0_b : IC :=
  (.seq (.region [
    ⟨some 15, .bin .lss (.t 14) (.t 13), none, [], []⟩] false)
  (.seq (.cond (.t 15) .skip
  (.gmask [] [] (.exit 0)))
  (.seq (.block 1 (.seq (.region [
    ⟨some 16, .iaddr 1 (.t 12) (.t 14), none, [], []⟩,
    ⟨some 17, .load 1 false (.t 16), none, [], []⟩,
    ⟨some 4, .mov (.t 17), none, [], []⟩] false)
  (.seq (.region [
    ⟨some 18, .mov (.t 4), none, [], []⟩,
    ⟨some 19, .bin .lss (.t 18) (.c (.int .u8 32)), none, [], []⟩,
    ⟨some 20, .mov (.t 19), none, [], []⟩,
    ⟨some 21, .mov (.t 4), some (20, false), [], []⟩,
    ⟨some 22, .bin .eql (.t 21) (.c (.int .u8 127)), some (20, false), [], []⟩,
    ⟨some 23, .pick (.t 20) (.c (.bool true)) (.t 22), none, [], []⟩] false)
  (.cond (.t 23) (.seq (.region [
    ⟨some 2, .mov (.c (.int .i64 14)), none, [], []⟩] false)
  (.gmask [2] [] .ret))
  .skip))))
  (.region [
    ⟨some 24, .bin .add (.t 14) (.c (.int .i64 1)), none, [], []⟩,
    ⟨some 14, .mov (.t 24), none, [], []⟩] false))))
def ic166_0 : IC := .loop [12, 13, 14] [] ic166_0_b
/-- corpora/corporaref04.ValidValue -/
def ic166 : IC :=
  (.seq (.region [
    ⟨some 2, .mov (.c (.int .i64 0)), none, [], []⟩] false)
  (.seq (.seq (.region [
    ⟨some 5, .mov (.t 0), none, [], []⟩,
    ⟨some 6, .len true (.t 5), none, [], []⟩,
    ⟨some 7, .bin .gtr (.t 6) (.c (.int .i64 120)), none, [], []⟩] false)
  (.cond (.t 7) (.seq (.region [
    ⟨some 2, .mov (.c (.int .i64 2)), none, [], []⟩] false)
  (.gmask [2] [] .ret))
  .skip))
  (.seq (.seq (.region [
    ⟨some 8, .mov (.t 0), none, [], []⟩,
    ⟨some 9, .call none 160 [.t 8], none, [], []⟩,
    ⟨some 10, .un .not (.t 9), none, [], []⟩] false)
  (.cond (.t 10) (.seq (.region [
    ⟨some 2, .mov (.c (.int .i64 7)), none, [], []⟩] false)
  (.gmask [2] [] .ret))
  .skip))
  (.seq (.seq (.region [
    ⟨some 11, .mov (.t 0), none, [], []⟩,
    ⟨some 12, .conv .strBytes (.t 11), none, [], []⟩,
    ⟨some 13, .len false (.t 12), none, [], []⟩,
    ⟨some 14, .mov (.c (.int .i64 0)), none, [], []⟩] false)
  (.block 0 (.gmask [12, 13, 14] [] ic166_0)))
  (.seq (.region [
    ⟨some 2, .mov (.c (.int .i64 0)), none, [], []⟩] false)
  (.gmask [2] [] .ret))))))
def F166 : IFunc := ⟨1, 25, [.tmp 2], ic166, none⟩


def fns : List (Nat × IFunc) := [(5, F5), (8, F8), (9, F9), (10, F10), (12, F12), (13, F13), (14, F14), (16, F16), (17, F17), (21, F21), (22, F22), (23, F23), (24, F24), (25, F25), (26, F26), (27, F27), (28, F28), (29, F29), (30, F30), (31, F31), (32, F32), (36, F36), (39, F39), (40, F40), (41, F41), (42, F42), (43, F43), (44, F44), (45, F45), (46, F46), (47, F47), (48, F48), (49, F49), (50, F50), (51, F51), (52, F52), (53, F53), (54, F54), (55, F55), (56, F56), (57, F57), (58, F58), (59, F59), (60, F60), (61, F61), (63, F63), (64, F64), (65, F65), (66, F66), (67, F67), (68, F68), (69, F69), (71, F71), (72, F72), (73, F73), (84, F84), (85, F85), (86, F86), (87, F87), (88, F88), (89, F89), (91, F91), (92, F92), (93, F93), (96, F96), (97, F97), (98, F98), (99, F99), (100, F100), (101, F101), (102, F102), (103, F103), (104, F104), (110, F110), (111, F111), (112, F112), (113, F113), (114, F114), (115, F115), (116, F116), (117, F117), (118, F118), (126, F126), (127, F127), (128, F128), (129, F129), (130, F130), (138, F138), (139, F139), (140, F140), (141, F141), (142, F142), (143, F143), (144, F144), (156, F156), (157, F157), (160, F160), (163, F163), (164, F164), (165, F165), (166, F166)]

def find (f : Nat) : List (Nat × IFunc) → Option IFunc
  | [] => none
  | (g, F) :: l => if f = g then some F else find f l

def prog (f : Nat) : Option IFunc := find f fns

end Go.Ab.Prog
