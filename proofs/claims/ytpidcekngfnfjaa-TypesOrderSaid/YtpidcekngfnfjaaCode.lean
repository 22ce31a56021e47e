/-
  The functions of the seat as the evaluator reads them: printed by a program of this session out of the loaded program.
-/
import Derived.Test.YtpidcekngfnfjaaEvA
set_option maxRecDepth 100000
namespace Go.Ev.Seat
open Go Go.Ev
/-- bezel/bezellaw05.TypesRelate -/
def a3 : AFunc := ⟨.seq (.reg [
      ⟨some 2, .box (.t 0), none⟩,
      ⟨some 3, .box (.t 1), none⟩,
      ⟨some 4, .mv (.c (.bool false)), none⟩])
  (.seq (.prune [2, 3]) (.seq (.reg [
      ⟨some 19, .call false 8 [], none⟩,
      ⟨some 5, .mv (.t 19), none⟩])
  (.seq (.prune [2, 3, 5]) (.seq (.reg [
      ⟨some 20, .lda 6 (.t 2), none⟩,
      ⟨some 21, .call false 9 [(.t 20)], none⟩,
      ⟨some 6, .mv (.t 21), none⟩])
  (.seq (.prune [2, 3, 5, 6]) (.seq (.reg [
      ⟨some 22, .lda 6 (.t 3), none⟩,
      ⟨some 23, .call false 9 [(.t 22)], none⟩,
      ⟨some 7, .mv (.t 23), none⟩])
  (.seq (.prune [2, 3, 5, 6, 7]) (.seq (.seq (.reg [
        ⟨some 24, .mv (.t 6), none⟩,
        ⟨some 25, .un .not (.t 24), none⟩,
        ⟨some 26, .mv (.t 25), none⟩,
        ⟨some 27, .mv (.t 7), some (26, false)⟩,
        ⟨some 28, .un .not (.t 27), some (26, false)⟩,
        ⟨some 29, .pick (.t 26) (.c (.bool true)) (.t 28), none⟩])
    (.seq (.prune [2, 3, 5, 29]) (.cond (.t 29) (.seq (.reg [
          ⟨some 30, .mv (.t 5), none⟩,
          ⟨some 4, .mv (.t 30), none⟩])
      (.ret))
    (.skip))))
  (.seq (.prune [2, 3, 5]) (.seq (.seq (.draw 0 [
        (⟨some 31, .lda 6 (.t 2), none⟩, 0, []),
        (⟨some 32, .call false 10 [(.t 31)], none⟩, 0, [0]),
        (⟨some 33, .lda 6 (.t 2), none⟩, 0, []),
        (⟨some 34, .call false 11 [(.t 33)], none⟩, 0, [0, 1, 2]),
        (⟨some 35, .eqv true .bool (.t 32) (.t 34), none⟩, 0, [0, 1, 2, 3]),
        (⟨some 36, .mv (.t 35), none⟩, 0, [0, 1, 2, 3, 4]),
        (⟨some 37, .lda 6 (.t 2), some (36, false)⟩, 0, [0, 1, 2, 3, 4, 5]),
        (⟨some 38, .lda 6 (.t 3), some (36, false)⟩, 0, [0, 1, 2, 3, 4, 5]),
        (⟨some 39, .call false 12 [(.t 37), (.t 38)], some (36, false)⟩, 0, [0, 1, 2, 3, 4, 5, 6, 7]),
        (⟨some 40, .lda 6 (.t 2), some (36, false)⟩, 0, [0, 1, 2, 3, 4, 5]),
        (⟨some 41, .lda 6 (.t 3), some (36, false)⟩, 0, [0, 1, 2, 3, 4, 5]),
        (⟨some 42, .call false 13 [(.t 40), (.t 41)], some (36, false)⟩, 0, [0, 1, 2, 3, 4, 5, 6, 7, 8, 9, 10]),
        (⟨some 43, .eqv true .bool (.t 39) (.t 42), some (36, false)⟩, 0, [0, 1, 2, 3, 4, 5, 6, 7, 8, 9, 10, 11]),
        (⟨some 44, .pick (.t 36) (.c (.bool true)) (.t 43), none⟩, 0, [0, 1, 2, 3, 4, 5, 6, 7, 8, 9, 10, 11, 12])])
    (.seq (.prune [2, 3, 5, 44]) (.cond (.t 44) (.seq (.reg [
          ⟨some 4, .mv (.c (.bool false)), none⟩])
      (.ret))
    (.skip))))
  (.seq (.prune [2, 3, 5]) (.seq (.seq (.reg [
        ⟨some 45, .lda 6 (.t 2), none⟩,
        ⟨some 46, .call false 11 [(.t 45)], none⟩,
        ⟨some 47, .un .not (.t 46), none⟩,
        ⟨some 48, .mv (.t 47), none⟩,
        ⟨some 49, .lda 6 (.t 3), some (48, false)⟩,
        ⟨some 50, .call false 11 [(.t 49)], some (48, false)⟩,
        ⟨some 51, .un .not (.t 50), some (48, false)⟩,
        ⟨some 52, .pick (.t 48) (.c (.bool true)) (.t 51), none⟩])
    (.seq (.prune [2, 3, 5, 52]) (.cond (.t 52) (.seq (.reg [
          ⟨some 53, .mv (.t 5), none⟩,
          ⟨some 4, .mv (.t 53), none⟩])
      (.ret))
    (.skip))))
  (.seq (.prune [2, 3, 5]) (.seq (.reg [
      ⟨some 55, .lda 6 (.t 2), none⟩,
      ⟨some 56, .call false 14 [(.t 55)], none⟩,
      ⟨some 54, .mv (.t 56), none⟩,
      ⟨some 57, .ext 0 (.t 54), none⟩,
      ⟨some 58, .ext 1 (.t 54), none⟩,
      ⟨some 8, .alloc [.bool false, .int .i64 0, .int .i64 0, .lst [] true, .int .i64 0, .lst [] true], none⟩,
      ⟨none, .sta 6 (.t 8) (.t 57), none⟩,
      ⟨some 9, .mv (.t 58), none⟩])
  (.seq (.prune [2, 3, 5, 8, 9]) (.seq (.reg [
      ⟨some 60, .lda 6 (.t 2), none⟩,
      ⟨some 61, .call false 15 [(.t 60)], none⟩,
      ⟨some 59, .mv (.t 61), none⟩,
      ⟨some 62, .ext 0 (.t 59), none⟩,
      ⟨some 63, .ext 1 (.t 59), none⟩,
      ⟨some 10, .alloc [.bool false, .int .i64 0, .int .i64 0, .lst [] true, .int .i64 0, .lst [] true], none⟩,
      ⟨none, .sta 6 (.t 10) (.t 62), none⟩,
      ⟨some 11, .mv (.t 63), none⟩])
  (.seq (.prune [2, 3, 5, 8, 9, 10, 11]) (.seq (.reg [
      ⟨some 65, .lda 6 (.t 2), none⟩,
      ⟨some 66, .call false 16 [(.t 65)], none⟩,
      ⟨some 64, .mv (.t 66), none⟩,
      ⟨some 67, .ext 0 (.t 64), none⟩,
      ⟨some 68, .ext 1 (.t 64), none⟩,
      ⟨some 12, .alloc [.bool false, .int .i64 0, .int .i64 0, .lst [] true, .int .i64 0, .lst [] true], none⟩,
      ⟨none, .sta 6 (.t 12) (.t 67), none⟩,
      ⟨some 13, .mv (.t 68), none⟩])
  (.seq (.prune [2, 3, 5, 8, 9, 10, 11, 12, 13]) (.seq (.reg [
      ⟨some 70, .lda 6 (.t 2), none⟩,
      ⟨some 71, .call false 17 [(.t 70)], none⟩,
      ⟨some 69, .mv (.t 71), none⟩,
      ⟨some 72, .ext 0 (.t 69), none⟩,
      ⟨some 73, .ext 1 (.t 69), none⟩,
      ⟨some 14, .alloc [.bool false, .int .i64 0, .int .i64 0, .lst [] true, .int .i64 0, .lst [] true], none⟩,
      ⟨none, .sta 6 (.t 14) (.t 72), none⟩,
      ⟨some 15, .mv (.t 73), none⟩])
  (.seq (.prune [2, 3, 5, 8, 9, 10, 11, 12, 13, 14, 15]) (.seq (.reg [
      ⟨some 74, .lda 6 (.t 8), none⟩,
      ⟨some 75, .lda 6 (.t 10), none⟩,
      ⟨some 76, .call false 13 [(.t 74), (.t 75)], none⟩,
      ⟨some 16, .mv (.t 76), none⟩])
  (.seq (.prune [2, 3, 5, 9, 11, 12, 13, 14, 15, 16]) (.seq (.reg [
      ⟨some 77, .lda 6 (.t 12), none⟩,
      ⟨some 78, .lda 6 (.t 14), none⟩,
      ⟨some 79, .call false 13 [(.t 77), (.t 78)], none⟩,
      ⟨some 17, .mv (.t 79), none⟩])
  (.seq (.prune [2, 3, 5, 9, 11, 13, 15, 16, 17]) (.seq (.draw 0 [
      (⟨some 80, .lda 6 (.t 2), none⟩, 0, []),
      (⟨some 81, .lda 6 (.t 3), none⟩, 0, []),
      (⟨some 82, .call false 18 [(.t 80), (.t 81)], none⟩, 0, [0, 1]),
      (⟨some 83, .lda 6 (.t 2), none⟩, 0, []),
      (⟨some 84, .lda 6 (.t 3), none⟩, 0, []),
      (⟨some 85, .call false 19 [(.t 83), (.t 84)], none⟩, 0, [0, 1, 2, 3, 4]),
      (⟨some 86, .call false 13 [(.t 82), (.t 85)], none⟩, 0, [0, 1, 2, 3, 4, 5]),
      (⟨some 18, .mv (.t 86), none⟩, 0, [0, 1, 2, 3, 4, 5, 6])])
  (.seq (.prune [2, 3, 5, 9, 11, 13, 15, 16, 17, 18]) (.seq (.draw 0 [
      (⟨some 87, .mv (.t 5), none⟩, 0, []),
      (⟨some 88, .mv (.t 87), none⟩, 0, [0]),
      (⟨some 89, .lda 6 (.t 2), some (88, true)⟩, 0, [0, 1]),
      (⟨some 90, .lda 6 (.t 3), some (88, true)⟩, 0, [0, 1]),
      (⟨some 91, .call false 20 [(.t 89), (.t 90)], some (88, true)⟩, 0, [0, 1, 2, 3]),
      (⟨some 92, .lda 6 (.t 2), some (88, true)⟩, 0, [0, 1]),
      (⟨some 93, .lda 6 (.t 3), some (88, true)⟩, 0, [0, 1]),
      (⟨some 94, .call false 21 [(.t 92), (.t 93)], some (88, true)⟩, 0, [0, 1, 2, 3, 4, 5, 6]),
      (⟨some 95, .eqv false .bool (.t 91) (.t 94), some (88, true)⟩, 0, [0, 1, 2, 3, 4, 5, 6, 7]),
      (⟨some 96, .pick (.t 88) (.t 95) (.c (.bool false)), none⟩, 0, [0, 1, 2, 3, 4, 5, 6, 7, 8]),
      (⟨some 97, .mv (.t 96), none⟩, 0, [0, 1, 2, 3, 4, 5, 6, 7, 8, 9]),
      (⟨some 98, .mv (.t 18), some (97, true)⟩, 0, [0, 1, 2, 3, 4, 5, 6, 7, 8, 9, 10]),
      (⟨some 99, .pick (.t 97) (.t 98) (.c (.bool false)), none⟩, 0, [0, 1, 2, 3, 4, 5, 6, 7, 8, 9, 10, 11]),
      (⟨some 100, .mv (.t 99), none⟩, 0, [0, 1, 2, 3, 4, 5, 6, 7, 8, 9, 10, 11, 12]),
      (⟨some 101, .mv (.t 16), some (100, true)⟩, 0, [0, 1, 2, 3, 4, 5, 6, 7, 8, 9, 10, 11, 12, 13]),
      (⟨some 102, .pick (.t 100) (.t 101) (.c (.bool false)), none⟩, 0, [0, 1, 2, 3, 4, 5, 6, 7, 8, 9, 10, 11, 12, 13, 14]),
      (⟨some 103, .mv (.t 102), none⟩, 0, [0, 1, 2, 3, 4, 5, 6, 7, 8, 9, 10, 11, 12, 13, 14, 15]),
      (⟨some 104, .mv (.t 17), some (103, true)⟩, 0, [0, 1, 2, 3, 4, 5, 6, 7, 8, 9, 10, 11, 12, 13, 14, 15, 16]),
      (⟨some 105, .pick (.t 103) (.t 104) (.c (.bool false)), none⟩, 0, [0, 1, 2, 3, 4, 5, 6, 7, 8, 9, 10, 11, 12, 13, 14, 15, 16, 17]),
      (⟨some 106, .mv (.t 105), none⟩, 0, [0, 1, 2, 3, 4, 5, 6, 7, 8, 9, 10, 11, 12, 13, 14, 15, 16, 17, 18]),
      (⟨some 107, .mv (.t 9), some (106, true)⟩, 0, [0, 1, 2, 3, 4, 5, 6, 7, 8, 9, 10, 11, 12, 13, 14, 15, 16, 17, 18, 19]),
      (⟨some 108, .mv (.t 11), some (106, true)⟩, 0, [0, 1, 2, 3, 4, 5, 6, 7, 8, 9, 10, 11, 12, 13, 14, 15, 16, 17, 18, 19]),
      (⟨some 109, .eqv false .bool (.t 107) (.t 108), some (106, true)⟩, 0, [0, 1, 2, 3, 4, 5, 6, 7, 8, 9, 10, 11, 12, 13, 14, 15, 16, 17, 18, 19, 20, 21]),
      (⟨some 110, .pick (.t 106) (.t 109) (.c (.bool false)), none⟩, 0, [0, 1, 2, 3, 4, 5, 6, 7, 8, 9, 10, 11, 12, 13, 14, 15, 16, 17, 18, 19, 20, 21, 22]),
      (⟨some 111, .mv (.t 110), none⟩, 0, [0, 1, 2, 3, 4, 5, 6, 7, 8, 9, 10, 11, 12, 13, 14, 15, 16, 17, 18, 19, 20, 21, 22, 23]),
      (⟨some 112, .mv (.t 13), some (111, true)⟩, 0, [0, 1, 2, 3, 4, 5, 6, 7, 8, 9, 10, 11, 12, 13, 14, 15, 16, 17, 18, 19, 20, 21, 22, 23, 24]),
      (⟨some 113, .mv (.t 15), some (111, true)⟩, 0, [0, 1, 2, 3, 4, 5, 6, 7, 8, 9, 10, 11, 12, 13, 14, 15, 16, 17, 18, 19, 20, 21, 22, 23, 24]),
      (⟨some 114, .eqv false .bool (.t 112) (.t 113), some (111, true)⟩, 0, [0, 1, 2, 3, 4, 5, 6, 7, 8, 9, 10, 11, 12, 13, 14, 15, 16, 17, 18, 19, 20, 21, 22, 23, 24, 25, 26]),
      (⟨some 115, .pick (.t 111) (.t 114) (.c (.bool false)), none⟩, 0, [0, 1, 2, 3, 4, 5, 6, 7, 8, 9, 10, 11, 12, 13, 14, 15, 16, 17, 18, 19, 20, 21, 22, 23, 24, 25, 26, 27]),
      (⟨some 4, .mv (.t 115), none⟩, 0, [0, 1, 2, 3, 4, 5, 6, 7, 8, 9, 10, 11, 12, 13, 14, 15, 16, 17, 18, 19, 20, 21, 22, 23, 24, 25, 26, 27, 28])])
  (.ret))))))))))))))))))))))))))))),
  [.t 4]⟩
/-- bezel/bezellaw05.TypesMake -/
def a4 : AFunc := ⟨.seq (.reg [
      ⟨some 4, .box (.t 1), none⟩,
      ⟨some 5, .box (.t 2), none⟩,
      ⟨some 6, .mv (.c (.bool false)), none⟩])
  (.seq (.prune [0, 4, 5]) (.seq (.reg [
      ⟨some 14, .call false 8 [], none⟩,
      ⟨some 7, .mv (.t 14), none⟩])
  (.seq (.prune [0, 4, 5, 7]) (.seq (.reg [
      ⟨some 15, .lda 6 (.t 4), none⟩,
      ⟨some 16, .call false 9 [(.t 15)], none⟩,
      ⟨some 8, .mv (.t 16), none⟩])
  (.seq (.prune [0, 4, 5, 7, 8]) (.seq (.reg [
      ⟨some 17, .lda 6 (.t 5), none⟩,
      ⟨some 18, .call false 9 [(.t 17)], none⟩,
      ⟨some 9, .mv (.t 18), none⟩])
  (.seq (.prune [0, 4, 5, 7, 8, 9]) (.seq (.seq (.reg [
        ⟨some 19, .mv (.t 8), none⟩,
        ⟨some 20, .un .not (.t 19), none⟩,
        ⟨some 21, .mv (.t 20), none⟩,
        ⟨some 22, .mv (.t 9), some (21, false)⟩,
        ⟨some 23, .un .not (.t 22), some (21, false)⟩,
        ⟨some 24, .pick (.t 21) (.c (.bool true)) (.t 23), none⟩,
        ⟨some 25, .mv (.t 24), none⟩,
        ⟨some 26, .mv (.t 0), some (25, false)⟩,
        ⟨some 27, .bin .lss (.t 26) (.c (.int .i64 0)), some (25, false)⟩,
        ⟨some 28, .pick (.t 25) (.c (.bool true)) (.t 27), none⟩])
    (.seq (.prune [0, 4, 5, 7, 28]) (.cond (.t 28) (.seq (.reg [
          ⟨some 29, .mv (.t 7), none⟩,
          ⟨some 6, .mv (.t 29), none⟩])
      (.ret))
    (.skip))))
  (.seq (.prune [0, 4, 5, 7]) (.seq (.reg [
      ⟨some 30, .mv (.t 0), none⟩,
      ⟨some 31, .call false 22 [(.t 30)], none⟩,
      ⟨some 32, .mv (.t 0), none⟩,
      ⟨some 33, .bin .rem (.t 32) (.c (.int .i64 64)), none⟩,
      ⟨some 34, .build [.bool false, .int .i64 0, .int .i64 0, .lst [] true, .int .i64 0, .lst [] true] [(1, 1, (.t 33))], none⟩,
      ⟨some 35, .call false 13 [(.t 31), (.t 34)], none⟩,
      ⟨some 10, .mv (.t 35), none⟩])
  (.seq (.prune [4, 5, 7, 10]) (.seq (.draw 0 [
      (⟨some 36, .lda 6 (.t 4), none⟩, 0, []),
      (⟨some 37, .call false 23 [(.t 36)], none⟩, 0, [0]),
      (⟨some 38, .lda 6 (.t 4), none⟩, 0, []),
      (⟨some 39, .call false 24 [(.t 38)], none⟩, 0, [0, 1, 2]),
      (⟨some 40, .call false 13 [(.t 37), (.t 39)], none⟩, 0, [0, 1, 2, 3]),
      (⟨some 11, .mv (.t 40), none⟩, 0, [0, 1, 2, 3, 4])])
  (.seq (.prune [4, 5, 7, 10, 11]) (.seq (.draw 0 [
      (⟨some 41, .lda 6 (.t 4), none⟩, 0, []),
      (⟨some 42, .lda 6 (.t 5), none⟩, 0, []),
      (⟨some 43, .call false 25 [(.t 41), (.t 42)], none⟩, 0, [0, 1]),
      (⟨some 44, .lda 6 (.t 4), none⟩, 0, []),
      (⟨some 45, .lda 6 (.t 5), none⟩, 0, []),
      (⟨some 46, .bsl 6 (.agg [.bool false, .int .i64 0, .int .i64 0, .lst [] true, .int .i64 0, .lst [] true]) 2 [(0, (.t 44)), (1, (.t 45))], none⟩, 0, [3, 4]),
      (⟨some 47, .build [.bool false, .int .i64 0, .int .i64 0, .lst [] true, .int .i64 0, .lst [] true] [(2, 1, (.c (.int .i64 1))), (3, 1, (.t 46))], none⟩, 0, [3, 4, 5]),
      (⟨some 48, .call false 13 [(.t 43), (.t 47)], none⟩, 0, [0, 1, 2, 3, 4, 5, 6]),
      (⟨some 12, .mv (.t 48), none⟩, 0, [0, 1, 2, 3, 4, 5, 6, 7])])
  (.seq (.prune [4, 5, 7, 10, 11, 12]) (.seq (.draw 0 [
      (⟨some 49, .lda 6 (.t 4), none⟩, 0, []),
      (⟨some 50, .lda 6 (.t 5), none⟩, 0, []),
      (⟨some 51, .lda 6 (.t 5), none⟩, 0, []),
      (⟨some 52, .bsl 6 (.agg [.bool false, .int .i64 0, .int .i64 0, .lst [] true, .int .i64 0, .lst [] true]) 2 [(0, (.t 50)), (1, (.t 51))], none⟩, 0, [1, 2]),
      (⟨some 53, .call false 26 [(.t 49), (.t 52)], none⟩, 0, [0, 1, 2, 3]),
      (⟨some 54, .lda 6 (.t 5), none⟩, 0, []),
      (⟨some 55, .lda 6 (.t 5), none⟩, 0, []),
      (⟨some 56, .lda 6 (.t 4), none⟩, 0, []),
      (⟨some 57, .bsl 6 (.agg [.bool false, .int .i64 0, .int .i64 0, .lst [] true, .int .i64 0, .lst [] true]) 3 [(0, (.t 54)), (1, (.t 55)), (2, (.t 56))], none⟩, 0, [5, 6, 7]),
      (⟨some 58, .build [.bool false, .int .i64 0, .int .i64 0, .lst [] true, .int .i64 0, .lst [] true] [(4, 1, (.c (.int .i64 1))), (5, 1, (.t 57))], none⟩, 0, [5, 6, 7, 8]),
      (⟨some 59, .call false 13 [(.t 53), (.t 58)], none⟩, 0, [0, 1, 2, 3, 4, 5, 6, 7, 8, 9]),
      (⟨some 13, .mv (.t 59), none⟩, 0, [0, 1, 2, 3, 4, 5, 6, 7, 8, 9, 10])])
  (.seq (.prune [7, 10, 11, 12, 13]) (.seq (.reg [
      ⟨some 60, .mv (.t 7), none⟩,
      ⟨some 61, .mv (.t 60), none⟩,
      ⟨some 62, .mv (.t 10), some (61, true)⟩,
      ⟨some 63, .pick (.t 61) (.t 62) (.c (.bool false)), none⟩,
      ⟨some 64, .mv (.t 63), none⟩,
      ⟨some 65, .mv (.t 11), some (64, true)⟩,
      ⟨some 66, .pick (.t 64) (.t 65) (.c (.bool false)), none⟩,
      ⟨some 67, .mv (.t 66), none⟩,
      ⟨some 68, .mv (.t 12), some (67, true)⟩,
      ⟨some 69, .pick (.t 67) (.t 68) (.c (.bool false)), none⟩,
      ⟨some 70, .mv (.t 69), none⟩,
      ⟨some 71, .mv (.t 13), some (70, true)⟩,
      ⟨some 72, .pick (.t 70) (.t 71) (.c (.bool false)), none⟩,
      ⟨some 73, .mv (.t 72), none⟩,
      ⟨some 74, .call false 27 [], some (73, true)⟩,
      ⟨some 75, .build [.bool false, .int .i64 0, .int .i64 0, .lst [] true, .int .i64 0, .lst [] true] [(0, 1, (.c (.bool true)))], some (73, true)⟩,
      ⟨some 76, .call false 13 [(.t 74), (.t 75)], some (73, true)⟩,
      ⟨some 77, .pick (.t 73) (.t 76) (.c (.bool false)), none⟩,
      ⟨some 6, .mv (.t 77), none⟩])
  (.ret))))))))))))))))))),
  [.t 6]⟩
/-- bezel/bezellaw05.TypesOrder -/
def a5 : AFunc := ⟨.seq (.reg [
      ⟨some 3, .box (.t 0), none⟩,
      ⟨some 4, .box (.t 1), none⟩,
      ⟨some 5, .box (.t 2), none⟩,
      ⟨some 6, .mv (.c (.bool false)), none⟩])
  (.seq (.prune [3, 4, 5]) (.seq (.reg [
      ⟨some 11, .call false 8 [], none⟩,
      ⟨some 7, .mv (.t 11), none⟩])
  (.seq (.prune [3, 4, 5, 7]) (.seq (.reg [
      ⟨some 12, .lda 6 (.t 3), none⟩,
      ⟨some 13, .call false 9 [(.t 12)], none⟩,
      ⟨some 8, .mv (.t 13), none⟩])
  (.seq (.prune [3, 4, 5, 7, 8]) (.seq (.reg [
      ⟨some 14, .lda 6 (.t 4), none⟩,
      ⟨some 15, .call false 9 [(.t 14)], none⟩,
      ⟨some 9, .mv (.t 15), none⟩])
  (.seq (.prune [3, 4, 5, 7, 8, 9]) (.seq (.reg [
      ⟨some 16, .lda 6 (.t 5), none⟩,
      ⟨some 17, .call false 9 [(.t 16)], none⟩,
      ⟨some 10, .mv (.t 17), none⟩])
  (.seq (.prune [3, 4, 5, 7, 8, 9, 10]) (.seq (.seq (.reg [
        ⟨some 18, .mv (.t 8), none⟩,
        ⟨some 19, .un .not (.t 18), none⟩,
        ⟨some 20, .mv (.t 19), none⟩,
        ⟨some 21, .mv (.t 9), some (20, false)⟩,
        ⟨some 22, .un .not (.t 21), some (20, false)⟩,
        ⟨some 23, .pick (.t 20) (.c (.bool true)) (.t 22), none⟩,
        ⟨some 24, .mv (.t 23), none⟩,
        ⟨some 25, .mv (.t 10), some (24, false)⟩,
        ⟨some 26, .un .not (.t 25), some (24, false)⟩,
        ⟨some 27, .pick (.t 24) (.c (.bool true)) (.t 26), none⟩,
        ⟨some 28, .mv (.t 27), none⟩,
        ⟨some 29, .lda 6 (.t 3), some (28, false)⟩,
        ⟨some 30, .call false 10 [(.t 29)], some (28, false)⟩,
        ⟨some 31, .un .not (.t 30), some (28, false)⟩,
        ⟨some 32, .pick (.t 28) (.c (.bool true)) (.t 31), none⟩,
        ⟨some 33, .mv (.t 32), none⟩,
        ⟨some 34, .lda 6 (.t 4), some (33, false)⟩,
        ⟨some 35, .call false 10 [(.t 34)], some (33, false)⟩,
        ⟨some 36, .un .not (.t 35), some (33, false)⟩,
        ⟨some 37, .pick (.t 33) (.c (.bool true)) (.t 36), none⟩,
        ⟨some 38, .mv (.t 37), none⟩,
        ⟨some 39, .lda 6 (.t 5), some (38, false)⟩,
        ⟨some 40, .call false 10 [(.t 39)], some (38, false)⟩,
        ⟨some 41, .un .not (.t 40), some (38, false)⟩,
        ⟨some 42, .pick (.t 38) (.c (.bool true)) (.t 41), none⟩])
    (.seq (.prune [3, 4, 5, 7, 42]) (.cond (.t 42) (.seq (.reg [
          ⟨some 43, .mv (.t 7), none⟩,
          ⟨some 6, .mv (.t 43), none⟩])
      (.ret))
    (.skip))))
  (.seq (.prune [3, 4, 5, 7]) (.seq (.seq (.draw 0 [
        (⟨some 44, .lda 6 (.t 3), none⟩, 0, []),
        (⟨some 45, .lda 6 (.t 3), none⟩, 0, []),
        (⟨some 46, .call false 20 [(.t 44), (.t 45)], none⟩, 0, [0, 1]),
        (⟨some 47, .un .not (.t 46), none⟩, 0, [0, 1, 2]),
        (⟨some 48, .mv (.t 47), none⟩, 0, [0, 1, 2, 3]),
        (⟨some 49, .lda 6 (.t 3), some (48, false)⟩, 0, [0, 1, 2, 3, 4]),
        (⟨some 50, .call false 27 [], some (48, false)⟩, 0, [0, 1, 2, 3, 4]),
        (⟨some 51, .call false 20 [(.t 49), (.t 50)], some (48, false)⟩, 0, [0, 1, 2, 3, 4, 5, 6]),
        (⟨some 52, .un .not (.t 51), some (48, false)⟩, 0, [0, 1, 2, 3, 4, 5, 6, 7]),
        (⟨some 53, .pick (.t 48) (.c (.bool true)) (.t 52), none⟩, 0, [0, 1, 2, 3, 4, 5, 6, 7, 8]),
        (⟨some 54, .mv (.t 53), none⟩, 0, [0, 1, 2, 3, 4, 5, 6, 7, 8, 9]),
        (⟨some 55, .build [.bool false, .int .i64 0, .int .i64 0, .lst [] true, .int .i64 0, .lst [] true] [], some (54, false)⟩, 0, [0, 1, 2, 3, 4, 5, 6, 7, 8, 9, 10]),
        (⟨some 56, .lda 6 (.t 3), some (54, false)⟩, 0, [0, 1, 2, 3, 4, 5, 6, 7, 8, 9, 10]),
        (⟨some 57, .call false 20 [(.t 55), (.t 56)], some (54, false)⟩, 0, [0, 1, 2, 3, 4, 5, 6, 7, 8, 9, 10, 11, 12]),
        (⟨some 58, .un .not (.t 57), some (54, false)⟩, 0, [0, 1, 2, 3, 4, 5, 6, 7, 8, 9, 10, 11, 12, 13]),
        (⟨some 59, .pick (.t 54) (.c (.bool true)) (.t 58), none⟩, 0, [0, 1, 2, 3, 4, 5, 6, 7, 8, 9, 10, 11, 12, 13, 14])])
    (.seq (.prune [3, 4, 5, 7, 59]) (.cond (.t 59) (.seq (.reg [
          ⟨some 6, .mv (.c (.bool false)), none⟩])
      (.ret))
    (.skip))))
  (.seq (.prune [3, 4, 5, 7]) (.seq (.reg [
      ⟨some 60, .mv (.t 7), none⟩,
      ⟨some 61, .mv (.t 60), none⟩,
      ⟨some 62, .lda 6 (.t 3), some (61, true)⟩,
      ⟨some 63, .lda 6 (.t 4), some (61, true)⟩,
      ⟨some 64, .call false 20 [(.t 62), (.t 63)], some (61, true)⟩,
      ⟨some 65, .un .not (.t 64), some (61, true)⟩,
      ⟨some 66, .mv (.t 65), some (61, true)⟩,
      ⟨some 67, .lda 6 (.t 4), some (66, false)⟩,
      ⟨some 68, .lda 6 (.t 5), some (66, false)⟩,
      ⟨some 69, .call false 20 [(.t 67), (.t 68)], some (66, false)⟩,
      ⟨some 70, .un .not (.t 69), some (66, false)⟩,
      ⟨some 71, .pick (.t 66) (.c (.bool true)) (.t 70), some (61, true)⟩,
      ⟨some 72, .mv (.t 71), some (61, true)⟩,
      ⟨some 73, .lda 6 (.t 3), some (72, false)⟩,
      ⟨some 74, .lda 6 (.t 5), some (72, false)⟩,
      ⟨some 75, .call false 20 [(.t 73), (.t 74)], some (72, false)⟩,
      ⟨some 76, .pick (.t 72) (.c (.bool true)) (.t 75), some (61, true)⟩,
      ⟨some 77, .pick (.t 61) (.t 76) (.c (.bool false)), none⟩,
      ⟨some 6, .mv (.t 77), none⟩])
  (.ret))))))))))))))),
  [.t 6]⟩
/-- bezel/bezellaw05.TypesJoin -/
def a6 : AFunc := ⟨.seq (.reg [
      ⟨some 2, .box (.t 0), none⟩,
      ⟨some 3, .box (.t 1), none⟩,
      ⟨some 4, .mv (.c (.bool false)), none⟩])
  (.seq (.prune [2, 3]) (.seq (.reg [
      ⟨some 11, .call false 8 [], none⟩,
      ⟨some 5, .mv (.t 11), none⟩])
  (.seq (.prune [2, 3, 5]) (.seq (.reg [
      ⟨some 12, .lda 6 (.t 2), none⟩,
      ⟨some 13, .call false 9 [(.t 12)], none⟩,
      ⟨some 6, .mv (.t 13), none⟩])
  (.seq (.prune [2, 3, 5, 6]) (.seq (.reg [
      ⟨some 14, .lda 6 (.t 3), none⟩,
      ⟨some 15, .call false 9 [(.t 14)], none⟩,
      ⟨some 7, .mv (.t 15), none⟩])
  (.seq (.prune [2, 3, 5, 6, 7]) (.seq (.seq (.reg [
        ⟨some 16, .mv (.t 6), none⟩,
        ⟨some 17, .un .not (.t 16), none⟩,
        ⟨some 18, .mv (.t 17), none⟩,
        ⟨some 19, .mv (.t 7), some (18, false)⟩,
        ⟨some 20, .un .not (.t 19), some (18, false)⟩,
        ⟨some 21, .pick (.t 18) (.c (.bool true)) (.t 20), none⟩,
        ⟨some 22, .mv (.t 21), none⟩,
        ⟨some 23, .lda 6 (.t 2), some (22, false)⟩,
        ⟨some 24, .call false 10 [(.t 23)], some (22, false)⟩,
        ⟨some 25, .un .not (.t 24), some (22, false)⟩,
        ⟨some 26, .pick (.t 22) (.c (.bool true)) (.t 25), none⟩,
        ⟨some 27, .mv (.t 26), none⟩,
        ⟨some 28, .lda 6 (.t 3), some (27, false)⟩,
        ⟨some 29, .call false 10 [(.t 28)], some (27, false)⟩,
        ⟨some 30, .un .not (.t 29), some (27, false)⟩,
        ⟨some 31, .pick (.t 27) (.c (.bool true)) (.t 30), none⟩])
    (.seq (.prune [2, 3, 5, 31]) (.cond (.t 31) (.seq (.reg [
          ⟨some 32, .mv (.t 5), none⟩,
          ⟨some 4, .mv (.t 32), none⟩])
      (.ret))
    (.skip))))
  (.seq (.prune [2, 3, 5]) (.seq (.reg [
      ⟨some 33, .lda 6 (.t 2), none⟩,
      ⟨some 34, .lda 6 (.t 3), none⟩,
      ⟨some 35, .call false 18 [(.t 33), (.t 34)], none⟩,
      ⟨some 8, .alloc [.bool false, .int .i64 0, .int .i64 0, .lst [] true, .int .i64 0, .lst [] true], none⟩,
      ⟨none, .sta 6 (.t 8) (.t 35), none⟩])
  (.seq (.prune [2, 3, 5, 8]) (.seq (.reg [
      ⟨some 36, .lda 6 (.t 3), none⟩,
      ⟨some 37, .lda 6 (.t 2), none⟩,
      ⟨some 38, .call false 18 [(.t 36), (.t 37)], none⟩,
      ⟨some 9, .alloc [.bool false, .int .i64 0, .int .i64 0, .lst [] true, .int .i64 0, .lst [] true], none⟩,
      ⟨none, .sta 6 (.t 9) (.t 38), none⟩])
  (.seq (.prune [2, 3, 5, 8, 9]) (.seq (.seq (.reg [
        ⟨some 39, .lda 6 (.t 8), none⟩,
        ⟨some 40, .call false 11 [(.t 39)], none⟩,
        ⟨some 41, .un .not (.t 40), none⟩,
        ⟨some 42, .mv (.t 41), none⟩,
        ⟨some 43, .lda 6 (.t 9), some (42, false)⟩,
        ⟨some 44, .call false 11 [(.t 43)], some (42, false)⟩,
        ⟨some 45, .un .not (.t 44), some (42, false)⟩,
        ⟨some 46, .pick (.t 42) (.c (.bool true)) (.t 45), none⟩])
    (.seq (.prune [2, 3, 5, 8, 9, 46]) (.cond (.t 46) (.seq (.reg [
          ⟨some 47, .mv (.t 5), none⟩,
          ⟨some 4, .mv (.t 47), none⟩])
      (.ret))
    (.skip))))
  (.seq (.prune [2, 3, 5, 8, 9]) (.seq (.draw 0 [
      (⟨some 48, .lda 6 (.t 2), none⟩, 0, []),
      (⟨some 49, .lda 6 (.t 2), none⟩, 0, []),
      (⟨some 50, .call false 18 [(.t 48), (.t 49)], none⟩, 0, [0, 1]),
      (⟨some 51, .lda 6 (.t 2), none⟩, 0, []),
      (⟨some 52, .call false 13 [(.t 50), (.t 51)], none⟩, 0, [0, 1, 2, 3]),
      (⟨some 10, .mv (.t 52), none⟩, 0, [0, 1, 2, 3, 4])])
  (.seq (.prune [2, 3, 5, 8, 9, 10]) (.seq (.draw 0 [
      (⟨some 53, .mv (.t 5), none⟩, 0, []),
      (⟨some 54, .mv (.t 53), none⟩, 0, [0]),
      (⟨some 55, .lda 6 (.t 2), some (54, true)⟩, 0, [0, 1]),
      (⟨some 56, .lda 6 (.t 8), some (54, true)⟩, 0, [0, 1]),
      (⟨some 57, .call false 20 [(.t 55), (.t 56)], some (54, true)⟩, 0, [0, 1, 2, 3]),
      (⟨some 58, .pick (.t 54) (.t 57) (.c (.bool false)), none⟩, 0, [0, 1, 2, 3, 4]),
      (⟨some 59, .mv (.t 58), none⟩, 0, [0, 1, 2, 3, 4, 5]),
      (⟨some 60, .lda 6 (.t 3), some (59, true)⟩, 0, [0, 1, 2, 3, 4, 5, 6]),
      (⟨some 61, .lda 6 (.t 8), some (59, true)⟩, 0, [0, 1, 2, 3, 4, 5, 6]),
      (⟨some 62, .call false 20 [(.t 60), (.t 61)], some (59, true)⟩, 0, [0, 1, 2, 3, 4, 5, 6, 7, 8]),
      (⟨some 63, .pick (.t 59) (.t 62) (.c (.bool false)), none⟩, 0, [0, 1, 2, 3, 4, 5, 6, 7, 8, 9]),
      (⟨some 64, .mv (.t 63), none⟩, 0, [0, 1, 2, 3, 4, 5, 6, 7, 8, 9, 10]),
      (⟨some 65, .lda 6 (.t 8), some (64, true)⟩, 0, [0, 1, 2, 3, 4, 5, 6, 7, 8, 9, 10, 11]),
      (⟨some 66, .lda 6 (.t 9), some (64, true)⟩, 0, [0, 1, 2, 3, 4, 5, 6, 7, 8, 9, 10, 11]),
      (⟨some 67, .call false 20 [(.t 65), (.t 66)], some (64, true)⟩, 0, [0, 1, 2, 3, 4, 5, 6, 7, 8, 9, 10, 11, 12, 13]),
      (⟨some 68, .pick (.t 64) (.t 67) (.c (.bool false)), none⟩, 0, [0, 1, 2, 3, 4, 5, 6, 7, 8, 9, 10, 11, 12, 13, 14]),
      (⟨some 69, .mv (.t 68), none⟩, 0, [0, 1, 2, 3, 4, 5, 6, 7, 8, 9, 10, 11, 12, 13, 14, 15]),
      (⟨some 70, .lda 6 (.t 9), some (69, true)⟩, 0, [0, 1, 2, 3, 4, 5, 6, 7, 8, 9, 10, 11, 12, 13, 14, 15, 16]),
      (⟨some 71, .lda 6 (.t 8), some (69, true)⟩, 0, [0, 1, 2, 3, 4, 5, 6, 7, 8, 9, 10, 11, 12, 13, 14, 15, 16]),
      (⟨some 72, .call false 20 [(.t 70), (.t 71)], some (69, true)⟩, 0, [0, 1, 2, 3, 4, 5, 6, 7, 8, 9, 10, 11, 12, 13, 14, 15, 16, 17, 18]),
      (⟨some 73, .pick (.t 69) (.t 72) (.c (.bool false)), none⟩, 0, [0, 1, 2, 3, 4, 5, 6, 7, 8, 9, 10, 11, 12, 13, 14, 15, 16, 17, 18, 19]),
      (⟨some 74, .mv (.t 73), none⟩, 0, [0, 1, 2, 3, 4, 5, 6, 7, 8, 9, 10, 11, 12, 13, 14, 15, 16, 17, 18, 19, 20]),
      (⟨some 75, .mv (.t 10), some (74, true)⟩, 0, [0, 1, 2, 3, 4, 5, 6, 7, 8, 9, 10, 11, 12, 13, 14, 15, 16, 17, 18, 19, 20, 21]),
      (⟨some 76, .pick (.t 74) (.t 75) (.c (.bool false)), none⟩, 0, [0, 1, 2, 3, 4, 5, 6, 7, 8, 9, 10, 11, 12, 13, 14, 15, 16, 17, 18, 19, 20, 21, 22]),
      (⟨some 77, .mv (.t 76), none⟩, 0, [0, 1, 2, 3, 4, 5, 6, 7, 8, 9, 10, 11, 12, 13, 14, 15, 16, 17, 18, 19, 20, 21, 22, 23]),
      (⟨some 78, .lda 6 (.t 2), some (77, true)⟩, 0, [0, 1, 2, 3, 4, 5, 6, 7, 8, 9, 10, 11, 12, 13, 14, 15, 16, 17, 18, 19, 20, 21, 22, 23, 24]),
      (⟨some 79, .build [.bool false, .int .i64 0, .int .i64 0, .lst [] true, .int .i64 0, .lst [] true] [], some (77, true)⟩, 0, [0, 1, 2, 3, 4, 5, 6, 7, 8, 9, 10, 11, 12, 13, 14, 15, 16, 17, 18, 19, 20, 21, 22, 23, 24]),
      (⟨some 80, .call false 18 [(.t 78), (.t 79)], some (77, true)⟩, 0, [0, 1, 2, 3, 4, 5, 6, 7, 8, 9, 10, 11, 12, 13, 14, 15, 16, 17, 18, 19, 20, 21, 22, 23, 24, 25, 26]),
      (⟨some 81, .lda 6 (.t 2), some (77, true)⟩, 0, [0, 1, 2, 3, 4, 5, 6, 7, 8, 9, 10, 11, 12, 13, 14, 15, 16, 17, 18, 19, 20, 21, 22, 23, 24]),
      (⟨some 82, .call false 13 [(.t 80), (.t 81)], some (77, true)⟩, 0, [0, 1, 2, 3, 4, 5, 6, 7, 8, 9, 10, 11, 12, 13, 14, 15, 16, 17, 18, 19, 20, 21, 22, 23, 24, 25, 26, 27, 28]),
      (⟨some 83, .pick (.t 77) (.t 82) (.c (.bool false)), none⟩, 0, [0, 1, 2, 3, 4, 5, 6, 7, 8, 9, 10, 11, 12, 13, 14, 15, 16, 17, 18, 19, 20, 21, 22, 23, 24, 25, 26, 27, 28, 29]),
      (⟨some 4, .mv (.t 83), none⟩, 0, [0, 1, 2, 3, 4, 5, 6, 7, 8, 9, 10, 11, 12, 13, 14, 15, 16, 17, 18, 19, 20, 21, 22, 23, 24, 25, 26, 27, 28, 29, 30])])
  (.ret))))))))))))))))))),
  [.t 4]⟩
/-- bezel/bezellaw05.TypesBack -/
def a7 : AFunc := ⟨.seq (.reg [
      ⟨some 1, .box (.t 0), none⟩,
      ⟨some 2, .mv (.c (.bool false)), none⟩])
  (.seq (.prune [1]) (.seq (.reg [
      ⟨some 10, .call false 8 [], none⟩,
      ⟨some 3, .mv (.t 10), none⟩])
  (.seq (.prune [1, 3]) (.seq (.reg [
      ⟨some 11, .lda 6 (.t 1), none⟩,
      ⟨some 12, .call false 9 [(.t 11)], none⟩,
      ⟨some 4, .mv (.t 12), none⟩])
  (.seq (.prune [1, 3, 4]) (.seq (.seq (.reg [
        ⟨some 13, .mv (.t 4), none⟩,
        ⟨some 14, .un .not (.t 13), none⟩])
    (.seq (.prune [1, 3, 14]) (.cond (.t 14) (.seq (.reg [
          ⟨some 15, .mv (.t 3), none⟩,
          ⟨some 2, .mv (.t 15), none⟩])
      (.ret))
    (.skip))))
  (.seq (.prune [1, 3]) (.seq (.reg [
      ⟨some 17, .lda 6 (.t 1), none⟩,
      ⟨some 18, .call false 28 [(.t 17)], none⟩,
      ⟨some 16, .mv (.t 18), none⟩,
      ⟨some 19, .ext 0 (.t 16), none⟩,
      ⟨some 20, .ext 1 (.t 16), none⟩,
      ⟨some 5, .alloc [.int .i64 0, .str [], .lst [] true], none⟩,
      ⟨none, .sta 3 (.t 5) (.t 19), none⟩,
      ⟨some 6, .mv (.t 20), none⟩])
  (.seq (.prune [1, 3, 5, 6]) (.seq (.seq (.reg [
        ⟨some 21, .lda 6 (.t 1), none⟩,
        ⟨some 22, .call false 10 [(.t 21)], none⟩,
        ⟨some 23, .un .not (.t 22), none⟩])
    (.seq (.prune [1, 3, 5, 6, 23]) (.cond (.t 23) (.seq (.reg [
          ⟨some 24, .mv (.t 3), none⟩,
          ⟨some 25, .mv (.t 24), none⟩,
          ⟨some 26, .mv (.t 6), some (25, true)⟩,
          ⟨some 27, .bin .eql (.t 26) (.c (.int .i64 1)), some (25, true)⟩,
          ⟨some 28, .pick (.t 25) (.t 27) (.c (.bool false)), none⟩,
          ⟨some 2, .mv (.t 28), none⟩])
      (.ret))
    (.skip))))
  (.seq (.prune [1, 3, 5, 6]) (.seq (.reg [
      ⟨some 30, .lda 3 (.t 5), none⟩,
      ⟨some 31, .call false 29 [(.t 30)], none⟩,
      ⟨some 29, .mv (.t 31), none⟩,
      ⟨some 32, .ext 0 (.t 29), none⟩,
      ⟨some 33, .ext 1 (.t 29), none⟩,
      ⟨some 7, .alloc [.bool false, .int .i64 0, .int .i64 0, .lst [] true, .int .i64 0, .lst [] true], none⟩,
      ⟨none, .sta 6 (.t 7) (.t 32), none⟩,
      ⟨some 8, .mv (.t 33), none⟩])
  (.seq (.prune [1, 3, 6, 7, 8]) (.seq (.reg [
      ⟨some 34, .lda 6 (.t 1), none⟩,
      ⟨some 35, .lda 6 (.t 7), none⟩,
      ⟨some 36, .call false 13 [(.t 34), (.t 35)], none⟩,
      ⟨some 9, .mv (.t 36), none⟩])
  (.seq (.prune [3, 6, 8, 9]) (.seq (.reg [
      ⟨some 37, .mv (.t 3), none⟩,
      ⟨some 38, .mv (.t 37), none⟩,
      ⟨some 39, .mv (.t 6), some (38, true)⟩,
      ⟨some 40, .bin .eql (.t 39) (.c (.int .i64 0)), some (38, true)⟩,
      ⟨some 41, .pick (.t 38) (.t 40) (.c (.bool false)), none⟩,
      ⟨some 42, .mv (.t 41), none⟩,
      ⟨some 43, .mv (.t 8), some (42, true)⟩,
      ⟨some 44, .bin .eql (.t 43) (.c (.int .i64 0)), some (42, true)⟩,
      ⟨some 45, .pick (.t 42) (.t 44) (.c (.bool false)), none⟩,
      ⟨some 46, .mv (.t 45), none⟩,
      ⟨some 47, .mv (.t 9), some (46, true)⟩,
      ⟨some 48, .pick (.t 46) (.t 47) (.c (.bool false)), none⟩,
      ⟨some 2, .mv (.t 48), none⟩])
  (.ret))))))))))))))))),
  [.t 2]⟩
/-- bezel/bezellaw05.awake -/
def a8 : AFunc := ⟨.seq (.reg [
      ⟨some 0, .mv (.c (.bool false)), none⟩])
  (.seq (.prune []) (.seq (.reg [
      ⟨some 10, .call false 22 [(.c (.int .i64 1))], none⟩,
      ⟨some 11, .call false 23 [(.t 10)], none⟩,
      ⟨some 1, .alloc [.bool false, .int .i64 0, .int .i64 0, .lst [] true, .int .i64 0, .lst [] true], none⟩,
      ⟨none, .sta 6 (.t 1) (.t 11), none⟩])
  (.seq (.prune [1]) (.seq (.reg [
      ⟨some 13, .lda 6 (.t 1), none⟩,
      ⟨some 14, .call false 28 [(.t 13)], none⟩,
      ⟨some 12, .mv (.t 14), none⟩,
      ⟨some 15, .ext 0 (.t 12), none⟩,
      ⟨some 16, .ext 1 (.t 12), none⟩,
      ⟨some 2, .alloc [.int .i64 0, .str [], .lst [] true], none⟩,
      ⟨none, .sta 3 (.t 2) (.t 15), none⟩,
      ⟨some 3, .mv (.t 16), none⟩])
  (.seq (.prune [1, 2, 3]) (.seq (.reg [
      ⟨some 18, .lda 3 (.t 2), none⟩,
      ⟨some 19, .call false 29 [(.t 18)], none⟩,
      ⟨some 17, .mv (.t 19), none⟩,
      ⟨some 20, .ext 0 (.t 17), none⟩,
      ⟨some 21, .ext 1 (.t 17), none⟩,
      ⟨some 4, .alloc [.bool false, .int .i64 0, .int .i64 0, .lst [] true, .int .i64 0, .lst [] true], none⟩,
      ⟨none, .sta 6 (.t 4) (.t 20), none⟩,
      ⟨some 5, .mv (.t 21), none⟩])
  (.seq (.prune [1, 3, 4, 5]) (.seq (.reg [
      ⟨some 22, .call false 22 [(.c (.int .i64 16))], none⟩,
      ⟨some 23, .call false 22 [(.c (.int .i64 1))], none⟩,
      ⟨some 24, .call false 27 [], none⟩,
      ⟨some 25, .call false 25 [(.t 23), (.t 24)], none⟩,
      ⟨some 26, .call false 18 [(.t 22), (.t 25)], none⟩,
      ⟨some 6, .alloc [.bool false, .int .i64 0, .int .i64 0, .lst [] true, .int .i64 0, .lst [] true], none⟩,
      ⟨none, .sta 6 (.t 6) (.t 26), none⟩])
  (.seq (.prune [1, 3, 4, 5, 6]) (.seq (.reg [
      ⟨some 27, .lda 6 (.t 1), none⟩,
      ⟨some 28, .lda 6 (.t 6), none⟩,
      ⟨some 29, .bsl 6 (.agg [.bool false, .int .i64 0, .int .i64 0, .lst [] true, .int .i64 0, .lst [] true]) 1 [(0, (.t 28))], none⟩,
      ⟨some 30, .call false 26 [(.t 27), (.t 29)], none⟩,
      ⟨some 7, .alloc [.bool false, .int .i64 0, .int .i64 0, .lst [] true, .int .i64 0, .lst [] true], none⟩,
      ⟨none, .sta 6 (.t 7) (.t 30), none⟩])
  (.seq (.prune [1, 3, 4, 5, 6, 7]) (.seq (.reg [
      ⟨some 32, .lda 6 (.t 1), none⟩,
      ⟨some 33, .call false 16 [(.t 32)], none⟩,
      ⟨some 31, .mv (.t 33), none⟩,
      ⟨some 34, .ext 0 (.t 31), none⟩,
      ⟨some 35, .ext 1 (.t 31), none⟩,
      ⟨some 8, .alloc [.bool false, .int .i64 0, .int .i64 0, .lst [] true, .int .i64 0, .lst [] true], none⟩,
      ⟨none, .sta 6 (.t 8) (.t 34), none⟩,
      ⟨some 9, .mv (.t 35), none⟩])
  (.seq (.prune [1, 3, 4, 5, 6, 7, 8, 9]) (.seq (.reg [
      ⟨some 36, .mv (.t 3), none⟩,
      ⟨some 37, .bin .eql (.t 36) (.c (.int .i64 0)), none⟩,
      ⟨some 38, .mv (.t 37), none⟩,
      ⟨some 39, .mv (.t 5), some (38, true)⟩,
      ⟨some 40, .bin .eql (.t 39) (.c (.int .i64 0)), some (38, true)⟩,
      ⟨some 41, .pick (.t 38) (.t 40) (.c (.bool false)), none⟩,
      ⟨some 42, .mv (.t 41), none⟩,
      ⟨some 43, .lda 6 (.t 1), some (42, true)⟩,
      ⟨some 44, .lda 6 (.t 4), some (42, true)⟩,
      ⟨some 45, .call false 12 [(.t 43), (.t 44)], some (42, true)⟩,
      ⟨some 46, .pick (.t 42) (.t 45) (.c (.bool false)), none⟩,
      ⟨some 47, .mv (.t 46), none⟩,
      ⟨some 48, .lda 6 (.t 1), some (47, true)⟩,
      ⟨some 49, .lda 6 (.t 6), some (47, true)⟩,
      ⟨some 50, .call false 20 [(.t 48), (.t 49)], some (47, true)⟩,
      ⟨some 51, .pick (.t 47) (.t 50) (.c (.bool false)), none⟩,
      ⟨some 52, .mv (.t 51), none⟩,
      ⟨some 53, .lda 6 (.t 6), some (52, true)⟩,
      ⟨some 54, .lda 6 (.t 1), some (52, true)⟩,
      ⟨some 55, .call false 20 [(.t 53), (.t 54)], some (52, true)⟩,
      ⟨some 56, .un .not (.t 55), some (52, true)⟩,
      ⟨some 57, .pick (.t 52) (.t 56) (.c (.bool false)), none⟩,
      ⟨some 58, .mv (.t 57), none⟩,
      ⟨some 59, .lda 6 (.t 7), some (58, true)⟩,
      ⟨some 60, .call false 10 [(.t 59)], some (58, true)⟩,
      ⟨some 61, .pick (.t 58) (.t 60) (.c (.bool false)), none⟩,
      ⟨some 62, .mv (.t 61), none⟩,
      ⟨some 63, .fa 5 (.t 7), some (62, true)⟩,
      ⟨some 64, .lds (.t 63), some (62, true)⟩,
      ⟨some 65, .len .slice (.t 64), some (62, true)⟩,
      ⟨some 66, .bin .eql (.t 65) (.c (.int .i64 2)), some (62, true)⟩,
      ⟨some 67, .pick (.t 62) (.t 66) (.c (.bool false)), none⟩,
      ⟨some 68, .mv (.t 67), none⟩,
      ⟨some 69, .mv (.t 9), some (68, true)⟩,
      ⟨some 70, .pick (.t 68) (.t 69) (.c (.bool false)), none⟩,
      ⟨some 71, .mv (.t 70), none⟩,
      ⟨some 72, .lda 6 (.t 8), some (71, true)⟩,
      ⟨some 73, .lda 6 (.t 1), some (71, true)⟩,
      ⟨some 74, .call false 12 [(.t 72), (.t 73)], some (71, true)⟩,
      ⟨some 75, .pick (.t 71) (.t 74) (.c (.bool false)), none⟩,
      ⟨some 0, .mv (.t 75), none⟩])
  (.ret))))))))))))))),
  [.t 0]⟩
/-- bezel/bezelref05.Light -/
def a9 : AFunc := ⟨.seq (.reg [
      ⟨some 1, .box (.t 0), none⟩,
      ⟨some 2, .mv (.c (.bool false)), none⟩])
  (.seq (.prune [1]) (.seq (.reg [
      ⟨some 3, .lda 6 (.t 1), none⟩,
      ⟨some 4, .call false 30 [(.t 3), (.c (.int .i64 60))], none⟩,
      ⟨some 5, .bin .lss (.t 4) (.c (.int .i64 120)), none⟩,
      ⟨some 2, .mv (.t 5), none⟩])
  (.ret))),
  [.t 2]⟩
/-- bezel/types.Right -/
def a10 : AFunc := ⟨.seq (.reg [
      ⟨some 1, .box (.t 0), none⟩,
      ⟨some 2, .mv (.c (.bool false)), none⟩])
  (.seq (.prune [1]) (.seq (.reg [
      ⟨some 3, .lda 6 (.t 1), none⟩,
      ⟨some 4, .call false 31 [(.t 3), (.c (.int .i64 300))], none⟩,
      ⟨some 5, .bin .geq (.t 4) (.c (.int .i64 0)), none⟩,
      ⟨some 6, .mv (.t 5), none⟩,
      ⟨some 7, .lda 6 (.t 1), some (6, true)⟩,
      ⟨some 8, .call false 32 [(.t 7), (.c (.int .i64 20))], some (6, true)⟩,
      ⟨some 9, .pick (.t 6) (.t 8) (.c (.bool false)), none⟩,
      ⟨some 2, .mv (.t 9), none⟩])
  (.ret))),
  [.t 2]⟩
/-- bezel/bezelref05.Right -/
def a11 : AFunc := ⟨.seq (.reg [
      ⟨some 1, .box (.t 0), none⟩,
      ⟨some 2, .mv (.c (.bool false)), none⟩])
  (.seq (.prune [1]) (.seq (.reg [
      ⟨some 3, .lda 6 (.t 1), none⟩,
      ⟨some 4, .call false 30 [(.t 3), (.c (.int .i64 60))], none⟩,
      ⟨some 5, .bin .leq (.t 4) (.c (.int .i64 300)), none⟩,
      ⟨some 6, .mv (.t 5), none⟩,
      ⟨some 7, .lda 6 (.t 1), some (6, true)⟩,
      ⟨some 8, .call false 33 [(.t 7), (.c (.int .i64 20))], some (6, true)⟩,
      ⟨some 9, .pick (.t 6) (.t 8) (.c (.bool false)), none⟩,
      ⟨some 2, .mv (.t 9), none⟩])
  (.ret))),
  [.t 2]⟩
/-- bezel/types.Same -/
def a12 : AFunc := ⟨.seq (.reg [
      ⟨some 2, .box (.t 0), none⟩,
      ⟨some 3, .box (.t 1), none⟩,
      ⟨some 4, .mv (.c (.bool false)), none⟩])
  (.seq (.prune [2, 3]) (.seq (.reg [
      ⟨some 5, .fa 0 (.t 2), none⟩,
      ⟨some 6, .lds (.t 5), none⟩,
      ⟨some 7, .fa 0 (.t 3), none⟩,
      ⟨some 8, .lds (.t 7), none⟩,
      ⟨some 9, .eqv false .bool (.t 6) (.t 8), none⟩,
      ⟨some 10, .mv (.t 9), none⟩,
      ⟨some 11, .fa 1 (.t 2), some (10, true)⟩,
      ⟨some 12, .lds (.t 11), some (10, true)⟩,
      ⟨some 13, .fa 1 (.t 3), some (10, true)⟩,
      ⟨some 14, .lds (.t 13), some (10, true)⟩,
      ⟨some 15, .bin .eql (.t 12) (.t 14), some (10, true)⟩,
      ⟨some 16, .pick (.t 10) (.t 15) (.c (.bool false)), none⟩,
      ⟨some 17, .mv (.t 16), none⟩,
      ⟨some 18, .fa 2 (.t 2), some (17, true)⟩,
      ⟨some 19, .lds (.t 18), some (17, true)⟩,
      ⟨some 20, .fa 2 (.t 3), some (17, true)⟩,
      ⟨some 21, .lds (.t 20), some (17, true)⟩,
      ⟨some 22, .bin .eql (.t 19) (.t 21), some (17, true)⟩,
      ⟨some 23, .pick (.t 17) (.t 22) (.c (.bool false)), none⟩,
      ⟨some 24, .mv (.t 23), none⟩,
      ⟨some 25, .fa 4 (.t 2), some (24, true)⟩,
      ⟨some 26, .lds (.t 25), some (24, true)⟩,
      ⟨some 27, .fa 4 (.t 3), some (24, true)⟩,
      ⟨some 28, .lds (.t 27), some (24, true)⟩,
      ⟨some 29, .bin .eql (.t 26) (.t 28), some (24, true)⟩,
      ⟨some 30, .pick (.t 24) (.t 29) (.c (.bool false)), none⟩,
      ⟨some 31, .mv (.t 30), none⟩,
      ⟨some 32, .fa 3 (.t 2), some (31, true)⟩,
      ⟨some 33, .lds (.t 32), some (31, true)⟩,
      ⟨some 34, .fa 3 (.t 3), some (31, true)⟩,
      ⟨some 35, .lds (.t 34), some (31, true)⟩,
      ⟨some 36, .call false 34 [(.t 33), (.t 35), (.c (.fn 12 []))], some (31, true)⟩,
      ⟨some 37, .pick (.t 31) (.t 36) (.c (.bool false)), none⟩,
      ⟨some 38, .mv (.t 37), none⟩,
      ⟨some 39, .fa 5 (.t 2), some (38, true)⟩,
      ⟨some 40, .lds (.t 39), some (38, true)⟩,
      ⟨some 41, .fa 5 (.t 3), some (38, true)⟩,
      ⟨some 42, .lds (.t 41), some (38, true)⟩,
      ⟨some 43, .call false 34 [(.t 40), (.t 42), (.c (.fn 12 []))], some (38, true)⟩,
      ⟨some 44, .pick (.t 38) (.t 43) (.c (.bool false)), none⟩,
      ⟨some 4, .mv (.t 44), none⟩])
  (.ret))),
  [.t 4]⟩
/-- bezel/bezelref05.Same -/
def a13 : AFunc := ⟨.seq (.reg [
      ⟨some 2, .box (.t 0), none⟩,
      ⟨some 3, .box (.t 1), none⟩,
      ⟨some 4, .mv (.c (.bool false)), none⟩])
  (.seq (.prune [2, 3]) (.seq (.seq (.reg [
        ⟨some 7, .fa 0 (.t 2), none⟩,
        ⟨some 8, .lds (.t 7), none⟩,
        ⟨some 9, .fa 0 (.t 3), none⟩,
        ⟨some 10, .lds (.t 9), none⟩,
        ⟨some 11, .eqv true .bool (.t 8) (.t 10), none⟩,
        ⟨some 12, .mv (.t 11), none⟩,
        ⟨some 13, .fa 1 (.t 2), some (12, false)⟩,
        ⟨some 14, .lds (.t 13), some (12, false)⟩,
        ⟨some 15, .fa 1 (.t 3), some (12, false)⟩,
        ⟨some 16, .lds (.t 15), some (12, false)⟩,
        ⟨some 17, .bin .neq (.t 14) (.t 16), some (12, false)⟩,
        ⟨some 18, .pick (.t 12) (.c (.bool true)) (.t 17), none⟩,
        ⟨some 19, .mv (.t 18), none⟩,
        ⟨some 20, .fa 2 (.t 2), some (19, false)⟩,
        ⟨some 21, .lds (.t 20), some (19, false)⟩,
        ⟨some 22, .fa 2 (.t 3), some (19, false)⟩,
        ⟨some 23, .lds (.t 22), some (19, false)⟩,
        ⟨some 24, .bin .neq (.t 21) (.t 23), some (19, false)⟩,
        ⟨some 25, .pick (.t 19) (.c (.bool true)) (.t 24), none⟩,
        ⟨some 26, .mv (.t 25), none⟩,
        ⟨some 27, .fa 4 (.t 2), some (26, false)⟩,
        ⟨some 28, .lds (.t 27), some (26, false)⟩,
        ⟨some 29, .fa 4 (.t 3), some (26, false)⟩,
        ⟨some 30, .lds (.t 29), some (26, false)⟩,
        ⟨some 31, .bin .neq (.t 28) (.t 30), some (26, false)⟩,
        ⟨some 32, .pick (.t 26) (.c (.bool true)) (.t 31), none⟩,
        ⟨some 33, .mv (.t 32), none⟩,
        ⟨some 34, .fa 3 (.t 2), some (33, false)⟩,
        ⟨some 35, .lds (.t 34), some (33, false)⟩,
        ⟨some 36, .len .slice (.t 35), some (33, false)⟩,
        ⟨some 37, .fa 3 (.t 3), some (33, false)⟩,
        ⟨some 38, .lds (.t 37), some (33, false)⟩,
        ⟨some 39, .len .slice (.t 38), some (33, false)⟩,
        ⟨some 40, .bin .neq (.t 36) (.t 39), some (33, false)⟩,
        ⟨some 41, .pick (.t 33) (.c (.bool true)) (.t 40), none⟩,
        ⟨some 42, .mv (.t 41), none⟩,
        ⟨some 43, .fa 5 (.t 2), some (42, false)⟩,
        ⟨some 44, .lds (.t 43), some (42, false)⟩,
        ⟨some 45, .len .slice (.t 44), some (42, false)⟩,
        ⟨some 46, .fa 5 (.t 3), some (42, false)⟩,
        ⟨some 47, .lds (.t 46), some (42, false)⟩,
        ⟨some 48, .len .slice (.t 47), some (42, false)⟩,
        ⟨some 49, .bin .neq (.t 45) (.t 48), some (42, false)⟩,
        ⟨some 50, .pick (.t 42) (.c (.bool true)) (.t 49), none⟩])
    (.seq (.prune [2, 3, 50]) (.cond (.t 50) (.seq (.reg [
          ⟨some 4, .mv (.c (.bool false)), none⟩])
      (.ret))
    (.skip))))
  (.seq (.prune [2, 3]) (.seq (.seq (.reg [
        ⟨some 5, .mv (.c (.int .i64 0)), none⟩])
    (.seq (.prune [2, 3, 5]) (.block 0 (.loop [5, 2, 3] (.seq (.seq (.reg [
              ⟨some 51, .mv (.t 5), none⟩,
              ⟨some 52, .fa 3 (.t 2), none⟩,
              ⟨some 53, .lds (.t 52), none⟩,
              ⟨some 54, .len .slice (.t 53), none⟩,
              ⟨some 55, .bin .lss (.t 51) (.t 54), none⟩])
          (.seq (.prune [2, 3, 5, 55]) (.cond (.t 55) (.skip)
          (.exit 0))))
        (.seq (.prune [2, 3, 5]) (.seq (.block 1 (.seq (.draw 0 [
                (⟨some 58, .fa 3 (.t 2), none⟩, 0, []),
                (⟨some 59, .lds (.t 58), none⟩, 0, [0]),
                (⟨some 60, .mv (.t 5), none⟩, 0, []),
                (⟨some 61, .ia 6 (.t 59) (.t 60), none⟩, 0, [0, 1, 2]),
                (⟨some 62, .lda 6 (.t 61), none⟩, 0, [0, 1, 2, 3]),
                (⟨some 63, .fa 3 (.t 3), none⟩, 0, []),
                (⟨some 64, .lds (.t 63), none⟩, 0, [5]),
                (⟨some 65, .mv (.t 5), none⟩, 0, []),
                (⟨some 66, .ia 6 (.t 64) (.t 65), none⟩, 0, [5, 6, 7]),
                (⟨some 67, .lda 6 (.t 66), none⟩, 0, [5, 6, 7, 8]),
                (⟨some 68, .call false 13 [(.t 62), (.t 67)], none⟩, 0, [0, 1, 2, 3, 4, 5, 6, 7, 8, 9]),
                (⟨some 69, .un .not (.t 68), none⟩, 0, [0, 1, 2, 3, 4, 5, 6, 7, 8, 9, 10])])
            (.seq (.prune [2, 3, 5, 69]) (.cond (.t 69) (.seq (.reg [
                  ⟨some 4, .mv (.c (.bool false)), none⟩])
              (.ret))
            (.skip)))))
        (.seq (.prune [2, 3, 5]) (.reg [
          ⟨some 56, .mv (.t 5), none⟩,
          ⟨some 57, .bin .add (.t 56) (.c (.int .i64 1)), none⟩,
          ⟨some 5, .mv (.t 57), none⟩])))))))))
  (.seq (.prune [2, 3]) (.seq (.seq (.reg [
        ⟨some 6, .mv (.c (.int .i64 0)), none⟩])
    (.seq (.prune [2, 3, 6]) (.block 2 (.loop [6, 2, 3] (.seq (.seq (.reg [
              ⟨some 70, .mv (.t 6), none⟩,
              ⟨some 71, .fa 5 (.t 2), none⟩,
              ⟨some 72, .lds (.t 71), none⟩,
              ⟨some 73, .len .slice (.t 72), none⟩,
              ⟨some 74, .bin .lss (.t 70) (.t 73), none⟩])
          (.seq (.prune [2, 3, 6, 74]) (.cond (.t 74) (.skip)
          (.exit 2))))
        (.seq (.prune [2, 3, 6]) (.seq (.block 3 (.seq (.draw 0 [
                (⟨some 77, .fa 5 (.t 2), none⟩, 0, []),
                (⟨some 78, .lds (.t 77), none⟩, 0, [0]),
                (⟨some 79, .mv (.t 6), none⟩, 0, []),
                (⟨some 80, .ia 6 (.t 78) (.t 79), none⟩, 0, [0, 1, 2]),
                (⟨some 81, .lda 6 (.t 80), none⟩, 0, [0, 1, 2, 3]),
                (⟨some 82, .fa 5 (.t 3), none⟩, 0, []),
                (⟨some 83, .lds (.t 82), none⟩, 0, [5]),
                (⟨some 84, .mv (.t 6), none⟩, 0, []),
                (⟨some 85, .ia 6 (.t 83) (.t 84), none⟩, 0, [5, 6, 7]),
                (⟨some 86, .lda 6 (.t 85), none⟩, 0, [5, 6, 7, 8]),
                (⟨some 87, .call false 13 [(.t 81), (.t 86)], none⟩, 0, [0, 1, 2, 3, 4, 5, 6, 7, 8, 9]),
                (⟨some 88, .un .not (.t 87), none⟩, 0, [0, 1, 2, 3, 4, 5, 6, 7, 8, 9, 10])])
            (.seq (.prune [2, 3, 6, 88]) (.cond (.t 88) (.seq (.reg [
                  ⟨some 4, .mv (.c (.bool false)), none⟩])
              (.ret))
            (.skip)))))
        (.seq (.prune [2, 3, 6]) (.reg [
          ⟨some 75, .mv (.t 6), none⟩,
          ⟨some 76, .bin .add (.t 75) (.c (.int .i64 1)), none⟩,
          ⟨some 6, .mv (.t 76), none⟩])))))))))
  (.seq (.prune []) (.seq (.reg [
      ⟨some 4, .mv (.c (.bool true)), none⟩])
  (.ret))))))))),
  [.t 4]⟩
/-- bezel/types.Car -/
def a14 : AFunc := ⟨.seq (.reg [
      ⟨some 1, .box (.t 0), none⟩,
      ⟨some 2, .alloc [.bool false, .int .i64 0, .int .i64 0, .lst [] true, .int .i64 0, .lst [] true], none⟩,
      ⟨some 3, .mv (.c (.bool false)), none⟩])
  (.seq (.prune [1, 2]) (.seq (.block 0 (.seq (.reg [
          ⟨some 5, .fa 0 (.t 1), none⟩,
          ⟨some 6, .lds (.t 5), none⟩,
          ⟨some 4, .mv (.t 6), none⟩])
      (.seq (.prune [1, 2, 4]) (.cond (.t 4) (.seq (.reg [
            ⟨some 7, .lda 6 (.t 1), none⟩,
            ⟨none, .sta 6 (.t 2) (.t 7), none⟩,
            ⟨some 3, .mv (.c (.bool true)), none⟩])
        (.ret))
      (.seq (.reg [
            ⟨some 9, .fa 2 (.t 1), none⟩,
            ⟨some 10, .lds (.t 9), none⟩,
            ⟨some 11, .bin .eql (.t 10) (.c (.int .i64 0)), none⟩,
            ⟨some 8, .mv (.t 11), none⟩])
        (.seq (.prune [1, 2, 8]) (.cond (.t 8) (.seq (.reg [
              ⟨some 12, .build [.bool false, .int .i64 0, .int .i64 0, .lst [] true, .int .i64 0, .lst [] true] [], none⟩,
              ⟨none, .sta 6 (.t 2) (.t 12), none⟩,
              ⟨some 3, .mv (.c (.bool false)), none⟩])
          (.ret))
        (.skip))))))))
  (.seq (.prune [1, 2]) (.seq (.reg [
      ⟨some 13, .fa 3 (.t 1), none⟩,
      ⟨some 14, .lds (.t 13), none⟩,
      ⟨some 15, .ia 6 (.t 14) (.c (.int .i64 0)), none⟩,
      ⟨some 16, .lda 6 (.t 15), none⟩,
      ⟨none, .sta 6 (.t 2) (.t 16), none⟩,
      ⟨some 3, .mv (.c (.bool true)), none⟩])
  (.ret))))),
  [.ca 2 6, .t 3]⟩
/-- bezel/bezelref05.Car -/
def a15 : AFunc := ⟨.seq (.reg [
      ⟨some 1, .box (.t 0), none⟩,
      ⟨some 2, .alloc [.bool false, .int .i64 0, .int .i64 0, .lst [] true, .int .i64 0, .lst [] true], none⟩,
      ⟨some 3, .mv (.c (.bool false)), none⟩])
  (.seq (.prune [1, 2]) (.seq (.seq (.reg [
        ⟨some 4, .fa 0 (.t 1), none⟩,
        ⟨some 5, .lds (.t 4), none⟩])
    (.seq (.prune [1, 2, 5]) (.cond (.t 5) (.seq (.reg [
          ⟨some 6, .build [.bool false, .int .i64 0, .int .i64 0, .lst [] true, .int .i64 0, .lst [] true] [(0, 1, (.c (.bool true)))], none⟩,
          ⟨none, .sta 6 (.t 2) (.t 6), none⟩,
          ⟨some 3, .mv (.c (.bool true)), none⟩])
      (.ret))
    (.skip))))
  (.seq (.prune [1, 2]) (.seq (.seq (.reg [
        ⟨some 7, .fa 2 (.t 1), none⟩,
        ⟨some 8, .lds (.t 7), none⟩,
        ⟨some 9, .bin .eql (.t 8) (.c (.int .i64 0)), none⟩,
        ⟨some 10, .mv (.t 9), none⟩,
        ⟨some 11, .fa 3 (.t 1), some (10, false)⟩,
        ⟨some 12, .lds (.t 11), some (10, false)⟩,
        ⟨some 13, .len .slice (.t 12), some (10, false)⟩,
        ⟨some 14, .bin .eql (.t 13) (.c (.int .i64 0)), some (10, false)⟩,
        ⟨some 15, .pick (.t 10) (.c (.bool true)) (.t 14), none⟩])
    (.seq (.prune [1, 2, 15]) (.cond (.t 15) (.seq (.reg [
          ⟨some 16, .build [.bool false, .int .i64 0, .int .i64 0, .lst [] true, .int .i64 0, .lst [] true] [], none⟩,
          ⟨none, .sta 6 (.t 2) (.t 16), none⟩,
          ⟨some 3, .mv (.c (.bool false)), none⟩])
      (.ret))
    (.skip))))
  (.seq (.prune [1, 2]) (.seq (.reg [
      ⟨some 17, .fa 3 (.t 1), none⟩,
      ⟨some 18, .lds (.t 17), none⟩,
      ⟨some 19, .ia 6 (.t 18) (.c (.int .i64 0)), none⟩,
      ⟨some 20, .lda 6 (.t 19), none⟩,
      ⟨none, .sta 6 (.t 2) (.t 20), none⟩,
      ⟨some 3, .mv (.c (.bool true)), none⟩])
  (.ret))))))),
  [.ca 2 6, .t 3]⟩
/-- bezel/types.Cdr -/
def a16 : AFunc := ⟨.seq (.reg [
      ⟨some 1, .box (.t 0), none⟩,
      ⟨some 2, .alloc [.bool false, .int .i64 0, .int .i64 0, .lst [] true, .int .i64 0, .lst [] true], none⟩,
      ⟨some 3, .mv (.c (.bool false)), none⟩])
  (.seq (.prune [1, 2]) (.seq (.block 0 (.seq (.reg [
          ⟨some 5, .fa 0 (.t 1), none⟩,
          ⟨some 6, .lds (.t 5), none⟩,
          ⟨some 4, .mv (.t 6), none⟩])
      (.seq (.prune [1, 2, 4]) (.cond (.t 4) (.seq (.reg [
            ⟨some 7, .lda 6 (.t 1), none⟩,
            ⟨none, .sta 6 (.t 2) (.t 7), none⟩,
            ⟨some 3, .mv (.c (.bool true)), none⟩])
        (.ret))
      (.seq (.reg [
            ⟨some 9, .fa 2 (.t 1), none⟩,
            ⟨some 10, .lds (.t 9), none⟩,
            ⟨some 11, .bin .eql (.t 10) (.c (.int .i64 0)), none⟩,
            ⟨some 8, .mv (.t 11), none⟩])
        (.seq (.prune [1, 2, 8]) (.cond (.t 8) (.seq (.reg [
              ⟨some 12, .build [.bool false, .int .i64 0, .int .i64 0, .lst [] true, .int .i64 0, .lst [] true] [], none⟩,
              ⟨none, .sta 6 (.t 2) (.t 12), none⟩,
              ⟨some 3, .mv (.c (.bool false)), none⟩])
          (.ret))
        (.seq (.reg [
              ⟨some 14, .fa 2 (.t 1), none⟩,
              ⟨some 15, .lds (.t 14), none⟩,
              ⟨some 16, .bin .eql (.t 15) (.c (.int .i64 2)), none⟩,
              ⟨some 13, .mv (.t 16), none⟩])
          (.seq (.prune [1, 2, 13]) (.cond (.t 13) (.seq (.reg [
                ⟨some 17, .fa 3 (.t 1), none⟩,
                ⟨some 18, .lds (.t 17), none⟩,
                ⟨some 19, .ia 6 (.t 18) (.c (.int .i64 0)), none⟩,
                ⟨some 20, .lda 6 (.t 19), none⟩,
                ⟨some 21, .call false 23 [(.t 20)], none⟩,
                ⟨none, .sta 6 (.t 2) (.t 21), none⟩,
                ⟨some 3, .mv (.c (.bool true)), none⟩])
            (.ret))
          (.skip)))))))))))
  (.seq (.prune [1, 2]) (.seq (.reg [
      ⟨some 22, .fa 3 (.t 1), none⟩,
      ⟨some 23, .lds (.t 22), none⟩,
      ⟨some 24, .ia 6 (.t 23) (.c (.int .i64 1)), none⟩,
      ⟨some 25, .lda 6 (.t 24), none⟩,
      ⟨none, .sta 6 (.t 2) (.t 25), none⟩,
      ⟨some 3, .mv (.c (.bool true)), none⟩])
  (.ret))))),
  [.ca 2 6, .t 3]⟩
/-- bezel/bezelref05.Cdr -/
def a17 : AFunc := ⟨.seq (.reg [
      ⟨some 1, .box (.t 0), none⟩,
      ⟨some 2, .alloc [.bool false, .int .i64 0, .int .i64 0, .lst [] true, .int .i64 0, .lst [] true], none⟩,
      ⟨some 3, .mv (.c (.bool false)), none⟩])
  (.seq (.prune [1, 2]) (.seq (.seq (.reg [
        ⟨some 4, .fa 0 (.t 1), none⟩,
        ⟨some 5, .lds (.t 4), none⟩])
    (.seq (.prune [1, 2, 5]) (.cond (.t 5) (.seq (.reg [
          ⟨some 6, .build [.bool false, .int .i64 0, .int .i64 0, .lst [] true, .int .i64 0, .lst [] true] [(0, 1, (.c (.bool true)))], none⟩,
          ⟨none, .sta 6 (.t 2) (.t 6), none⟩,
          ⟨some 3, .mv (.c (.bool true)), none⟩])
      (.ret))
    (.skip))))
  (.seq (.prune [1, 2]) (.seq (.seq (.reg [
        ⟨some 7, .fa 2 (.t 1), none⟩,
        ⟨some 8, .lds (.t 7), none⟩,
        ⟨some 9, .bin .eql (.t 8) (.c (.int .i64 2)), none⟩,
        ⟨some 10, .mv (.t 9), none⟩,
        ⟨some 11, .fa 3 (.t 1), some (10, true)⟩,
        ⟨some 12, .lds (.t 11), some (10, true)⟩,
        ⟨some 13, .len .slice (.t 12), some (10, true)⟩,
        ⟨some 14, .bin .gtr (.t 13) (.c (.int .i64 0)), some (10, true)⟩,
        ⟨some 15, .pick (.t 10) (.t 14) (.c (.bool false)), none⟩])
    (.seq (.prune [1, 2, 15]) (.cond (.t 15) (.seq (.reg [
          ⟨some 16, .fa 3 (.t 1), none⟩,
          ⟨some 17, .lds (.t 16), none⟩,
          ⟨some 18, .ia 6 (.t 17) (.c (.int .i64 0)), none⟩,
          ⟨some 19, .lda 6 (.t 18), none⟩,
          ⟨some 20, .call false 24 [(.t 19)], none⟩,
          ⟨none, .sta 6 (.t 2) (.t 20), none⟩,
          ⟨some 3, .mv (.c (.bool true)), none⟩])
      (.ret))
    (.skip))))
  (.seq (.prune [1, 2]) (.seq (.seq (.reg [
        ⟨some 21, .fa 2 (.t 1), none⟩,
        ⟨some 22, .lds (.t 21), none⟩,
        ⟨some 23, .bin .eql (.t 22) (.c (.int .i64 1)), none⟩,
        ⟨some 24, .mv (.t 23), none⟩,
        ⟨some 25, .fa 3 (.t 1), some (24, true)⟩,
        ⟨some 26, .lds (.t 25), some (24, true)⟩,
        ⟨some 27, .len .slice (.t 26), some (24, true)⟩,
        ⟨some 28, .bin .gtr (.t 27) (.c (.int .i64 1)), some (24, true)⟩,
        ⟨some 29, .pick (.t 24) (.t 28) (.c (.bool false)), none⟩])
    (.seq (.prune [1, 2, 29]) (.cond (.t 29) (.seq (.reg [
          ⟨some 30, .fa 3 (.t 1), none⟩,
          ⟨some 31, .lds (.t 30), none⟩,
          ⟨some 32, .ia 6 (.t 31) (.c (.int .i64 1)), none⟩,
          ⟨some 33, .lda 6 (.t 32), none⟩,
          ⟨none, .sta 6 (.t 2) (.t 33), none⟩,
          ⟨some 3, .mv (.c (.bool true)), none⟩])
      (.ret))
    (.skip))))
  (.seq (.prune [2]) (.seq (.reg [
      ⟨some 34, .build [.bool false, .int .i64 0, .int .i64 0, .lst [] true, .int .i64 0, .lst [] true] [], none⟩,
      ⟨none, .sta 6 (.t 2) (.t 34), none⟩,
      ⟨some 3, .mv (.c (.bool false)), none⟩])
  (.ret))))))))),
  [.ca 2 6, .t 3]⟩
/-- bezel/types.Join -/
def a18 : AFunc := ⟨.seq (.reg [
      ⟨some 2, .box (.t 0), none⟩,
      ⟨some 3, .box (.t 1), none⟩,
      ⟨some 4, .alloc [.bool false, .int .i64 0, .int .i64 0, .lst [] true, .int .i64 0, .lst [] true], none⟩])
  (.seq (.prune [2, 3, 4]) (.seq (.seq (.reg [
        ⟨some 6, .fa 0 (.t 2), none⟩,
        ⟨some 7, .lds (.t 6), none⟩,
        ⟨some 8, .mv (.t 7), none⟩,
        ⟨some 9, .fa 0 (.t 3), some (8, false)⟩,
        ⟨some 10, .lds (.t 9), some (8, false)⟩,
        ⟨some 11, .pick (.t 8) (.c (.bool true)) (.t 10), none⟩])
    (.seq (.prune [2, 3, 4, 11]) (.cond (.t 11) (.seq (.reg [
          ⟨some 12, .call false 27 [], none⟩,
          ⟨none, .sta 6 (.t 4) (.t 12), none⟩])
      (.ret))
    (.skip))))
  (.seq (.prune [2, 3, 4]) (.seq (.reg [
      ⟨some 13, .fa 1 (.t 2), none⟩,
      ⟨some 14, .lds (.t 13), none⟩,
      ⟨some 15, .fa 1 (.t 3), none⟩,
      ⟨some 16, .lds (.t 15), none⟩,
      ⟨some 17, .bin .or (.t 14) (.t 16), none⟩,
      ⟨some 18, .fa 2 (.t 2), none⟩,
      ⟨some 19, .lds (.t 18), none⟩,
      ⟨some 20, .fa 3 (.t 2), none⟩,
      ⟨some 21, .lds (.t 20), none⟩,
      ⟨some 22, .fa 4 (.t 2), none⟩,
      ⟨some 23, .lds (.t 22), none⟩,
      ⟨some 24, .fa 5 (.t 2), none⟩,
      ⟨some 25, .lds (.t 24), none⟩,
      ⟨some 26, .build [.bool false, .int .i64 0, .int .i64 0, .lst [] true, .int .i64 0, .lst [] true] [(1, 1, (.t 17)), (2, 1, (.t 19)), (3, 1, (.t 21)), (4, 1, (.t 23)), (5, 1, (.t 25))], none⟩,
      ⟨some 5, .alloc [.bool false, .int .i64 0, .int .i64 0, .lst [] true, .int .i64 0, .lst [] true], none⟩,
      ⟨none, .sta 6 (.t 5) (.t 26), none⟩])
  (.seq (.prune [2, 3, 4, 5]) (.seq (.block 0 (.seq (.reg [
          ⟨some 28, .fa 2 (.t 2), none⟩,
          ⟨some 29, .lds (.t 28), none⟩,
          ⟨some 30, .bin .eql (.t 29) (.c (.int .i64 0)), none⟩,
          ⟨some 27, .mv (.t 30), none⟩])
      (.seq (.prune [2, 3, 4, 5, 27]) (.cond (.t 27) (.draw 0 [
          (⟨some 31, .fa 2 (.t 3), none⟩, 0, []),
          (⟨some 32, .lds (.t 31), none⟩, 0, [0]),
          (⟨some 33, .fa 3 (.t 3), none⟩, 0, []),
          (⟨some 34, .lds (.t 33), none⟩, 0, [2]),
          (⟨some 35, .fa 2 (.t 5), none⟩, 0, [0, 1]),
          (⟨none, .sts (.t 35) (.t 32), none⟩, 0, [0, 1, 4]),
          (⟨some 36, .fa 3 (.t 5), none⟩, 0, [0, 1, 2, 3, 4, 5]),
          (⟨none, .sts (.t 36) (.t 34), none⟩, 0, [0, 1, 2, 3, 4, 5, 6])])
      (.seq (.reg [
            ⟨some 38, .fa 2 (.t 3), none⟩,
            ⟨some 39, .lds (.t 38), none⟩,
            ⟨some 40, .bin .neq (.t 39) (.c (.int .i64 0)), none⟩,
            ⟨some 37, .mv (.t 40), none⟩])
        (.seq (.prune [2, 3, 4, 5, 37]) (.cond (.t 37) (.seq (.reg [
              ⟨some 41, .fa 3 (.t 5), none⟩,
              ⟨none, .sts (.t 41) (.c (.lst [] true)), none⟩])
          (.seq (.prune [2, 3, 4, 5]) (.seq (.reg [
              ⟨some 42, .lda 6 (.t 2), none⟩,
              ⟨some 43, .lda 6 (.t 3), none⟩,
              ⟨some 44, .mkf 36 [(.t 5)], none⟩,
              ⟨some 45, .call false 35 [(.t 42), (.t 43), (.t 44)], none⟩])
          (.seq (.prune [2, 3, 4, 5]) (.seq (.reg [
              ⟨some 46, .fa 2 (.t 5), none⟩,
              ⟨none, .sts (.t 46) (.c (.int .i64 2)), none⟩])
          (.seq (.prune [2, 3, 4, 5]) (.seq (.reg [
              ⟨some 47, .fa 3 (.t 5), none⟩,
              ⟨some 48, .lds (.t 47), none⟩,
              ⟨some 49, .len .slice (.t 48), none⟩,
              ⟨some 50, .bin .gtr (.t 49) (.c (.int .i64 1)), none⟩])
          (.seq (.prune [2, 3, 4, 5, 50]) (.cond (.t 50) (.reg [
              ⟨some 51, .fa 2 (.t 5), none⟩,
              ⟨none, .sts (.t 51) (.c (.int .i64 1)), none⟩])
          (.skip))))))))))
        (.skip))))))))
  (.seq (.prune [2, 3, 4, 5]) (.seq (.block 1 (.seq (.reg [
          ⟨some 53, .fa 4 (.t 2), none⟩,
          ⟨some 54, .lds (.t 53), none⟩,
          ⟨some 55, .bin .eql (.t 54) (.c (.int .i64 0)), none⟩,
          ⟨some 52, .mv (.t 55), none⟩])
      (.seq (.prune [2, 3, 4, 5, 52]) (.cond (.t 52) (.draw 0 [
          (⟨some 56, .fa 4 (.t 3), none⟩, 0, []),
          (⟨some 57, .lds (.t 56), none⟩, 0, [0]),
          (⟨some 58, .fa 5 (.t 3), none⟩, 0, []),
          (⟨some 59, .lds (.t 58), none⟩, 0, [2]),
          (⟨some 60, .fa 4 (.t 5), none⟩, 0, [0, 1]),
          (⟨none, .sts (.t 60) (.t 57), none⟩, 0, [0, 1, 4]),
          (⟨some 61, .fa 5 (.t 5), none⟩, 0, [0, 1, 2, 3, 4, 5]),
          (⟨none, .sts (.t 61) (.t 59), none⟩, 0, [0, 1, 2, 3, 4, 5, 6])])
      (.seq (.reg [
            ⟨some 63, .fa 4 (.t 3), none⟩,
            ⟨some 64, .lds (.t 63), none⟩,
            ⟨some 65, .bin .neq (.t 64) (.c (.int .i64 0)), none⟩,
            ⟨some 66, .mv (.t 65), none⟩,
            ⟨some 67, .fa 4 (.t 2), some (66, true)⟩,
            ⟨some 68, .lds (.t 67), some (66, true)⟩,
            ⟨some 69, .fa 4 (.t 3), some (66, true)⟩,
            ⟨some 70, .lds (.t 69), some (66, true)⟩,
            ⟨some 71, .bin .eql (.t 68) (.t 70), some (66, true)⟩,
            ⟨some 72, .mv (.t 71), some (66, true)⟩,
            ⟨some 73, .fa 5 (.t 2), some (72, true)⟩,
            ⟨some 74, .lds (.t 73), some (72, true)⟩,
            ⟨some 75, .fa 5 (.t 3), some (72, true)⟩,
            ⟨some 76, .lds (.t 75), some (72, true)⟩,
            ⟨some 77, .call false 34 [(.t 74), (.t 76), (.c (.fn 12 []))], some (72, true)⟩,
            ⟨some 78, .pick (.t 72) (.t 77) (.c (.bool false)), some (66, true)⟩,
            ⟨some 79, .un .not (.t 78), some (66, true)⟩,
            ⟨some 80, .pick (.t 66) (.t 79) (.c (.bool false)), none⟩,
            ⟨some 62, .mv (.t 80), none⟩])
        (.seq (.prune [4, 5, 62]) (.cond (.t 62) (.reg [
            ⟨some 81, .fa 4 (.t 5), none⟩,
            ⟨none, .sts (.t 81) (.c (.int .i64 2)), none⟩,
            ⟨some 82, .fa 5 (.t 5), none⟩,
            ⟨none, .sts (.t 82) (.c (.lst [] true)), none⟩])
        (.skip))))))))
  (.seq (.prune [4, 5]) (.seq (.reg [
      ⟨some 83, .lda 6 (.t 5), none⟩,
      ⟨none, .sta 6 (.t 4) (.t 83), none⟩])
  (.ret))))))))))),
  [.ca 4 6]⟩
/-- bezel/bezelref05.Join -/
def a19 : AFunc := ⟨.seq (.reg [
      ⟨some 2, .box (.t 0), none⟩,
      ⟨some 3, .box (.t 1), none⟩,
      ⟨some 4, .alloc [.bool false, .int .i64 0, .int .i64 0, .lst [] true, .int .i64 0, .lst [] true], none⟩])
  (.seq (.prune [2, 3, 4]) (.seq (.seq (.reg [
        ⟨some 15, .fa 0 (.t 2), none⟩,
        ⟨some 16, .lds (.t 15), none⟩,
        ⟨some 17, .mv (.t 16), none⟩,
        ⟨some 18, .fa 0 (.t 3), some (17, false)⟩,
        ⟨some 19, .lds (.t 18), some (17, false)⟩,
        ⟨some 20, .pick (.t 17) (.c (.bool true)) (.t 19), none⟩])
    (.seq (.prune [2, 3, 4, 20]) (.cond (.t 20) (.seq (.reg [
          ⟨some 21, .build [.bool false, .int .i64 0, .int .i64 0, .lst [] true, .int .i64 0, .lst [] true] [(0, 1, (.c (.bool true)))], none⟩,
          ⟨none, .sta 6 (.t 4) (.t 21), none⟩])
      (.ret))
    (.skip))))
  (.seq (.prune [2, 3, 4]) (.seq (.reg [
      ⟨some 22, .build [.bool false, .int .i64 0, .int .i64 0, .lst [] true, .int .i64 0, .lst [] true] [], none⟩,
      ⟨some 5, .alloc [.bool false, .int .i64 0, .int .i64 0, .lst [] true, .int .i64 0, .lst [] true], none⟩,
      ⟨none, .sta 6 (.t 5) (.t 22), none⟩])
  (.seq (.prune [2, 3, 4, 5]) (.seq (.seq (.reg [
        ⟨some 6, .mv (.c (.int .i64 1)), none⟩])
    (.seq (.prune [2, 3, 4, 5, 6]) (.block 0 (.loop [6, 2, 3, 4, 5] (.seq (.seq (.reg [
              ⟨some 23, .mv (.t 6), none⟩,
              ⟨some 24, .bin .lss (.t 23) (.c (.int .i64 64)), none⟩])
          (.seq (.prune [2, 3, 4, 5, 6, 24]) (.cond (.t 24) (.skip)
          (.exit 0))))
        (.seq (.prune [2, 3, 4, 5, 6]) (.seq (.block 1 (.seq (.reg [
                ⟨some 27, .fa 1 (.t 2), none⟩,
                ⟨some 28, .lds (.t 27), none⟩,
                ⟨some 29, .mv (.t 6), none⟩,
                ⟨some 30, .bin .quo (.t 28) (.t 29), none⟩,
                ⟨some 31, .bin .rem (.t 30) (.c (.int .i64 2)), none⟩,
                ⟨some 32, .bin .eql (.t 31) (.c (.int .i64 1)), none⟩,
                ⟨some 33, .mv (.t 32), none⟩,
                ⟨some 34, .fa 1 (.t 3), some (33, false)⟩,
                ⟨some 35, .lds (.t 34), some (33, false)⟩,
                ⟨some 36, .mv (.t 6), some (33, false)⟩,
                ⟨some 37, .bin .quo (.t 35) (.t 36), some (33, false)⟩,
                ⟨some 38, .bin .rem (.t 37) (.c (.int .i64 2)), some (33, false)⟩,
                ⟨some 39, .bin .eql (.t 38) (.c (.int .i64 1)), some (33, false)⟩,
                ⟨some 40, .pick (.t 33) (.c (.bool true)) (.t 39), none⟩])
            (.seq (.prune [2, 3, 4, 5, 6, 40]) (.cond (.t 40) (.reg [
                ⟨some 41, .fa 1 (.t 5), none⟩,
                ⟨some 42, .lds (.t 41), none⟩,
                ⟨some 43, .mv (.t 6), none⟩,
                ⟨some 44, .bin .add (.t 42) (.t 43), none⟩,
                ⟨some 45, .fa 1 (.t 5), none⟩,
                ⟨none, .sts (.t 45) (.t 44), none⟩])
            (.skip)))))
        (.seq (.prune [2, 3, 4, 5, 6]) (.reg [
          ⟨some 25, .mv (.t 6), none⟩,
          ⟨some 26, .bin .mul (.c (.int .i64 2)) (.t 25), none⟩,
          ⟨some 6, .mv (.t 26), none⟩])))))))))
  (.seq (.prune [2, 3, 4, 5]) (.seq (.reg [
      ⟨some 46, .fa 2 (.t 2), none⟩,
      ⟨some 47, .lds (.t 46), none⟩,
      ⟨some 48, .fa 2 (.t 5), none⟩,
      ⟨none, .sts (.t 48) (.t 47), none⟩])
  (.seq (.prune [2, 3, 4, 5]) (.seq (.reg [
      ⟨some 49, .fa 3 (.t 2), none⟩,
      ⟨some 50, .lds (.t 49), none⟩,
      ⟨some 51, .fa 3 (.t 5), none⟩,
      ⟨none, .sts (.t 51) (.t 50), none⟩])
  (.seq (.prune [2, 3, 4, 5]) (.seq (.seq (.reg [
        ⟨some 52, .fa 2 (.t 2), none⟩,
        ⟨some 53, .lds (.t 52), none⟩,
        ⟨some 54, .bin .eql (.t 53) (.c (.int .i64 0)), none⟩])
    (.seq (.prune [2, 3, 4, 5, 54]) (.cond (.t 54) (.seq (.reg [
          ⟨some 55, .fa 2 (.t 3), none⟩,
          ⟨some 56, .lds (.t 55), none⟩,
          ⟨some 57, .fa 2 (.t 5), none⟩,
          ⟨none, .sts (.t 57) (.t 56), none⟩])
      (.seq (.prune [2, 3, 4, 5]) (.reg [
        ⟨some 58, .fa 3 (.t 3), none⟩,
        ⟨some 59, .lds (.t 58), none⟩,
        ⟨some 60, .fa 3 (.t 5), none⟩,
        ⟨none, .sts (.t 60) (.t 59), none⟩])))
    (.skip))))
  (.seq (.prune [2, 3, 4, 5]) (.seq (.seq (.reg [
        ⟨some 61, .fa 2 (.t 2), none⟩,
        ⟨some 62, .lds (.t 61), none⟩,
        ⟨some 63, .bin .neq (.t 62) (.c (.int .i64 0)), none⟩,
        ⟨some 64, .mv (.t 63), none⟩,
        ⟨some 65, .fa 2 (.t 3), some (64, true)⟩,
        ⟨some 66, .lds (.t 65), some (64, true)⟩,
        ⟨some 67, .bin .neq (.t 66) (.c (.int .i64 0)), some (64, true)⟩,
        ⟨some 68, .pick (.t 64) (.t 67) (.c (.bool false)), none⟩])
    (.seq (.prune [2, 3, 4, 5, 68]) (.cond (.t 68) (.seq (.reg [
          ⟨some 70, .lda 6 (.t 2), none⟩,
          ⟨some 71, .call false 15 [(.t 70)], none⟩,
          ⟨some 69, .mv (.t 71), none⟩,
          ⟨some 72, .ext 0 (.t 69), none⟩,
          ⟨some 73, .ext 1 (.t 69), none⟩,
          ⟨some 7, .alloc [.bool false, .int .i64 0, .int .i64 0, .lst [] true, .int .i64 0, .lst [] true], none⟩,
          ⟨none, .sta 6 (.t 7) (.t 72), none⟩,
          ⟨some 8, .mv (.t 73), none⟩])
      (.seq (.prune [2, 3, 4, 5, 7]) (.seq (.reg [
          ⟨some 75, .lda 6 (.t 3), none⟩,
          ⟨some 76, .call false 15 [(.t 75)], none⟩,
          ⟨some 74, .mv (.t 76), none⟩,
          ⟨some 77, .ext 0 (.t 74), none⟩,
          ⟨some 78, .ext 1 (.t 74), none⟩,
          ⟨some 9, .alloc [.bool false, .int .i64 0, .int .i64 0, .lst [] true, .int .i64 0, .lst [] true], none⟩,
          ⟨none, .sta 6 (.t 9) (.t 77), none⟩,
          ⟨some 10, .mv (.t 78), none⟩])
      (.seq (.prune [2, 3, 4, 5, 7, 9]) (.seq (.reg [
          ⟨some 79, .lda 6 (.t 7), none⟩,
          ⟨some 80, .lda 6 (.t 9), none⟩,
          ⟨some 81, .call false 19 [(.t 79), (.t 80)], none⟩,
          ⟨some 82, .bsl 6 (.agg [.bool false, .int .i64 0, .int .i64 0, .lst [] true, .int .i64 0, .lst [] true]) 1 [(0, (.t 81))], none⟩,
          ⟨some 83, .fa 3 (.t 5), none⟩,
          ⟨none, .sts (.t 83) (.t 82), none⟩])
      (.seq (.prune [2, 3, 4, 5]) (.seq (.reg [
          ⟨some 84, .fa 2 (.t 2), none⟩,
          ⟨some 85, .lds (.t 84), none⟩,
          ⟨some 86, .bin .eql (.t 85) (.c (.int .i64 1)), none⟩,
          ⟨some 87, .mv (.t 86), none⟩,
          ⟨some 88, .fa 2 (.t 3), some (87, false)⟩,
          ⟨some 89, .lds (.t 88), some (87, false)⟩,
          ⟨some 90, .bin .eql (.t 89) (.c (.int .i64 1)), some (87, false)⟩,
          ⟨some 91, .pick (.t 87) (.c (.bool true)) (.t 90), none⟩])
      (.seq (.prune [2, 3, 4, 5, 91]) (.cond (.t 91) (.seq (.reg [
            ⟨some 93, .lda 6 (.t 2), none⟩,
            ⟨some 94, .call false 17 [(.t 93)], none⟩,
            ⟨some 92, .mv (.t 94), none⟩,
            ⟨some 95, .ext 0 (.t 92), none⟩,
            ⟨some 96, .ext 1 (.t 92), none⟩,
            ⟨some 11, .alloc [.bool false, .int .i64 0, .int .i64 0, .lst [] true, .int .i64 0, .lst [] true], none⟩,
            ⟨none, .sta 6 (.t 11) (.t 95), none⟩,
            ⟨some 12, .mv (.t 96), none⟩])
        (.seq (.prune [2, 3, 4, 5, 11]) (.seq (.reg [
            ⟨some 98, .lda 6 (.t 3), none⟩,
            ⟨some 99, .call false 17 [(.t 98)], none⟩,
            ⟨some 97, .mv (.t 99), none⟩,
            ⟨some 100, .ext 0 (.t 97), none⟩,
            ⟨some 101, .ext 1 (.t 97), none⟩,
            ⟨some 13, .alloc [.bool false, .int .i64 0, .int .i64 0, .lst [] true, .int .i64 0, .lst [] true], none⟩,
            ⟨none, .sta 6 (.t 13) (.t 100), none⟩,
            ⟨some 14, .mv (.t 101), none⟩])
        (.seq (.prune [2, 3, 4, 5, 11, 13]) (.seq (.reg [
            ⟨some 102, .fa 2 (.t 5), none⟩,
            ⟨none, .sts (.t 102) (.c (.int .i64 1)), none⟩])
        (.seq (.prune [2, 3, 4, 5, 11, 13]) (.draw 1 [
          (⟨some 103, .fa 3 (.t 5), none⟩, 0, []),
          (⟨some 104, .lds (.t 103), none⟩, 0, [0]),
          (⟨some 105, .lda 6 (.t 11), none⟩, 0, []),
          (⟨some 106, .lda 6 (.t 13), none⟩, 0, []),
          (⟨some 107, .call false 19 [(.t 105), (.t 106)], none⟩, 0, [2, 3]),
          (⟨some 108, .bsl 6 (.agg [.bool false, .int .i64 0, .int .i64 0, .lst [] true, .int .i64 0, .lst [] true]) 1 [(0, (.t 107))], none⟩, 0, [2, 3, 4]),
          (⟨some 109, .app 6 80 false (.t 104) (.t 108), none⟩, 0, [0, 1, 2, 3, 4, 5]),
          (⟨some 110, .fa 3 (.t 5), none⟩, 0, [0, 1, 2, 3, 4, 5, 6]),
          (⟨none, .sts (.t 110) (.t 109), none⟩, 0, [0, 1, 2, 3, 4, 5, 6, 7])])))))))
      (.skip))))))))))
    (.skip))))
  (.seq (.prune [2, 3, 4, 5]) (.seq (.reg [
      ⟨some 111, .fa 4 (.t 2), none⟩,
      ⟨some 112, .lds (.t 111), none⟩,
      ⟨some 113, .fa 4 (.t 5), none⟩,
      ⟨none, .sts (.t 113) (.t 112), none⟩])
  (.seq (.prune [2, 3, 4, 5]) (.seq (.reg [
      ⟨some 114, .fa 5 (.t 2), none⟩,
      ⟨some 115, .lds (.t 114), none⟩,
      ⟨some 116, .fa 5 (.t 5), none⟩,
      ⟨none, .sts (.t 116) (.t 115), none⟩])
  (.seq (.prune [2, 3, 4, 5]) (.seq (.seq (.reg [
        ⟨some 117, .fa 4 (.t 2), none⟩,
        ⟨some 118, .lds (.t 117), none⟩,
        ⟨some 119, .bin .eql (.t 118) (.c (.int .i64 0)), none⟩])
    (.seq (.prune [2, 3, 4, 5, 119]) (.cond (.t 119) (.seq (.reg [
          ⟨some 120, .fa 4 (.t 3), none⟩,
          ⟨some 121, .lds (.t 120), none⟩,
          ⟨some 122, .fa 4 (.t 5), none⟩,
          ⟨none, .sts (.t 122) (.t 121), none⟩])
      (.seq (.prune [2, 3, 4, 5]) (.reg [
        ⟨some 123, .fa 5 (.t 3), none⟩,
        ⟨some 124, .lds (.t 123), none⟩,
        ⟨some 125, .fa 5 (.t 5), none⟩,
        ⟨none, .sts (.t 125) (.t 124), none⟩])))
    (.skip))))
  (.seq (.prune [2, 3, 4, 5]) (.seq (.seq (.reg [
        ⟨some 126, .fa 4 (.t 2), none⟩,
        ⟨some 127, .lds (.t 126), none⟩,
        ⟨some 128, .bin .neq (.t 127) (.c (.int .i64 0)), none⟩,
        ⟨some 129, .mv (.t 128), none⟩,
        ⟨some 130, .fa 4 (.t 3), some (129, true)⟩,
        ⟨some 131, .lds (.t 130), some (129, true)⟩,
        ⟨some 132, .bin .neq (.t 131) (.c (.int .i64 0)), some (129, true)⟩,
        ⟨some 133, .pick (.t 129) (.t 132) (.c (.bool false)), none⟩,
        ⟨some 134, .mv (.t 133), none⟩,
        ⟨some 135, .fa 4 (.t 2), some (134, true)⟩,
        ⟨some 136, .lds (.t 135), some (134, true)⟩,
        ⟨some 137, .fa 5 (.t 2), some (134, true)⟩,
        ⟨some 138, .lds (.t 137), some (134, true)⟩,
        ⟨some 139, .build [.bool false, .int .i64 0, .int .i64 0, .lst [] true, .int .i64 0, .lst [] true] [(4, 1, (.t 136)), (5, 1, (.t 138))], some (134, true)⟩,
        ⟨some 140, .fa 4 (.t 3), some (134, true)⟩,
        ⟨some 141, .lds (.t 140), some (134, true)⟩,
        ⟨some 142, .fa 5 (.t 3), some (134, true)⟩,
        ⟨some 143, .lds (.t 142), some (134, true)⟩,
        ⟨some 144, .build [.bool false, .int .i64 0, .int .i64 0, .lst [] true, .int .i64 0, .lst [] true] [(4, 1, (.t 141)), (5, 1, (.t 143))], some (134, true)⟩,
        ⟨some 145, .call false 13 [(.t 139), (.t 144)], some (134, true)⟩,
        ⟨some 146, .un .not (.t 145), some (134, true)⟩,
        ⟨some 147, .pick (.t 134) (.t 146) (.c (.bool false)), none⟩])
    (.seq (.prune [4, 5, 147]) (.cond (.t 147) (.seq (.reg [
          ⟨some 148, .fa 4 (.t 5), none⟩,
          ⟨none, .sts (.t 148) (.c (.int .i64 2)), none⟩])
      (.seq (.prune [4, 5]) (.reg [
        ⟨some 149, .fa 5 (.t 5), none⟩,
        ⟨none, .sts (.t 149) (.c (.lst [] true)), none⟩])))
    (.skip))))
  (.seq (.prune [4, 5]) (.seq (.reg [
      ⟨some 150, .lda 6 (.t 5), none⟩,
      ⟨none, .sta 6 (.t 4) (.t 150), none⟩])
  (.ret))))))))))))))))))))))))),
  [.ca 4 6]⟩
/-- bezel/types.Sub -/
def a20 : AFunc := ⟨.seq (.reg [
      ⟨some 2, .box (.t 0), none⟩,
      ⟨some 3, .box (.t 1), none⟩,
      ⟨some 4, .mv (.c (.bool false)), none⟩])
  (.seq (.prune [2, 3]) (.seq (.block 0 (.seq (.reg [
          ⟨some 10, .fa 0 (.t 3), none⟩,
          ⟨some 11, .lds (.t 10), none⟩,
          ⟨some 9, .mv (.t 11), none⟩])
      (.seq (.prune [2, 3, 9]) (.cond (.t 9) (.seq (.reg [
            ⟨some 4, .mv (.c (.bool true)), none⟩])
        (.ret))
      (.seq (.reg [
            ⟨some 13, .fa 0 (.t 2), none⟩,
            ⟨some 14, .lds (.t 13), none⟩,
            ⟨some 15, .mv (.t 14), none⟩,
            ⟨some 16, .fa 1 (.t 2), some (15, false)⟩,
            ⟨some 17, .lds (.t 16), some (15, false)⟩,
            ⟨some 18, .fa 1 (.t 3), some (15, false)⟩,
            ⟨some 19, .lds (.t 18), some (15, false)⟩,
            ⟨some 20, .bin .andNot (.t 17) (.t 19), some (15, false)⟩,
            ⟨some 21, .bin .neq (.t 20) (.c (.int .i64 0)), some (15, false)⟩,
            ⟨some 22, .pick (.t 15) (.c (.bool true)) (.t 21), none⟩,
            ⟨some 23, .mv (.t 22), none⟩,
            ⟨some 24, .fa 2 (.t 2), some (23, false)⟩,
            ⟨some 25, .lds (.t 24), some (23, false)⟩,
            ⟨some 26, .bin .neq (.t 25) (.c (.int .i64 0)), some (23, false)⟩,
            ⟨some 27, .mv (.t 26), some (23, false)⟩,
            ⟨some 28, .fa 2 (.t 3), some (27, true)⟩,
            ⟨some 29, .lds (.t 28), some (27, true)⟩,
            ⟨some 30, .bin .eql (.t 29) (.c (.int .i64 0)), some (27, true)⟩,
            ⟨some 31, .pick (.t 27) (.t 30) (.c (.bool false)), some (23, false)⟩,
            ⟨some 32, .pick (.t 23) (.c (.bool true)) (.t 31), none⟩,
            ⟨some 33, .mv (.t 32), none⟩,
            ⟨some 34, .fa 4 (.t 2), some (33, false)⟩,
            ⟨some 35, .lds (.t 34), some (33, false)⟩,
            ⟨some 36, .bin .neq (.t 35) (.c (.int .i64 0)), some (33, false)⟩,
            ⟨some 37, .mv (.t 36), some (33, false)⟩,
            ⟨some 38, .fa 4 (.t 3), some (37, true)⟩,
            ⟨some 39, .lds (.t 38), some (37, true)⟩,
            ⟨some 40, .bin .eql (.t 39) (.c (.int .i64 0)), some (37, true)⟩,
            ⟨some 41, .pick (.t 37) (.t 40) (.c (.bool false)), some (33, false)⟩,
            ⟨some 42, .pick (.t 33) (.c (.bool true)) (.t 41), none⟩,
            ⟨some 12, .mv (.t 42), none⟩])
        (.seq (.prune [2, 3, 12]) (.cond (.t 12) (.seq (.reg [
              ⟨some 4, .mv (.c (.bool false)), none⟩])
          (.ret))
        (.skip))))))))
  (.seq (.prune [2, 3]) (.seq (.reg [
      ⟨some 5, .alloc [.bool false], none⟩,
      ⟨none, .sts (.t 5) (.c (.bool true)), none⟩])
  (.seq (.prune [2, 3, 5]) (.seq (.reg [
      ⟨some 43, .mkf 37 [(.t 5)], none⟩,
      ⟨some 6, .mv (.t 43), none⟩])
  (.seq (.prune [2, 3, 5, 6]) (.seq (.seq (.reg [
        ⟨some 44, .fa 2 (.t 2), none⟩,
        ⟨some 45, .lds (.t 44), none⟩,
        ⟨some 46, .bin .neq (.t 45) (.c (.int .i64 0)), none⟩])
    (.seq (.prune [2, 3, 5, 6, 46]) (.cond (.t 46) (.reg [
        ⟨some 47, .lda 6 (.t 2), none⟩,
        ⟨some 48, .lda 6 (.t 3), none⟩,
        ⟨some 49, .mv (.t 6), none⟩,
        ⟨some 50, .call false 35 [(.t 47), (.t 48), (.t 49)], none⟩])
    (.skip))))
  (.seq (.prune [2, 3, 5, 6]) (.seq (.seq (.reg [
        ⟨some 51, .fa 4 (.t 2), none⟩,
        ⟨some 52, .lds (.t 51), none⟩,
        ⟨some 53, .bin .eql (.t 52) (.c (.int .i64 0)), none⟩,
        ⟨some 54, .mv (.t 53), none⟩,
        ⟨some 55, .fa 4 (.t 3), some (54, false)⟩,
        ⟨some 56, .lds (.t 55), some (54, false)⟩,
        ⟨some 57, .bin .eql (.t 56) (.c (.int .i64 2)), some (54, false)⟩,
        ⟨some 58, .pick (.t 54) (.c (.bool true)) (.t 57), none⟩])
    (.seq (.prune [2, 3, 5, 6, 58]) (.cond (.t 58) (.seq (.reg [
          ⟨some 59, .lds (.t 5), none⟩,
          ⟨some 4, .mv (.t 59), none⟩])
      (.ret))
    (.skip))))
  (.seq (.prune [2, 3, 5, 6]) (.seq (.reg [
      ⟨some 60, .fa 5 (.t 2), none⟩,
      ⟨some 61, .lds (.t 60), none⟩,
      ⟨some 62, .len .slice (.t 61), none⟩,
      ⟨some 63, .bin .sub (.t 62) (.c (.int .i64 1)), none⟩,
      ⟨some 7, .mv (.t 63), none⟩])
  (.seq (.prune [2, 3, 5, 6, 7]) (.seq (.seq (.reg [
        ⟨some 64, .fa 4 (.t 2), none⟩,
        ⟨some 65, .lds (.t 64), none⟩,
        ⟨some 66, .bin .eql (.t 65) (.c (.int .i64 2)), none⟩,
        ⟨some 67, .mv (.t 66), none⟩,
        ⟨some 68, .fa 5 (.t 3), some (67, false)⟩,
        ⟨some 69, .lds (.t 68), some (67, false)⟩,
        ⟨some 70, .len .slice (.t 69), some (67, false)⟩,
        ⟨some 71, .mv (.t 7), some (67, false)⟩,
        ⟨some 72, .bin .add (.t 71) (.c (.int .i64 1)), some (67, false)⟩,
        ⟨some 73, .bin .neq (.t 70) (.t 72), some (67, false)⟩,
        ⟨some 74, .pick (.t 67) (.c (.bool true)) (.t 73), none⟩])
    (.seq (.prune [2, 3, 5, 6, 7, 74]) (.cond (.t 74) (.seq (.reg [
          ⟨some 4, .mv (.c (.bool false)), none⟩])
      (.ret))
    (.skip))))
  (.seq (.prune [2, 3, 5, 6, 7]) (.seq (.seq (.reg [
        ⟨some 75, .mv (.t 7), none⟩,
        ⟨some 76, .mv (.c (.int .i64 0)), none⟩])
    (.seq (.prune [2, 3, 5, 6, 7, 75, 76]) (.block 1 (.loop [76, 2, 3, 5, 6, 7, 75] (.seq (.reg [
            ⟨some 77, .bin .lss (.t 76) (.t 75), none⟩])
        (.seq (.prune [2, 3, 5, 6, 7, 75, 76, 77]) (.seq (.cond (.t 77) (.skip)
          (.exit 1))
        (.seq (.prune [2, 3, 5, 6, 7, 75, 76]) (.seq (.block 2 (.seq (.reg [
                ⟨some 78, .mv (.t 76), none⟩,
                ⟨some 8, .mv (.t 78), none⟩])
            (.seq (.prune [2, 3, 5, 6, 7, 8, 75, 76]) (.draw 0 [
              (⟨some 79, .mv (.t 6), none⟩, 0, []),
              (⟨some 80, .fa 5 (.t 3), none⟩, 0, []),
              (⟨some 81, .lds (.t 80), none⟩, 0, [1]),
              (⟨some 82, .mv (.t 8), none⟩, 0, []),
              (⟨some 83, .ia 6 (.t 81) (.t 82), none⟩, 0, [1, 2, 3]),
              (⟨some 84, .lda 6 (.t 83), none⟩, 0, [1, 2, 3, 4]),
              (⟨some 85, .fa 5 (.t 2), none⟩, 0, []),
              (⟨some 86, .lds (.t 85), none⟩, 0, [6]),
              (⟨some 87, .mv (.t 8), none⟩, 0, []),
              (⟨some 88, .ia 6 (.t 86) (.t 87), none⟩, 0, [6, 7, 8]),
              (⟨some 89, .lda 6 (.t 88), none⟩, 0, [6, 7, 8, 9]),
              (⟨some 90, .callv false (.t 79) [(.t 84), (.t 89)], none⟩, 0, [0, 1, 2, 3, 4, 5, 6, 7, 8, 9, 10])]))))
        (.seq (.prune [2, 3, 5, 6, 7, 75, 76]) (.reg [
          ⟨some 91, .bin .add (.t 76) (.c (.int .i64 1)), none⟩,
          ⟨some 76, .mv (.t 91), none⟩])))))))))))
  (.seq (.prune [2, 3, 5, 6, 7]) (.seq (.draw 0 [
      (⟨some 92, .mv (.t 6), none⟩, 0, []),
      (⟨some 93, .fa 5 (.t 2), none⟩, 0, []),
      (⟨some 94, .lds (.t 93), none⟩, 0, [1]),
      (⟨some 95, .mv (.t 7), none⟩, 0, []),
      (⟨some 96, .ia 6 (.t 94) (.t 95), none⟩, 0, [1, 2, 3]),
      (⟨some 97, .lda 6 (.t 96), none⟩, 0, [1, 2, 3, 4]),
      (⟨some 98, .fa 5 (.t 3), none⟩, 0, []),
      (⟨some 99, .lds (.t 98), none⟩, 0, [6]),
      (⟨some 100, .mv (.t 7), none⟩, 0, []),
      (⟨some 101, .ia 6 (.t 99) (.t 100), none⟩, 0, [6, 7, 8]),
      (⟨some 102, .lda 6 (.t 101), none⟩, 0, [6, 7, 8, 9]),
      (⟨some 103, .callv false (.t 92) [(.t 97), (.t 102)], none⟩, 0, [0, 1, 2, 3, 4, 5, 6, 7, 8, 9, 10])])
  (.seq (.prune [5]) (.seq (.reg [
      ⟨some 104, .lds (.t 5), none⟩,
      ⟨some 4, .mv (.t 104), none⟩])
  (.ret))))))))))))))))))))),
  [.t 4]⟩
/-- bezel/bezelref05.Sub -/
def a21 : AFunc := ⟨.seq (.reg [
      ⟨some 2, .box (.t 0), none⟩,
      ⟨some 3, .box (.t 1), none⟩,
      ⟨some 4, .mv (.c (.bool false)), none⟩])
  (.seq (.prune [2, 3]) (.seq (.seq (.reg [
        ⟨some 16, .fa 0 (.t 3), none⟩,
        ⟨some 17, .lds (.t 16), none⟩])
    (.seq (.prune [2, 3, 17]) (.cond (.t 17) (.seq (.reg [
          ⟨some 4, .mv (.c (.bool true)), none⟩])
      (.ret))
    (.skip))))
  (.seq (.prune [2, 3]) (.seq (.seq (.reg [
        ⟨some 18, .fa 0 (.t 2), none⟩,
        ⟨some 19, .lds (.t 18), none⟩])
    (.seq (.prune [2, 3, 19]) (.cond (.t 19) (.seq (.reg [
          ⟨some 4, .mv (.c (.bool false)), none⟩])
      (.ret))
    (.skip))))
  (.seq (.prune [2, 3]) (.seq (.seq (.reg [
        ⟨some 5, .mv (.c (.int .i64 1)), none⟩])
    (.seq (.prune [2, 3, 5]) (.block 0 (.loop [5, 2, 3] (.seq (.seq (.reg [
              ⟨some 20, .mv (.t 5), none⟩,
              ⟨some 21, .bin .lss (.t 20) (.c (.int .i64 64)), none⟩])
          (.seq (.prune [2, 3, 5, 21]) (.cond (.t 21) (.skip)
          (.exit 0))))
        (.seq (.prune [2, 3, 5]) (.seq (.block 1 (.seq (.reg [
                ⟨some 24, .fa 1 (.t 2), none⟩,
                ⟨some 25, .lds (.t 24), none⟩,
                ⟨some 26, .mv (.t 5), none⟩,
                ⟨some 27, .bin .quo (.t 25) (.t 26), none⟩,
                ⟨some 28, .bin .rem (.t 27) (.c (.int .i64 2)), none⟩,
                ⟨some 29, .bin .eql (.t 28) (.c (.int .i64 1)), none⟩,
                ⟨some 30, .mv (.t 29), none⟩,
                ⟨some 31, .fa 1 (.t 3), some (30, true)⟩,
                ⟨some 32, .lds (.t 31), some (30, true)⟩,
                ⟨some 33, .mv (.t 5), some (30, true)⟩,
                ⟨some 34, .bin .quo (.t 32) (.t 33), some (30, true)⟩,
                ⟨some 35, .bin .rem (.t 34) (.c (.int .i64 2)), some (30, true)⟩,
                ⟨some 36, .bin .eql (.t 35) (.c (.int .i64 0)), some (30, true)⟩,
                ⟨some 37, .pick (.t 30) (.t 36) (.c (.bool false)), none⟩])
            (.seq (.prune [2, 3, 5, 37]) (.cond (.t 37) (.seq (.reg [
                  ⟨some 4, .mv (.c (.bool false)), none⟩])
              (.ret))
            (.skip)))))
        (.seq (.prune [2, 3, 5]) (.reg [
          ⟨some 22, .mv (.t 5), none⟩,
          ⟨some 23, .bin .mul (.c (.int .i64 2)) (.t 22), none⟩,
          ⟨some 5, .mv (.t 23), none⟩])))))))))
  (.seq (.prune [2, 3]) (.seq (.seq (.reg [
        ⟨some 38, .fa 2 (.t 2), none⟩,
        ⟨some 39, .lds (.t 38), none⟩,
        ⟨some 40, .bin .neq (.t 39) (.c (.int .i64 0)), none⟩])
    (.seq (.prune [2, 3, 40]) (.cond (.t 40) (.seq (.seq (.reg [
            ⟨some 41, .fa 2 (.t 3), none⟩,
            ⟨some 42, .lds (.t 41), none⟩,
            ⟨some 43, .bin .eql (.t 42) (.c (.int .i64 0)), none⟩])
        (.seq (.prune [2, 3, 43]) (.cond (.t 43) (.seq (.reg [
              ⟨some 4, .mv (.c (.bool false)), none⟩])
          (.ret))
        (.skip))))
      (.seq (.prune [2, 3]) (.seq (.reg [
          ⟨some 45, .lda 6 (.t 2), none⟩,
          ⟨some 46, .call false 15 [(.t 45)], none⟩,
          ⟨some 44, .mv (.t 46), none⟩,
          ⟨some 47, .ext 0 (.t 44), none⟩,
          ⟨some 48, .ext 1 (.t 44), none⟩,
          ⟨some 6, .alloc [.bool false, .int .i64 0, .int .i64 0, .lst [] true, .int .i64 0, .lst [] true], none⟩,
          ⟨none, .sta 6 (.t 6) (.t 47), none⟩,
          ⟨some 7, .mv (.t 48), none⟩])
      (.seq (.prune [2, 3, 6]) (.seq (.reg [
          ⟨some 50, .lda 6 (.t 3), none⟩,
          ⟨some 51, .call false 15 [(.t 50)], none⟩,
          ⟨some 49, .mv (.t 51), none⟩,
          ⟨some 52, .ext 0 (.t 49), none⟩,
          ⟨some 53, .ext 1 (.t 49), none⟩,
          ⟨some 8, .alloc [.bool false, .int .i64 0, .int .i64 0, .lst [] true, .int .i64 0, .lst [] true], none⟩,
          ⟨none, .sta 6 (.t 8) (.t 52), none⟩,
          ⟨some 9, .mv (.t 53), none⟩])
      (.seq (.prune [2, 3, 6, 8]) (.seq (.seq (.reg [
            ⟨some 54, .lda 6 (.t 6), none⟩,
            ⟨some 55, .lda 6 (.t 8), none⟩,
            ⟨some 56, .call false 21 [(.t 54), (.t 55)], none⟩,
            ⟨some 57, .un .not (.t 56), none⟩])
        (.seq (.prune [2, 3, 57]) (.cond (.t 57) (.seq (.reg [
              ⟨some 4, .mv (.c (.bool false)), none⟩])
          (.ret))
        (.skip))))
      (.seq (.prune [2, 3]) (.seq (.reg [
          ⟨some 58, .fa 2 (.t 2), none⟩,
          ⟨some 59, .lds (.t 58), none⟩,
          ⟨some 60, .bin .eql (.t 59) (.c (.int .i64 1)), none⟩,
          ⟨some 61, .mv (.t 60), none⟩,
          ⟨some 62, .fa 2 (.t 3), some (61, false)⟩,
          ⟨some 63, .lds (.t 62), some (61, false)⟩,
          ⟨some 64, .bin .eql (.t 63) (.c (.int .i64 1)), some (61, false)⟩,
          ⟨some 65, .pick (.t 61) (.c (.bool true)) (.t 64), none⟩])
      (.seq (.prune [2, 3, 65]) (.cond (.t 65) (.seq (.reg [
            ⟨some 67, .lda 6 (.t 2), none⟩,
            ⟨some 68, .call false 17 [(.t 67)], none⟩,
            ⟨some 66, .mv (.t 68), none⟩,
            ⟨some 69, .ext 0 (.t 66), none⟩,
            ⟨some 70, .ext 1 (.t 66), none⟩,
            ⟨some 10, .alloc [.bool false, .int .i64 0, .int .i64 0, .lst [] true, .int .i64 0, .lst [] true], none⟩,
            ⟨none, .sta 6 (.t 10) (.t 69), none⟩,
            ⟨some 11, .mv (.t 70), none⟩])
        (.seq (.prune [2, 3, 10]) (.seq (.reg [
            ⟨some 72, .lda 6 (.t 3), none⟩,
            ⟨some 73, .call false 17 [(.t 72)], none⟩,
            ⟨some 71, .mv (.t 73), none⟩,
            ⟨some 74, .ext 0 (.t 71), none⟩,
            ⟨some 75, .ext 1 (.t 71), none⟩,
            ⟨some 12, .alloc [.bool false, .int .i64 0, .int .i64 0, .lst [] true, .int .i64 0, .lst [] true], none⟩,
            ⟨none, .sta 6 (.t 12) (.t 74), none⟩,
            ⟨some 13, .mv (.t 75), none⟩])
        (.seq (.prune [2, 3, 10, 12]) (.seq (.reg [
            ⟨some 76, .lda 6 (.t 10), none⟩,
            ⟨some 77, .lda 6 (.t 12), none⟩,
            ⟨some 78, .call false 21 [(.t 76), (.t 77)], none⟩,
            ⟨some 79, .un .not (.t 78), none⟩])
        (.seq (.prune [2, 3, 79]) (.cond (.t 79) (.seq (.reg [
              ⟨some 4, .mv (.c (.bool false)), none⟩])
          (.ret))
        (.skip))))))))
      (.skip))))))))))))
    (.skip))))
  (.seq (.prune [2, 3]) (.seq (.seq (.reg [
        ⟨some 80, .fa 4 (.t 2), none⟩,
        ⟨some 81, .lds (.t 80), none⟩,
        ⟨some 82, .bin .eql (.t 81) (.c (.int .i64 0)), none⟩,
        ⟨some 83, .mv (.t 82), none⟩,
        ⟨some 84, .fa 4 (.t 3), some (83, false)⟩,
        ⟨some 85, .lds (.t 84), some (83, false)⟩,
        ⟨some 86, .bin .eql (.t 85) (.c (.int .i64 2)), some (83, false)⟩,
        ⟨some 87, .pick (.t 83) (.c (.bool true)) (.t 86), none⟩])
    (.seq (.prune [2, 3, 87]) (.cond (.t 87) (.seq (.reg [
          ⟨some 4, .mv (.c (.bool true)), none⟩])
      (.ret))
    (.skip))))
  (.seq (.prune [2, 3]) (.seq (.seq (.reg [
        ⟨some 88, .fa 4 (.t 3), none⟩,
        ⟨some 89, .lds (.t 88), none⟩,
        ⟨some 90, .bin .eql (.t 89) (.c (.int .i64 0)), none⟩,
        ⟨some 91, .mv (.t 90), none⟩,
        ⟨some 92, .fa 4 (.t 2), some (91, false)⟩,
        ⟨some 93, .lds (.t 92), some (91, false)⟩,
        ⟨some 94, .bin .eql (.t 93) (.c (.int .i64 2)), some (91, false)⟩,
        ⟨some 95, .pick (.t 91) (.c (.bool true)) (.t 94), none⟩,
        ⟨some 96, .mv (.t 95), none⟩,
        ⟨some 97, .fa 5 (.t 2), some (96, false)⟩,
        ⟨some 98, .lds (.t 97), some (96, false)⟩,
        ⟨some 99, .len .slice (.t 98), some (96, false)⟩,
        ⟨some 100, .fa 5 (.t 3), some (96, false)⟩,
        ⟨some 101, .lds (.t 100), some (96, false)⟩,
        ⟨some 102, .len .slice (.t 101), some (96, false)⟩,
        ⟨some 103, .bin .neq (.t 99) (.t 102), some (96, false)⟩,
        ⟨some 104, .pick (.t 96) (.c (.bool true)) (.t 103), none⟩])
    (.seq (.prune [2, 3, 104]) (.cond (.t 104) (.seq (.reg [
          ⟨some 4, .mv (.c (.bool false)), none⟩])
      (.ret))
    (.skip))))
  (.seq (.prune [2, 3]) (.seq (.reg [
      ⟨some 105, .fa 5 (.t 2), none⟩,
      ⟨some 106, .lds (.t 105), none⟩,
      ⟨some 107, .len .slice (.t 106), none⟩,
      ⟨some 108, .bin .sub (.t 107) (.c (.int .i64 1)), none⟩,
      ⟨some 14, .mv (.t 108), none⟩])
  (.seq (.prune [2, 3, 14]) (.seq (.seq (.reg [
        ⟨some 15, .mv (.c (.int .i64 0)), none⟩])
    (.seq (.prune [2, 3, 14, 15]) (.block 2 (.loop [15, 2, 3, 14] (.seq (.seq (.reg [
              ⟨some 109, .mv (.t 15), none⟩,
              ⟨some 110, .mv (.t 14), none⟩,
              ⟨some 111, .bin .lss (.t 109) (.t 110), none⟩])
          (.seq (.prune [2, 3, 14, 15, 111]) (.cond (.t 111) (.skip)
          (.exit 2))))
        (.seq (.prune [2, 3, 14, 15]) (.seq (.block 3 (.seq (.draw 0 [
                (⟨some 114, .fa 5 (.t 3), none⟩, 0, []),
                (⟨some 115, .lds (.t 114), none⟩, 0, [0]),
                (⟨some 116, .mv (.t 15), none⟩, 0, []),
                (⟨some 117, .ia 6 (.t 115) (.t 116), none⟩, 0, [0, 1, 2]),
                (⟨some 118, .lda 6 (.t 117), none⟩, 0, [0, 1, 2, 3]),
                (⟨some 119, .fa 5 (.t 2), none⟩, 0, []),
                (⟨some 120, .lds (.t 119), none⟩, 0, [5]),
                (⟨some 121, .mv (.t 15), none⟩, 0, []),
                (⟨some 122, .ia 6 (.t 120) (.t 121), none⟩, 0, [5, 6, 7]),
                (⟨some 123, .lda 6 (.t 122), none⟩, 0, [5, 6, 7, 8]),
                (⟨some 124, .call false 21 [(.t 118), (.t 123)], none⟩, 0, [0, 1, 2, 3, 4, 5, 6, 7, 8, 9]),
                (⟨some 125, .un .not (.t 124), none⟩, 0, [0, 1, 2, 3, 4, 5, 6, 7, 8, 9, 10])])
            (.seq (.prune [2, 3, 14, 15, 125]) (.cond (.t 125) (.seq (.reg [
                  ⟨some 4, .mv (.c (.bool false)), none⟩])
              (.ret))
            (.skip)))))
        (.seq (.prune [2, 3, 14, 15]) (.reg [
          ⟨some 112, .mv (.t 15), none⟩,
          ⟨some 113, .bin .add (.t 112) (.c (.int .i64 1)), none⟩,
          ⟨some 15, .mv (.t 113), none⟩])))))))))
  (.seq (.prune [2, 3, 14]) (.seq (.draw 0 [
      (⟨some 126, .fa 5 (.t 2), none⟩, 0, []),
      (⟨some 127, .lds (.t 126), none⟩, 0, [0]),
      (⟨some 128, .mv (.t 14), none⟩, 0, []),
      (⟨some 129, .ia 6 (.t 127) (.t 128), none⟩, 0, [0, 1, 2]),
      (⟨some 130, .lda 6 (.t 129), none⟩, 0, [0, 1, 2, 3]),
      (⟨some 131, .fa 5 (.t 3), none⟩, 0, []),
      (⟨some 132, .lds (.t 131), none⟩, 0, [5]),
      (⟨some 133, .mv (.t 14), none⟩, 0, []),
      (⟨some 134, .ia 6 (.t 132) (.t 133), none⟩, 0, [5, 6, 7]),
      (⟨some 135, .lda 6 (.t 134), none⟩, 0, [5, 6, 7, 8]),
      (⟨some 136, .call false 21 [(.t 130), (.t 135)], none⟩, 0, [0, 1, 2, 3, 4, 5, 6, 7, 8, 9]),
      (⟨some 4, .mv (.t 136), none⟩, 0, [0, 1, 2, 3, 4, 5, 6, 7, 8, 9, 10])])
  (.ret))))))))))))))))))),
  [.t 4]⟩
/-- bezel/types.Flat -/
def a22 : AFunc := ⟨.seq (.reg [
      ⟨some 2, .alloc [.bool false, .int .i64 0, .int .i64 0, .lst [] true, .int .i64 0, .lst [] true], none⟩])
  (.seq (.prune [0, 2]) (.seq (.reg [
      ⟨some 3, .mv (.t 0), none⟩,
      ⟨some 4, .bin .and (.t 3) (.c (.int .i64 63)), none⟩,
      ⟨some 5, .build [.bool false, .int .i64 0, .int .i64 0, .lst [] true, .int .i64 0, .lst [] true] [(1, 1, (.t 4))], none⟩,
      ⟨none, .sta 6 (.t 2) (.t 5), none⟩])
  (.ret))),
  [.ca 2 6]⟩
/-- bezel/types.ListOf -/
def a23 : AFunc := ⟨.seq (.reg [
      ⟨some 1, .box (.t 0), none⟩,
      ⟨some 2, .alloc [.bool false, .int .i64 0, .int .i64 0, .lst [] true, .int .i64 0, .lst [] true], none⟩])
  (.seq (.prune [1, 2]) (.seq (.reg [
      ⟨some 3, .lda 6 (.t 1), none⟩,
      ⟨some 4, .bsl 6 (.agg [.bool false, .int .i64 0, .int .i64 0, .lst [] true, .int .i64 0, .lst [] true]) 1 [(0, (.t 3))], none⟩,
      ⟨some 5, .build [.bool false, .int .i64 0, .int .i64 0, .lst [] true, .int .i64 0, .lst [] true] [(1, 1, (.c (.int .i64 16))), (2, 1, (.c (.int .i64 2))), (3, 1, (.t 4))], none⟩,
      ⟨none, .sta 6 (.t 2) (.t 5), none⟩])
  (.ret))),
  [.ca 2 6]⟩
/-- bezel/bezelref05.ListOf -/
def a24 : AFunc := ⟨.seq (.reg [
      ⟨some 1, .box (.t 0), none⟩,
      ⟨some 2, .alloc [.bool false, .int .i64 0, .int .i64 0, .lst [] true, .int .i64 0, .lst [] true], none⟩])
  (.seq (.prune [1, 2]) (.seq (.reg [
      ⟨some 3, .lda 6 (.t 1), none⟩,
      ⟨some 4, .bsl 6 (.agg [.bool false, .int .i64 0, .int .i64 0, .lst [] true, .int .i64 0, .lst [] true]) 1 [(0, (.t 3))], none⟩,
      ⟨some 5, .build [.bool false, .int .i64 0, .int .i64 0, .lst [] true, .int .i64 0, .lst [] true] [(1, 1, (.c (.int .i64 16))), (2, 1, (.c (.int .i64 2))), (3, 1, (.t 4))], none⟩,
      ⟨none, .sta 6 (.t 2) (.t 5), none⟩])
  (.ret))),
  [.ca 2 6]⟩
/-- bezel/types.Pair -/
def a25 : AFunc := ⟨.seq (.reg [
      ⟨some 2, .box (.t 0), none⟩,
      ⟨some 3, .box (.t 1), none⟩,
      ⟨some 4, .alloc [.bool false, .int .i64 0, .int .i64 0, .lst [] true, .int .i64 0, .lst [] true], none⟩])
  (.seq (.prune [2, 3, 4]) (.seq (.reg [
      ⟨some 5, .lda 6 (.t 2), none⟩,
      ⟨some 6, .lda 6 (.t 3), none⟩,
      ⟨some 7, .bsl 6 (.agg [.bool false, .int .i64 0, .int .i64 0, .lst [] true, .int .i64 0, .lst [] true]) 2 [(0, (.t 5)), (1, (.t 6))], none⟩,
      ⟨some 8, .build [.bool false, .int .i64 0, .int .i64 0, .lst [] true, .int .i64 0, .lst [] true] [(2, 1, (.c (.int .i64 1))), (3, 1, (.t 7))], none⟩,
      ⟨none, .sta 6 (.t 4) (.t 8), none⟩])
  (.ret))),
  [.ca 4 6]⟩
/-- bezel/types.Fun -/
def a26 : AFunc := ⟨.seq (.reg [
      ⟨some 2, .box (.t 0), none⟩,
      ⟨some 4, .alloc [.bool false, .int .i64 0, .int .i64 0, .lst [] true, .int .i64 0, .lst [] true], none⟩])
  (.seq (.prune [1, 2, 4]) (.seq (.draw 1 [
      (⟨some 5, .mv (.t 1), none⟩, 0, []),
      (⟨some 6, .call true 38 [(.t 5)], none⟩, 0, [0]),
      (⟨some 7, .lda 6 (.t 2), none⟩, 0, []),
      (⟨some 8, .bsl 6 (.agg [.bool false, .int .i64 0, .int .i64 0, .lst [] true, .int .i64 0, .lst [] true]) 1 [(0, (.t 7))], none⟩, 0, [2]),
      (⟨some 9, .app 6 80 false (.t 6) (.t 8), none⟩, 0, [0, 1, 2, 3]),
      (⟨some 10, .build [.bool false, .int .i64 0, .int .i64 0, .lst [] true, .int .i64 0, .lst [] true] [(4, 1, (.c (.int .i64 1))), (5, 1, (.t 9))], none⟩, 0, [0, 1, 2, 3, 4]),
      (⟨none, .sta 6 (.t 4) (.t 10), none⟩, 0, [0, 1, 2, 3, 4, 5])])
  (.ret))),
  [.ca 4 6]⟩
/-- bezel/types.All -/
def a27 : AFunc := ⟨.seq (.reg [
      ⟨some 0, .alloc [.bool false, .int .i64 0, .int .i64 0, .lst [] true, .int .i64 0, .lst [] true], none⟩])
  (.seq (.prune [0]) (.seq (.reg [
      ⟨some 1, .build [.bool false, .int .i64 0, .int .i64 0, .lst [] true, .int .i64 0, .lst [] true] [(0, 1, (.c (.bool true)))], none⟩,
      ⟨none, .sta 6 (.t 0) (.t 1), none⟩])
  (.ret))),
  [.ca 0 6]⟩
/-- bezel/types.Datum -/
def a28 : AFunc := ⟨.seq (.reg [
      ⟨some 1, .box (.t 0), none⟩,
      ⟨some 2, .alloc [.int .i64 0, .str [], .lst [] true], none⟩,
      ⟨some 3, .mv (.c (.int .i64 0)), none⟩])
  (.seq (.prune [1, 2]) (.seq (.seq (.reg [
        ⟨some 4, .lda 6 (.t 1), none⟩,
        ⟨some 5, .call false 10 [(.t 4)], none⟩,
        ⟨some 6, .un .not (.t 5), none⟩])
    (.seq (.prune [1, 2, 6]) (.cond (.t 6) (.seq (.reg [
          ⟨some 7, .build [.int .i64 0, .str [], .lst [] true] [], none⟩,
          ⟨none, .sta 3 (.t 2) (.t 7), none⟩,
          ⟨some 3, .mv (.c (.int .i64 1)), none⟩])
      (.ret))
    (.skip))))
  (.seq (.prune [1, 2]) (.seq (.reg [
      ⟨some 8, .lda 6 (.t 1), none⟩,
      ⟨some 9, .call false 39 [(.t 8)], none⟩,
      ⟨none, .sta 3 (.t 2) (.t 9), none⟩,
      ⟨some 3, .mv (.c (.int .i64 0)), none⟩])
  (.ret))))),
  [.ca 2 3, .t 3]⟩
/-- bezel/types.Read -/
def a29 : AFunc := ⟨.seq (.reg [
      ⟨some 1, .box (.t 0), none⟩,
      ⟨some 2, .alloc [.bool false, .int .i64 0, .int .i64 0, .lst [] true, .int .i64 0, .lst [] true], none⟩,
      ⟨some 3, .mv (.c (.int .i64 0)), none⟩])
  (.seq (.prune [1, 2]) (.seq (.reg [
      ⟨some 7, .lda 3 (.t 1), none⟩,
      ⟨some 8, .call false 40 [(.t 7)], none⟩,
      ⟨some 6, .mv (.t 8), none⟩,
      ⟨some 9, .ext 0 (.t 6), none⟩,
      ⟨some 10, .ext 1 (.t 6), none⟩,
      ⟨some 4, .alloc [.bool false, .int .i64 0, .int .i64 0, .lst [] true, .int .i64 0, .lst [] true], none⟩,
      ⟨none, .sta 6 (.t 4) (.t 9), none⟩,
      ⟨some 5, .mv (.t 10), none⟩])
  (.seq (.prune [2, 4, 5]) (.seq (.block 0 (.seq (.reg [
          ⟨some 12, .mv (.t 5), none⟩,
          ⟨some 13, .un .not (.t 12), none⟩,
          ⟨some 11, .mv (.t 13), none⟩])
      (.seq (.prune [2, 4, 11]) (.cond (.t 11) (.seq (.reg [
            ⟨some 14, .build [.bool false, .int .i64 0, .int .i64 0, .lst [] true, .int .i64 0, .lst [] true] [], none⟩,
            ⟨none, .sta 6 (.t 2) (.t 14), none⟩,
            ⟨some 3, .mv (.c (.int .i64 2)), none⟩])
        (.ret))
      (.seq (.reg [
            ⟨some 16, .lda 6 (.t 4), none⟩,
            ⟨some 17, .call false 10 [(.t 16)], none⟩,
            ⟨some 18, .un .not (.t 17), none⟩,
            ⟨some 15, .mv (.t 18), none⟩])
        (.seq (.prune [2, 4, 15]) (.cond (.t 15) (.seq (.reg [
              ⟨some 19, .build [.bool false, .int .i64 0, .int .i64 0, .lst [] true, .int .i64 0, .lst [] true] [], none⟩,
              ⟨none, .sta 6 (.t 2) (.t 19), none⟩,
              ⟨some 3, .mv (.c (.int .i64 13)), none⟩])
          (.ret))
        (.skip))))))))
  (.seq (.prune [2, 4]) (.seq (.reg [
      ⟨some 20, .lda 6 (.t 4), none⟩,
      ⟨none, .sta 6 (.t 2) (.t 20), none⟩,
      ⟨some 3, .mv (.c (.int .i64 0)), none⟩])
  (.ret))))))),
  [.ca 2 6, .t 3]⟩
/-- bezel/bezelref05.Size -/
def a30 : AFunc := ⟨.seq (.reg [
      ⟨some 2, .box (.t 0), none⟩,
      ⟨some 4, .mv (.c (.int .i64 0)), none⟩])
  (.seq (.prune [1, 2]) (.seq (.seq (.reg [
        ⟨some 8, .mv (.t 1), none⟩,
        ⟨some 9, .bin .eql (.t 8) (.c (.int .i64 0)), none⟩])
    (.seq (.prune [1, 2, 9]) (.cond (.t 9) (.seq (.reg [
          ⟨some 4, .mv (.c (.int .i64 1000)), none⟩])
      (.ret))
    (.skip))))
  (.seq (.prune [1, 2]) (.seq (.reg [
      ⟨some 5, .mv (.c (.int .i64 1)), none⟩])
  (.seq (.prune [1, 2, 5]) (.seq (.seq (.reg [
        ⟨some 6, .mv (.c (.int .i64 0)), none⟩])
    (.seq (.prune [1, 2, 5, 6]) (.block 0 (.loop [5, 6, 1, 2] (.seq (.seq (.reg [
              ⟨some 10, .mv (.t 6), none⟩,
              ⟨some 11, .fa 3 (.t 2), none⟩,
              ⟨some 12, .lds (.t 11), none⟩,
              ⟨some 13, .len .slice (.t 12), none⟩,
              ⟨some 14, .bin .lss (.t 10) (.t 13), none⟩,
              ⟨some 15, .mv (.t 14), none⟩,
              ⟨some 16, .mv (.t 5), some (15, true)⟩,
              ⟨some 17, .bin .lss (.t 16) (.c (.int .i64 1000)), some (15, true)⟩,
              ⟨some 18, .pick (.t 15) (.t 17) (.c (.bool false)), none⟩])
          (.seq (.prune [1, 2, 5, 6, 18]) (.cond (.t 18) (.skip)
          (.exit 0))))
        (.seq (.prune [1, 2, 5, 6]) (.seq (.block 1 (.reg [
              ⟨some 21, .mv (.t 5), none⟩,
              ⟨some 22, .fa 3 (.t 2), none⟩,
              ⟨some 23, .lds (.t 22), none⟩,
              ⟨some 24, .mv (.t 6), none⟩,
              ⟨some 25, .ia 6 (.t 23) (.t 24), none⟩,
              ⟨some 26, .lda 6 (.t 25), none⟩,
              ⟨some 27, .mv (.t 1), none⟩,
              ⟨some 28, .bin .sub (.t 27) (.c (.int .i64 1)), none⟩,
              ⟨some 29, .call false 30 [(.t 26), (.t 28)], none⟩,
              ⟨some 30, .bin .add (.t 21) (.t 29), none⟩,
              ⟨some 5, .mv (.t 30), none⟩]))
        (.seq (.prune [1, 2, 5, 6]) (.reg [
          ⟨some 19, .mv (.t 6), none⟩,
          ⟨some 20, .bin .add (.t 19) (.c (.int .i64 1)), none⟩,
          ⟨some 6, .mv (.t 20), none⟩])))))))))
  (.seq (.prune [1, 2, 5]) (.seq (.seq (.reg [
        ⟨some 7, .mv (.c (.int .i64 0)), none⟩])
    (.seq (.prune [1, 2, 5, 7]) (.block 2 (.loop [5, 7, 1, 2] (.seq (.seq (.reg [
              ⟨some 31, .mv (.t 7), none⟩,
              ⟨some 32, .fa 5 (.t 2), none⟩,
              ⟨some 33, .lds (.t 32), none⟩,
              ⟨some 34, .len .slice (.t 33), none⟩,
              ⟨some 35, .bin .lss (.t 31) (.t 34), none⟩,
              ⟨some 36, .mv (.t 35), none⟩,
              ⟨some 37, .mv (.t 5), some (36, true)⟩,
              ⟨some 38, .bin .lss (.t 37) (.c (.int .i64 1000)), some (36, true)⟩,
              ⟨some 39, .pick (.t 36) (.t 38) (.c (.bool false)), none⟩])
          (.seq (.prune [1, 2, 5, 7, 39]) (.cond (.t 39) (.skip)
          (.exit 2))))
        (.seq (.prune [1, 2, 5, 7]) (.seq (.block 3 (.reg [
              ⟨some 42, .mv (.t 5), none⟩,
              ⟨some 43, .fa 5 (.t 2), none⟩,
              ⟨some 44, .lds (.t 43), none⟩,
              ⟨some 45, .mv (.t 7), none⟩,
              ⟨some 46, .ia 6 (.t 44) (.t 45), none⟩,
              ⟨some 47, .lda 6 (.t 46), none⟩,
              ⟨some 48, .mv (.t 1), none⟩,
              ⟨some 49, .bin .sub (.t 48) (.c (.int .i64 1)), none⟩,
              ⟨some 50, .call false 30 [(.t 47), (.t 49)], none⟩,
              ⟨some 51, .bin .add (.t 42) (.t 50), none⟩,
              ⟨some 5, .mv (.t 51), none⟩]))
        (.seq (.prune [1, 2, 5, 7]) (.reg [
          ⟨some 40, .mv (.t 7), none⟩,
          ⟨some 41, .bin .add (.t 40) (.c (.int .i64 1)), none⟩,
          ⟨some 7, .mv (.t 41), none⟩])))))))))
  (.seq (.prune [5]) (.seq (.reg [
      ⟨some 52, .mv (.t 5), none⟩,
      ⟨some 53, .mm false (.t 52) (.c (.int .i64 1000)), none⟩,
      ⟨some 4, .mv (.t 53), none⟩])
  (.ret))))))))))),
  [.t 4]⟩
/-- bezel/types.count -/
def a31 : AFunc := ⟨.seq (.reg [
      ⟨some 2, .box (.t 0), none⟩,
      ⟨some 4, .mv (.c (.int .i64 0)), none⟩])
  (.seq (.prune [1, 2]) (.seq (.reg [
      ⟨some 7, .mv (.t 1), none⟩,
      ⟨some 8, .bin .sub (.t 7) (.c (.int .i64 1)), none⟩,
      ⟨some 1, .mv (.t 8), none⟩])
  (.seq (.prune [1, 2]) (.seq (.seq (.reg [
        ⟨some 9, .fa 3 (.t 2), none⟩,
        ⟨some 10, .lds (.t 9), none⟩,
        ⟨some 11, .fa 5 (.t 2), none⟩,
        ⟨some 12, .lds (.t 11), none⟩,
        ⟨some 13, .bsl 1 (.lst [] true) 2 [(0, (.t 10)), (1, (.t 12))], none⟩,
        ⟨some 14, .call false 41 [(.t 13)], none⟩,
        ⟨some 15, .len .slice (.t 14), none⟩,
        ⟨some 16, .mv (.c (.int .i64 0)), none⟩])
    (.seq (.prune [1, 14, 15, 16]) (.block 0 (.loop [1, 16, 14, 15] (.seq (.reg [
            ⟨some 17, .bin .lss (.t 16) (.t 15), none⟩])
        (.seq (.prune [1, 14, 15, 16, 17]) (.seq (.cond (.t 17) (.skip)
          (.exit 0))
        (.seq (.prune [1, 14, 15, 16]) (.seq (.block 1 (.seq (.reg [
                ⟨some 18, .ia 6 (.t 14) (.t 16), none⟩,
                ⟨some 19, .lda 6 (.t 18), none⟩,
                ⟨some 6, .alloc [.bool false, .int .i64 0, .int .i64 0, .lst [] true, .int .i64 0, .lst [] true], none⟩,
                ⟨none, .sta 6 (.t 6) (.t 19), none⟩])
            (.seq (.prune [1, 6, 14, 15, 16]) (.seq (.seq (.reg [
                  ⟨some 20, .mv (.t 1), none⟩,
                  ⟨some 21, .bin .lss (.t 20) (.c (.int .i64 0)), none⟩])
              (.seq (.prune [1, 6, 14, 15, 16, 21]) (.cond (.t 21) (.exit 0)
              (.skip))))
            (.seq (.prune [1, 6, 14, 15, 16]) (.reg [
              ⟨some 22, .lda 6 (.t 6), none⟩,
              ⟨some 23, .mv (.t 1), none⟩,
              ⟨some 24, .call false 31 [(.t 22), (.t 23)], none⟩,
              ⟨some 1, .mv (.t 24), none⟩]))))))
        (.seq (.prune [1, 14, 15, 16]) (.reg [
          ⟨some 25, .bin .add (.t 16) (.c (.int .i64 1)), none⟩,
          ⟨some 16, .mv (.t 25), none⟩])))))))))))
  (.seq (.prune [1]) (.seq (.reg [
      ⟨some 26, .mv (.t 1), none⟩,
      ⟨some 4, .mv (.t 26), none⟩])
  (.ret))))))),
  [.t 4]⟩
/-- bezel/types.right -/
def a32 : AFunc := ⟨.seq (.reg [
      ⟨some 2, .box (.t 0), none⟩,
      ⟨some 3, .box (.t 1), none⟩,
      ⟨some 4, .mv (.c (.bool false)), none⟩])
  (.seq (.prune [2, 3]) (.seq (.reg [
      ⟨some 6, .mkf 42 [(.t 3)], none⟩,
      ⟨some 5, .mv (.t 6), none⟩])
  (.seq (.prune [2, 3, 5]) (.seq (.block 0 (.seq (.reg [
          ⟨some 8, .lds (.t 3), none⟩,
          ⟨some 9, .bin .eql (.t 8) (.c (.int .i64 0)), none⟩,
          ⟨some 10, .mv (.t 9), none⟩,
          ⟨some 11, .fa 1 (.t 2), some (10, false)⟩,
          ⟨some 12, .lds (.t 11), some (10, false)⟩,
          ⟨some 13, .bin .andNot (.t 12) (.c (.int .i64 63)), some (10, false)⟩,
          ⟨some 14, .bin .neq (.t 13) (.c (.int .i64 0)), some (10, false)⟩,
          ⟨some 15, .pick (.t 10) (.c (.bool true)) (.t 14), none⟩,
          ⟨some 16, .mv (.t 15), none⟩,
          ⟨some 17, .fa 2 (.t 2), some (16, false)⟩,
          ⟨some 18, .lds (.t 17), some (16, false)⟩,
          ⟨some 19, .bin .lss (.t 18) (.c (.int .i64 0)), some (16, false)⟩,
          ⟨some 20, .pick (.t 16) (.c (.bool true)) (.t 19), none⟩,
          ⟨some 21, .mv (.t 20), none⟩,
          ⟨some 22, .fa 2 (.t 2), some (21, false)⟩,
          ⟨some 23, .lds (.t 22), some (21, false)⟩,
          ⟨some 24, .bin .gtr (.t 23) (.c (.int .i64 2)), some (21, false)⟩,
          ⟨some 25, .pick (.t 21) (.c (.bool true)) (.t 24), none⟩,
          ⟨some 26, .mv (.t 25), none⟩,
          ⟨some 27, .fa 4 (.t 2), some (26, false)⟩,
          ⟨some 28, .lds (.t 27), some (26, false)⟩,
          ⟨some 29, .bin .lss (.t 28) (.c (.int .i64 0)), some (26, false)⟩,
          ⟨some 30, .pick (.t 26) (.c (.bool true)) (.t 29), none⟩,
          ⟨some 31, .mv (.t 30), none⟩,
          ⟨some 32, .fa 4 (.t 2), some (31, false)⟩,
          ⟨some 33, .lds (.t 32), some (31, false)⟩,
          ⟨some 34, .bin .gtr (.t 33) (.c (.int .i64 2)), some (31, false)⟩,
          ⟨some 35, .pick (.t 31) (.c (.bool true)) (.t 34), none⟩,
          ⟨some 7, .mv (.t 35), none⟩])
      (.seq (.prune [2, 5, 7]) (.cond (.t 7) (.seq (.reg [
            ⟨some 4, .mv (.c (.bool false)), none⟩])
        (.ret))
      (.seq (.reg [
            ⟨some 37, .fa 0 (.t 2), none⟩,
            ⟨some 38, .lds (.t 37), none⟩,
            ⟨some 39, .mv (.t 38), none⟩,
            ⟨some 40, .fa 1 (.t 2), some (39, true)⟩,
            ⟨some 41, .lds (.t 40), some (39, true)⟩,
            ⟨some 42, .fa 2 (.t 2), some (39, true)⟩,
            ⟨some 43, .lds (.t 42), some (39, true)⟩,
            ⟨some 44, .bin .or (.t 41) (.t 43), some (39, true)⟩,
            ⟨some 45, .fa 4 (.t 2), some (39, true)⟩,
            ⟨some 46, .lds (.t 45), some (39, true)⟩,
            ⟨some 47, .bin .or (.t 44) (.t 46), some (39, true)⟩,
            ⟨some 48, .bin .neq (.t 47) (.c (.int .i64 0)), some (39, true)⟩,
            ⟨some 49, .pick (.t 39) (.t 48) (.c (.bool false)), none⟩,
            ⟨some 36, .mv (.t 49), none⟩])
        (.seq (.prune [2, 5, 36]) (.cond (.t 36) (.seq (.reg [
              ⟨some 4, .mv (.c (.bool false)), none⟩])
          (.ret))
        (.seq (.draw 0 [
              (⟨some 51, .fa 3 (.t 2), none⟩, 0, []),
              (⟨some 52, .lds (.t 51), none⟩, 0, [0]),
              (⟨some 53, .len .slice (.t 52), none⟩, 0, [0, 1]),
              (⟨some 54, .build [.int .i64 0, .int .i64 0, .int .i64 0] [(0, 1, (.c (.int .i64 0))), (1, 1, (.c (.int .i64 2))), (2, 1, (.c (.int .i64 1)))], none⟩, 0, []),
              (⟨some 55, .fa 2 (.t 2), none⟩, 0, []),
              (⟨some 56, .lds (.t 55), none⟩, 0, [4]),
              (⟨some 57, .ixa 3 1 none (.t 54) (.t 56), none⟩, 0, [3, 4, 5]),
              (⟨some 58, .bin .neq (.t 53) (.t 57), none⟩, 0, [0, 1, 2, 3, 4, 5, 6]),
              (⟨some 50, .mv (.t 58), none⟩, 0, [0, 1, 2, 3, 4, 5, 6, 7])])
          (.seq (.prune [2, 5, 50]) (.cond (.t 50) (.seq (.reg [
                ⟨some 4, .mv (.c (.bool false)), none⟩])
            (.ret))
          (.seq (.reg [
                ⟨some 60, .fa 4 (.t 2), none⟩,
                ⟨some 61, .lds (.t 60), none⟩,
                ⟨some 62, .bin .eql (.t 61) (.c (.int .i64 1)), none⟩,
                ⟨some 63, .mv (.t 62), none⟩,
                ⟨some 64, .fa 5 (.t 2), some (63, true)⟩,
                ⟨some 65, .lds (.t 64), some (63, true)⟩,
                ⟨some 66, .len .slice (.t 65), some (63, true)⟩,
                ⟨some 67, .bin .lss (.t 66) (.c (.int .i64 1)), some (63, true)⟩,
                ⟨some 68, .mv (.t 67), some (63, true)⟩,
                ⟨some 69, .fa 5 (.t 2), some (68, false)⟩,
                ⟨some 70, .lds (.t 69), some (68, false)⟩,
                ⟨some 71, .len .slice (.t 70), some (68, false)⟩,
                ⟨some 72, .bin .gtr (.t 71) (.c (.int .i64 9)), some (68, false)⟩,
                ⟨some 73, .pick (.t 68) (.c (.bool true)) (.t 72), some (63, true)⟩,
                ⟨some 74, .pick (.t 63) (.t 73) (.c (.bool false)), none⟩,
                ⟨some 75, .mv (.t 74), none⟩,
                ⟨some 76, .fa 4 (.t 2), some (75, false)⟩,
                ⟨some 77, .lds (.t 76), some (75, false)⟩,
                ⟨some 78, .bin .neq (.t 77) (.c (.int .i64 1)), some (75, false)⟩,
                ⟨some 79, .mv (.t 78), some (75, false)⟩,
                ⟨some 80, .fa 5 (.t 2), some (79, true)⟩,
                ⟨some 81, .lds (.t 80), some (79, true)⟩,
                ⟨some 82, .len .slice (.t 81), some (79, true)⟩,
                ⟨some 83, .bin .gtr (.t 82) (.c (.int .i64 0)), some (79, true)⟩,
                ⟨some 84, .pick (.t 79) (.t 83) (.c (.bool false)), some (75, false)⟩,
                ⟨some 85, .pick (.t 75) (.c (.bool true)) (.t 84), none⟩,
                ⟨some 59, .mv (.t 85), none⟩])
            (.seq (.prune [2, 5, 59]) (.cond (.t 59) (.seq (.reg [
                  ⟨some 4, .mv (.c (.bool false)), none⟩])
              (.ret))
            (.skip))))))))))))))
  (.seq (.prune [2, 5]) (.seq (.reg [
      ⟨some 86, .fa 3 (.t 2), none⟩,
      ⟨some 87, .lds (.t 86), none⟩,
      ⟨some 88, .mv (.t 5), none⟩,
      ⟨some 89, .call false 43 [(.t 87), (.t 88)], none⟩,
      ⟨some 90, .un .not (.t 89), none⟩,
      ⟨some 91, .mv (.t 90), none⟩,
      ⟨some 92, .fa 5 (.t 2), some (91, true)⟩,
      ⟨some 93, .lds (.t 92), some (91, true)⟩,
      ⟨some 94, .mv (.t 5), some (91, true)⟩,
      ⟨some 95, .call false 43 [(.t 93), (.t 94)], some (91, true)⟩,
      ⟨some 96, .un .not (.t 95), some (91, true)⟩,
      ⟨some 97, .pick (.t 91) (.t 96) (.c (.bool false)), none⟩,
      ⟨some 4, .mv (.t 97), none⟩])
  (.ret))))))),
  [.t 4]⟩
/-- bezel/bezelref05.deep -/
def a33 : AFunc := ⟨.seq (.reg [
      ⟨some 2, .box (.t 0), none⟩,
      ⟨some 4, .mv (.c (.bool false)), none⟩])
  (.seq (.prune [1, 2]) (.seq (.seq (.reg [
        ⟨some 8, .mv (.t 1), none⟩,
        ⟨some 9, .bin .eql (.t 8) (.c (.int .i64 0)), none⟩,
        ⟨some 10, .mv (.t 9), none⟩,
        ⟨some 11, .fa 1 (.t 2), some (10, false)⟩,
        ⟨some 12, .lds (.t 11), some (10, false)⟩,
        ⟨some 13, .bin .lss (.t 12) (.c (.int .i64 0)), some (10, false)⟩,
        ⟨some 14, .pick (.t 10) (.c (.bool true)) (.t 13), none⟩,
        ⟨some 15, .mv (.t 14), none⟩,
        ⟨some 16, .fa 1 (.t 2), some (15, false)⟩,
        ⟨some 17, .lds (.t 16), some (15, false)⟩,
        ⟨some 18, .bin .gtr (.t 17) (.c (.int .i64 63)), some (15, false)⟩,
        ⟨some 19, .pick (.t 15) (.c (.bool true)) (.t 18), none⟩,
        ⟨some 20, .mv (.t 19), none⟩,
        ⟨some 21, .fa 2 (.t 2), some (20, false)⟩,
        ⟨some 22, .lds (.t 21), some (20, false)⟩,
        ⟨some 23, .bin .lss (.t 22) (.c (.int .i64 0)), some (20, false)⟩,
        ⟨some 24, .pick (.t 20) (.c (.bool true)) (.t 23), none⟩,
        ⟨some 25, .mv (.t 24), none⟩,
        ⟨some 26, .fa 2 (.t 2), some (25, false)⟩,
        ⟨some 27, .lds (.t 26), some (25, false)⟩,
        ⟨some 28, .bin .gtr (.t 27) (.c (.int .i64 2)), some (25, false)⟩,
        ⟨some 29, .pick (.t 25) (.c (.bool true)) (.t 28), none⟩,
        ⟨some 30, .mv (.t 29), none⟩,
        ⟨some 31, .fa 4 (.t 2), some (30, false)⟩,
        ⟨some 32, .lds (.t 31), some (30, false)⟩,
        ⟨some 33, .bin .lss (.t 32) (.c (.int .i64 0)), some (30, false)⟩,
        ⟨some 34, .pick (.t 30) (.c (.bool true)) (.t 33), none⟩,
        ⟨some 35, .mv (.t 34), none⟩,
        ⟨some 36, .fa 4 (.t 2), some (35, false)⟩,
        ⟨some 37, .lds (.t 36), some (35, false)⟩,
        ⟨some 38, .bin .gtr (.t 37) (.c (.int .i64 2)), some (35, false)⟩,
        ⟨some 39, .pick (.t 35) (.c (.bool true)) (.t 38), none⟩])
    (.seq (.prune [1, 2, 39]) (.cond (.t 39) (.seq (.reg [
          ⟨some 4, .mv (.c (.bool false)), none⟩])
      (.ret))
    (.skip))))
  (.seq (.prune [1, 2]) (.seq (.seq (.reg [
        ⟨some 40, .fa 0 (.t 2), none⟩,
        ⟨some 41, .lds (.t 40), none⟩,
        ⟨some 42, .mv (.t 41), none⟩,
        ⟨some 43, .fa 1 (.t 2), some (42, true)⟩,
        ⟨some 44, .lds (.t 43), some (42, true)⟩,
        ⟨some 45, .bin .neq (.t 44) (.c (.int .i64 0)), some (42, true)⟩,
        ⟨some 46, .mv (.t 45), some (42, true)⟩,
        ⟨some 47, .fa 2 (.t 2), some (46, false)⟩,
        ⟨some 48, .lds (.t 47), some (46, false)⟩,
        ⟨some 49, .bin .neq (.t 48) (.c (.int .i64 0)), some (46, false)⟩,
        ⟨some 50, .pick (.t 46) (.c (.bool true)) (.t 49), some (42, true)⟩,
        ⟨some 51, .mv (.t 50), some (42, true)⟩,
        ⟨some 52, .fa 4 (.t 2), some (51, false)⟩,
        ⟨some 53, .lds (.t 52), some (51, false)⟩,
        ⟨some 54, .bin .neq (.t 53) (.c (.int .i64 0)), some (51, false)⟩,
        ⟨some 55, .pick (.t 51) (.c (.bool true)) (.t 54), some (42, true)⟩,
        ⟨some 56, .pick (.t 42) (.t 55) (.c (.bool false)), none⟩])
    (.seq (.prune [1, 2, 56]) (.cond (.t 56) (.seq (.reg [
          ⟨some 4, .mv (.c (.bool false)), none⟩])
      (.ret))
    (.skip))))
  (.seq (.prune [1, 2]) (.seq (.reg [
      ⟨some 57, .bsl 1 (.int .i64 0) 3 [(0, (.c (.int .i64 0))), (1, (.c (.int .i64 2))), (2, (.c (.int .i64 1)))], none⟩,
      ⟨some 5, .mv (.t 57), none⟩])
  (.seq (.prune [1, 2, 5]) (.seq (.seq (.draw 0 [
        (⟨some 58, .fa 3 (.t 2), none⟩, 0, []),
        (⟨some 59, .lds (.t 58), none⟩, 0, [0]),
        (⟨some 60, .len .slice (.t 59), none⟩, 0, [0, 1]),
        (⟨some 61, .mv (.t 5), none⟩, 0, []),
        (⟨some 62, .fa 2 (.t 2), none⟩, 0, []),
        (⟨some 63, .lds (.t 62), none⟩, 0, [4]),
        (⟨some 64, .ia 1 (.t 61) (.t 63), none⟩, 0, [3, 4, 5]),
        (⟨some 65, .lds (.t 64), none⟩, 0, [3, 4, 5, 6]),
        (⟨some 66, .bin .neq (.t 60) (.t 65), none⟩, 0, [0, 1, 2, 3, 4, 5, 6, 7]),
        (⟨some 67, .mv (.t 66), none⟩, 0, [0, 1, 2, 3, 4, 5, 6, 7, 8]),
        (⟨some 68, .fa 4 (.t 2), some (67, false)⟩, 0, [0, 1, 2, 3, 4, 5, 6, 7, 8, 9]),
        (⟨some 69, .lds (.t 68), some (67, false)⟩, 0, [0, 1, 2, 3, 4, 5, 6, 7, 8, 9, 10]),
        (⟨some 70, .bin .neq (.t 69) (.c (.int .i64 1)), some (67, false)⟩, 0, [0, 1, 2, 3, 4, 5, 6, 7, 8, 9, 10, 11]),
        (⟨some 71, .mv (.t 70), some (67, false)⟩, 0, [0, 1, 2, 3, 4, 5, 6, 7, 8, 9, 10, 11, 12]),
        (⟨some 72, .fa 5 (.t 2), some (71, true)⟩, 0, [0, 1, 2, 3, 4, 5, 6, 7, 8, 9, 10, 11, 12, 13]),
        (⟨some 73, .lds (.t 72), some (71, true)⟩, 0, [0, 1, 2, 3, 4, 5, 6, 7, 8, 9, 10, 11, 12, 13, 14]),
        (⟨some 74, .len .slice (.t 73), some (71, true)⟩, 0, [0, 1, 2, 3, 4, 5, 6, 7, 8, 9, 10, 11, 12, 13, 14, 15]),
        (⟨some 75, .bin .neq (.t 74) (.c (.int .i64 0)), some (71, true)⟩, 0, [0, 1, 2, 3, 4, 5, 6, 7, 8, 9, 10, 11, 12, 13, 14, 15, 16]),
        (⟨some 76, .pick (.t 71) (.t 75) (.c (.bool false)), some (67, false)⟩, 0, [0, 1, 2, 3, 4, 5, 6, 7, 8, 9, 10, 11, 12, 13, 14, 15, 16, 17]),
        (⟨some 77, .pick (.t 67) (.c (.bool true)) (.t 76), none⟩, 0, [0, 1, 2, 3, 4, 5, 6, 7, 8, 9, 10, 11, 12, 13, 14, 15, 16, 17, 18]),
        (⟨some 78, .mv (.t 77), none⟩, 0, [0, 1, 2, 3, 4, 5, 6, 7, 8, 9, 10, 11, 12, 13, 14, 15, 16, 17, 18, 19]),
        (⟨some 79, .fa 4 (.t 2), some (78, false)⟩, 0, [0, 1, 2, 3, 4, 5, 6, 7, 8, 9, 10, 11, 12, 13, 14, 15, 16, 17, 18, 19, 20]),
        (⟨some 80, .lds (.t 79), some (78, false)⟩, 0, [0, 1, 2, 3, 4, 5, 6, 7, 8, 9, 10, 11, 12, 13, 14, 15, 16, 17, 18, 19, 20, 21]),
        (⟨some 81, .bin .eql (.t 80) (.c (.int .i64 1)), some (78, false)⟩, 0, [0, 1, 2, 3, 4, 5, 6, 7, 8, 9, 10, 11, 12, 13, 14, 15, 16, 17, 18, 19, 20, 21, 22]),
        (⟨some 82, .mv (.t 81), some (78, false)⟩, 0, [0, 1, 2, 3, 4, 5, 6, 7, 8, 9, 10, 11, 12, 13, 14, 15, 16, 17, 18, 19, 20, 21, 22, 23]),
        (⟨some 83, .fa 5 (.t 2), some (82, true)⟩, 0, [0, 1, 2, 3, 4, 5, 6, 7, 8, 9, 10, 11, 12, 13, 14, 15, 16, 17, 18, 19, 20, 21, 22, 23, 24]),
        (⟨some 84, .lds (.t 83), some (82, true)⟩, 0, [0, 1, 2, 3, 4, 5, 6, 7, 8, 9, 10, 11, 12, 13, 14, 15, 16, 17, 18, 19, 20, 21, 22, 23, 24, 25]),
        (⟨some 85, .len .slice (.t 84), some (82, true)⟩, 0, [0, 1, 2, 3, 4, 5, 6, 7, 8, 9, 10, 11, 12, 13, 14, 15, 16, 17, 18, 19, 20, 21, 22, 23, 24, 25, 26]),
        (⟨some 86, .bin .lss (.t 85) (.c (.int .i64 1)), some (82, true)⟩, 0, [0, 1, 2, 3, 4, 5, 6, 7, 8, 9, 10, 11, 12, 13, 14, 15, 16, 17, 18, 19, 20, 21, 22, 23, 24, 25, 26, 27]),
        (⟨some 87, .mv (.t 86), some (82, true)⟩, 0, [0, 1, 2, 3, 4, 5, 6, 7, 8, 9, 10, 11, 12, 13, 14, 15, 16, 17, 18, 19, 20, 21, 22, 23, 24, 25, 26, 27, 28]),
        (⟨some 88, .fa 5 (.t 2), some (87, false)⟩, 0, [0, 1, 2, 3, 4, 5, 6, 7, 8, 9, 10, 11, 12, 13, 14, 15, 16, 17, 18, 19, 20, 21, 22, 23, 24, 25, 26, 27, 28, 29]),
        (⟨some 89, .lds (.t 88), some (87, false)⟩, 0, [0, 1, 2, 3, 4, 5, 6, 7, 8, 9, 10, 11, 12, 13, 14, 15, 16, 17, 18, 19, 20, 21, 22, 23, 24, 25, 26, 27, 28, 29, 30]),
        (⟨some 90, .len .slice (.t 89), some (87, false)⟩, 0, [0, 1, 2, 3, 4, 5, 6, 7, 8, 9, 10, 11, 12, 13, 14, 15, 16, 17, 18, 19, 20, 21, 22, 23, 24, 25, 26, 27, 28, 29, 30, 31]),
        (⟨some 91, .bin .gtr (.t 90) (.c (.int .i64 9)), some (87, false)⟩, 0, [0, 1, 2, 3, 4, 5, 6, 7, 8, 9, 10, 11, 12, 13, 14, 15, 16, 17, 18, 19, 20, 21, 22, 23, 24, 25, 26, 27, 28, 29, 30, 31, 32]),
        (⟨some 92, .pick (.t 87) (.c (.bool true)) (.t 91), some (82, true)⟩, 0, [0, 1, 2, 3, 4, 5, 6, 7, 8, 9, 10, 11, 12, 13, 14, 15, 16, 17, 18, 19, 20, 21, 22, 23, 24, 25, 26, 27, 28, 29, 30, 31, 32, 33]),
        (⟨some 93, .pick (.t 82) (.t 92) (.c (.bool false)), some (78, false)⟩, 0, [0, 1, 2, 3, 4, 5, 6, 7, 8, 9, 10, 11, 12, 13, 14, 15, 16, 17, 18, 19, 20, 21, 22, 23, 24, 25, 26, 27, 28, 29, 30, 31, 32, 33, 34]),
        (⟨some 94, .pick (.t 78) (.c (.bool true)) (.t 93), none⟩, 0, [0, 1, 2, 3, 4, 5, 6, 7, 8, 9, 10, 11, 12, 13, 14, 15, 16, 17, 18, 19, 20, 21, 22, 23, 24, 25, 26, 27, 28, 29, 30, 31, 32, 33, 34, 35])])
    (.seq (.prune [1, 2, 94]) (.cond (.t 94) (.seq (.reg [
          ⟨some 4, .mv (.c (.bool false)), none⟩])
      (.ret))
    (.skip))))
  (.seq (.prune [1, 2]) (.seq (.seq (.reg [
        ⟨some 6, .mv (.c (.int .i64 0)), none⟩])
    (.seq (.prune [1, 2, 6]) (.block 0 (.loop [6, 1, 2] (.seq (.seq (.reg [
              ⟨some 95, .mv (.t 6), none⟩,
              ⟨some 96, .fa 3 (.t 2), none⟩,
              ⟨some 97, .lds (.t 96), none⟩,
              ⟨some 98, .len .slice (.t 97), none⟩,
              ⟨some 99, .bin .lss (.t 95) (.t 98), none⟩])
          (.seq (.prune [1, 2, 6, 99]) (.cond (.t 99) (.skip)
          (.exit 0))))
        (.seq (.prune [1, 2, 6]) (.seq (.block 1 (.seq (.reg [
                ⟨some 102, .fa 3 (.t 2), none⟩,
                ⟨some 103, .lds (.t 102), none⟩,
                ⟨some 104, .mv (.t 6), none⟩,
                ⟨some 105, .ia 6 (.t 103) (.t 104), none⟩,
                ⟨some 106, .lda 6 (.t 105), none⟩,
                ⟨some 107, .mv (.t 1), none⟩,
                ⟨some 108, .bin .sub (.t 107) (.c (.int .i64 1)), none⟩,
                ⟨some 109, .call false 33 [(.t 106), (.t 108)], none⟩,
                ⟨some 110, .un .not (.t 109), none⟩])
            (.seq (.prune [1, 2, 6, 110]) (.cond (.t 110) (.seq (.reg [
                  ⟨some 4, .mv (.c (.bool false)), none⟩])
              (.ret))
            (.skip)))))
        (.seq (.prune [1, 2, 6]) (.reg [
          ⟨some 100, .mv (.t 6), none⟩,
          ⟨some 101, .bin .add (.t 100) (.c (.int .i64 1)), none⟩,
          ⟨some 6, .mv (.t 101), none⟩])))))))))
  (.seq (.prune [1, 2]) (.seq (.seq (.reg [
        ⟨some 7, .mv (.c (.int .i64 0)), none⟩])
    (.seq (.prune [1, 2, 7]) (.block 2 (.loop [7, 1, 2] (.seq (.seq (.reg [
              ⟨some 111, .mv (.t 7), none⟩,
              ⟨some 112, .fa 5 (.t 2), none⟩,
              ⟨some 113, .lds (.t 112), none⟩,
              ⟨some 114, .len .slice (.t 113), none⟩,
              ⟨some 115, .bin .lss (.t 111) (.t 114), none⟩])
          (.seq (.prune [1, 2, 7, 115]) (.cond (.t 115) (.skip)
          (.exit 2))))
        (.seq (.prune [1, 2, 7]) (.seq (.block 3 (.seq (.reg [
                ⟨some 118, .fa 5 (.t 2), none⟩,
                ⟨some 119, .lds (.t 118), none⟩,
                ⟨some 120, .mv (.t 7), none⟩,
                ⟨some 121, .ia 6 (.t 119) (.t 120), none⟩,
                ⟨some 122, .lda 6 (.t 121), none⟩,
                ⟨some 123, .mv (.t 1), none⟩,
                ⟨some 124, .bin .sub (.t 123) (.c (.int .i64 1)), none⟩,
                ⟨some 125, .call false 33 [(.t 122), (.t 124)], none⟩,
                ⟨some 126, .un .not (.t 125), none⟩])
            (.seq (.prune [1, 2, 7, 126]) (.cond (.t 126) (.seq (.reg [
                  ⟨some 4, .mv (.c (.bool false)), none⟩])
              (.ret))
            (.skip)))))
        (.seq (.prune [1, 2, 7]) (.reg [
          ⟨some 116, .mv (.t 7), none⟩,
          ⟨some 117, .bin .add (.t 116) (.c (.int .i64 1)), none⟩,
          ⟨some 7, .mv (.t 117), none⟩])))))))))
  (.seq (.prune []) (.seq (.reg [
      ⟨some 4, .mv (.c (.bool true)), none⟩])
  (.ret))))))))))))))),
  [.t 4]⟩
/-- slices.EqualFunc[[]bezel/api.Type,[]bezel/api.Type,bezel/api.Type,bezel/api.Type] -/
def a34 : AFunc := ⟨.seq (.reg [
      ⟨some 6, .mv (.c (.bool false)), none⟩])
  (.seq (.prune [0, 1, 2]) (.seq (.seq (.reg [
        ⟨some 10, .mv (.t 0), none⟩,
        ⟨some 11, .len .slice (.t 10), none⟩,
        ⟨some 12, .mv (.t 1), none⟩,
        ⟨some 13, .len .slice (.t 12), none⟩,
        ⟨some 14, .bin .neq (.t 11) (.t 13), none⟩])
    (.seq (.prune [0, 1, 2, 14]) (.cond (.t 14) (.seq (.reg [
          ⟨some 6, .mv (.c (.bool false)), none⟩])
      (.ret))
    (.skip))))
  (.seq (.prune [0, 1, 2]) (.seq (.seq (.reg [
        ⟨some 15, .mv (.t 0), none⟩,
        ⟨some 16, .len .slice (.t 15), none⟩,
        ⟨some 17, .mv (.c (.int .i64 0)), none⟩])
    (.seq (.prune [1, 2, 15, 16, 17]) (.block 0 (.loop [17, 1, 2, 15, 16] (.seq (.reg [
            ⟨some 18, .bin .lss (.t 17) (.t 16), none⟩])
        (.seq (.prune [1, 2, 15, 16, 17, 18]) (.seq (.cond (.t 18) (.skip)
          (.exit 0))
        (.seq (.prune [1, 2, 15, 16, 17]) (.seq (.block 1 (.seq (.reg [
                ⟨some 19, .mv (.t 17), none⟩,
                ⟨some 20, .ia 6 (.t 15) (.t 17), none⟩,
                ⟨some 21, .lda 6 (.t 20), none⟩,
                ⟨some 8, .alloc [.bool false, .int .i64 0, .int .i64 0, .lst [] true, .int .i64 0, .lst [] true], none⟩,
                ⟨some 7, .mv (.t 19), none⟩,
                ⟨none, .sta 6 (.t 8) (.t 21), none⟩])
            (.seq (.prune [1, 2, 7, 8, 15, 16, 17]) (.seq (.reg [
                ⟨some 22, .mv (.t 1), none⟩,
                ⟨some 23, .mv (.t 7), none⟩,
                ⟨some 24, .ia 6 (.t 22) (.t 23), none⟩,
                ⟨some 25, .lda 6 (.t 24), none⟩,
                ⟨some 9, .alloc [.bool false, .int .i64 0, .int .i64 0, .lst [] true, .int .i64 0, .lst [] true], none⟩,
                ⟨none, .sta 6 (.t 9) (.t 25), none⟩])
            (.seq (.prune [1, 2, 8, 9, 15, 16, 17]) (.seq (.reg [
                ⟨some 26, .mv (.t 2), none⟩,
                ⟨some 27, .lda 6 (.t 8), none⟩,
                ⟨some 28, .lda 6 (.t 9), none⟩,
                ⟨some 29, .callv false (.t 26) [(.t 27), (.t 28)], none⟩,
                ⟨some 30, .un .not (.t 29), none⟩])
            (.seq (.prune [1, 2, 15, 16, 17, 30]) (.cond (.t 30) (.seq (.reg [
                  ⟨some 6, .mv (.c (.bool false)), none⟩])
              (.ret))
            (.skip)))))))))
        (.seq (.prune [1, 2, 15, 16, 17]) (.reg [
          ⟨some 31, .bin .add (.t 17) (.c (.int .i64 1)), none⟩,
          ⟨some 17, .mv (.t 31), none⟩])))))))))))
  (.seq (.prune []) (.seq (.reg [
      ⟨some 6, .mv (.c (.bool true)), none⟩])
  (.ret))))))),
  [.t 6]⟩
/-- bezel/types.both -/
def a35 : AFunc := ⟨.seq (.reg [
      ⟨some 3, .box (.t 0), none⟩,
      ⟨some 4, .box (.t 1), none⟩])
  (.seq (.prune [2, 3, 4]) (.seq (.reg [
      ⟨some 11, .lda 6 (.t 3), none⟩,
      ⟨some 12, .call false 14 [(.t 11)], none⟩,
      ⟨some 10, .mv (.t 12), none⟩,
      ⟨some 13, .ext 0 (.t 10), none⟩,
      ⟨some 14, .ext 1 (.t 10), none⟩,
      ⟨some 6, .alloc [.bool false, .int .i64 0, .int .i64 0, .lst [] true, .int .i64 0, .lst [] true], none⟩,
      ⟨none, .sta 6 (.t 6) (.t 13), none⟩,
      ⟨some 7, .mv (.t 14), none⟩])
  (.seq (.prune [2, 3, 4, 6]) (.seq (.reg [
      ⟨some 16, .lda 6 (.t 4), none⟩,
      ⟨some 17, .call false 14 [(.t 16)], none⟩,
      ⟨some 15, .mv (.t 17), none⟩,
      ⟨some 18, .ext 0 (.t 15), none⟩,
      ⟨some 19, .ext 1 (.t 15), none⟩,
      ⟨some 8, .alloc [.bool false, .int .i64 0, .int .i64 0, .lst [] true, .int .i64 0, .lst [] true], none⟩,
      ⟨none, .sta 6 (.t 8) (.t 18), none⟩,
      ⟨some 9, .mv (.t 19), none⟩])
  (.seq (.prune [2, 3, 4, 6, 8]) (.seq (.reg [
      ⟨some 20, .mv (.t 2), none⟩,
      ⟨some 21, .lda 6 (.t 6), none⟩,
      ⟨some 22, .lda 6 (.t 8), none⟩,
      ⟨some 23, .callv false (.t 20) [(.t 21), (.t 22)], none⟩])
  (.seq (.prune [2, 3, 4, 6, 8]) (.seq (.seq (.reg [
        ⟨some 24, .fa 2 (.t 3), none⟩,
        ⟨some 25, .lds (.t 24), none⟩,
        ⟨some 26, .bin .eql (.t 25) (.c (.int .i64 2)), none⟩,
        ⟨some 27, .mv (.t 26), none⟩,
        ⟨some 28, .fa 2 (.t 4), some (27, true)⟩,
        ⟨some 29, .lds (.t 28), some (27, true)⟩,
        ⟨some 30, .bin .eql (.t 29) (.c (.int .i64 2)), some (27, true)⟩,
        ⟨some 31, .pick (.t 27) (.t 30) (.c (.bool false)), none⟩])
    (.seq (.prune [2, 3, 4, 6, 8, 31]) (.cond (.t 31) (.ret)
    (.skip))))
  (.seq (.prune [2, 3, 4, 6, 8]) (.seq (.reg [
      ⟨some 33, .lda 6 (.t 3), none⟩,
      ⟨some 34, .call false 16 [(.t 33)], none⟩,
      ⟨some 32, .mv (.t 34), none⟩,
      ⟨some 35, .ext 0 (.t 32), none⟩,
      ⟨some 36, .ext 1 (.t 32), none⟩,
      ⟨none, .sta 6 (.t 6) (.t 35), none⟩])
  (.seq (.prune [2, 4, 6, 8]) (.seq (.reg [
      ⟨some 38, .lda 6 (.t 4), none⟩,
      ⟨some 39, .call false 16 [(.t 38)], none⟩,
      ⟨some 37, .mv (.t 39), none⟩,
      ⟨some 40, .ext 0 (.t 37), none⟩,
      ⟨some 41, .ext 1 (.t 37), none⟩,
      ⟨none, .sta 6 (.t 8) (.t 40), none⟩])
  (.seq (.prune [2, 6, 8]) (.reg [
    ⟨some 42, .mv (.t 2), none⟩,
    ⟨some 43, .lda 6 (.t 6), none⟩,
    ⟨some 44, .lda 6 (.t 8), none⟩,
    ⟨some 45, .callv false (.t 42) [(.t 43), (.t 44)], none⟩])))))))))))))),
  []⟩
/-- bezel/types.Join$1 -/
def a36 : AFunc := ⟨.seq (.reg [
      ⟨some 3, .box (.t 0), none⟩,
      ⟨some 4, .box (.t 1), none⟩])
  (.seq (.prune [2, 3, 4]) (.draw 1 [
    (⟨some 5, .fa 3 (.t 2), none⟩, 0, []),
    (⟨some 6, .lds (.t 5), none⟩, 0, [0]),
    (⟨some 7, .lda 6 (.t 3), none⟩, 0, []),
    (⟨some 8, .lda 6 (.t 4), none⟩, 0, []),
    (⟨some 9, .call false 18 [(.t 7), (.t 8)], none⟩, 0, [2, 3]),
    (⟨some 10, .len .slice (.t 6), none⟩, 0, [0, 1]),
    (⟨some 11, .bsl 6 (.agg [.bool false, .int .i64 0, .int .i64 0, .lst [] true, .int .i64 0, .lst [] true]) 1 [(0, (.c (.agg [.bool false, .int .i64 0, .int .i64 0, .lst [] true, .int .i64 0, .lst [] true])))], none⟩, 0, []),
    (⟨some 12, .app 6 80 true (.t 6) (.t 11), none⟩, 0, [0, 1, 2, 3, 4, 5, 6]),
    (⟨some 13, .ia 6 (.t 12) (.t 10), none⟩, 0, [0, 1, 2, 3, 4, 5, 6, 7]),
    (⟨none, .sta 6 (.t 13) (.t 9), none⟩, 0, [0, 1, 2, 3, 4, 5, 6, 7, 8]),
    (⟨some 14, .fa 3 (.t 2), none⟩, 0, [0, 1, 2, 3, 4, 5, 6, 7]),
    (⟨none, .sts (.t 14) (.t 12), none⟩, 0, [0, 1, 2, 3, 4, 5, 6, 7, 10])])),
  []⟩
/-- bezel/types.Sub$1 -/
def a37 : AFunc := ⟨.seq (.reg [
      ⟨some 3, .box (.t 0), none⟩,
      ⟨some 4, .box (.t 1), none⟩])
  (.seq (.prune [2, 3, 4]) (.reg [
    ⟨some 5, .lds (.t 2), none⟩,
    ⟨some 6, .mv (.t 5), none⟩,
    ⟨some 7, .lda 6 (.t 3), some (6, true)⟩,
    ⟨some 8, .lda 6 (.t 4), some (6, true)⟩,
    ⟨some 9, .call false 20 [(.t 7), (.t 8)], some (6, true)⟩,
    ⟨some 10, .pick (.t 6) (.t 9) (.c (.bool false)), none⟩,
    ⟨none, .sts (.t 2) (.t 10), none⟩])),
  []⟩
/-- slices.Clone[[]bezel/api.Type,bezel/api.Type] -/
def a38 : AFunc := ⟨.seq (.reg [
      ⟨some 2, .mv (.c (.lst [] true)), none⟩])
  (.seq (.prune [0]) (.seq (.seq (.reg [
        ⟨some 3, .mv (.t 0), none⟩,
        ⟨some 4, .isnil .slice false (.t 3), none⟩])
    (.seq (.prune [0, 4]) (.cond (.t 4) (.seq (.reg [
          ⟨some 2, .mv (.c (.lst [] true)), none⟩])
      (.ret))
    (.skip))))
  (.seq (.prune [0]) (.seq (.reg [
      ⟨some 5, .bsl 6 (.agg [.bool false, .int .i64 0, .int .i64 0, .lst [] true, .int .i64 0, .lst [] true]) 0 [], none⟩,
      ⟨some 6, .mv (.t 0), none⟩,
      ⟨some 7, .app 6 80 false (.t 5) (.t 6), none⟩,
      ⟨some 2, .mv (.t 7), none⟩])
  (.ret))))),
  [.t 2]⟩
/-- bezel/types.told -/
def a39 : AFunc := ⟨.seq (.reg [
      ⟨some 1, .box (.t 0), none⟩,
      ⟨some 2, .alloc [.int .i64 0, .str [], .lst [] true], none⟩])
  (.seq (.prune [1, 2]) (.seq (.seq (.reg [
        ⟨some 8, .fa 0 (.t 1), none⟩,
        ⟨some 9, .lds (.t 8), none⟩])
    (.seq (.prune [1, 2, 9]) (.cond (.t 9) (.seq (.reg [
          ⟨some 10, .call false 44 [(.c (.str [65, 110, 121]))], none⟩,
          ⟨none, .sta 3 (.t 2) (.t 10), none⟩])
      (.ret))
    (.skip))))
  (.seq (.prune [1, 2]) (.seq (.reg [
      ⟨some 3, .alloc [.lst [] true], none⟩])
  (.seq (.prune [1, 2, 3]) (.seq (.reg [
      ⟨some 11, .mkf 45 [(.t 3)], none⟩,
      ⟨some 4, .mv (.t 11), none⟩])
  (.seq (.prune [1, 2, 3, 4]) (.seq (.reg [
      ⟨some 12, .fa 2 (.t 1), none⟩,
      ⟨some 13, .lds (.t 12), none⟩,
      ⟨some 14, .bin .eql (.t 13) (.c (.int .i64 2)), none⟩,
      ⟨some 15, .mv (.t 14), none⟩,
      ⟨some 16, .fa 1 (.t 1), some (15, true)⟩,
      ⟨some 17, .lds (.t 16), some (15, true)⟩,
      ⟨some 18, .bin .and (.t 17) (.c (.int .i64 16)), some (15, true)⟩,
      ⟨some 19, .bin .neq (.t 18) (.c (.int .i64 0)), some (15, true)⟩,
      ⟨some 20, .pick (.t 15) (.t 19) (.c (.bool false)), none⟩,
      ⟨some 5, .mv (.t 20), none⟩])
  (.seq (.prune [1, 2, 3, 4, 5]) (.seq (.seq (.reg [
        ⟨some 21, .call false 47 [], none⟩,
        ⟨some 22, .mv (.c (.int .i64 0)), none⟩])
    (.seq (.prune [1, 2, 3, 4, 5, 21, 22]) (.block 0 (.seq (.own 3 (some 0))
      (.loop [22, 1, 2, 3, 4, 5, 21] (.seq (.reg [
            ⟨some 23, .bin .lss (.t 22) (.c (.int .i64 6)), none⟩])
        (.seq (.prune [1, 2, 3, 4, 5, 21, 22, 23]) (.seq (.cond (.t 23) (.skip)
          (.exit 0))
        (.seq (.prune [1, 2, 3, 4, 5, 21, 22]) (.seq (.block 1 (.seq (.reg [
                ⟨some 24, .mv (.t 22), none⟩,
                ⟨some 25, .ixa 6 1 none (.t 21) (.t 22), none⟩,
                ⟨some 6, .mv (.t 24), none⟩,
                ⟨some 7, .mv (.t 25), none⟩])
            (.seq (.prune [1, 2, 3, 4, 5, 6, 7, 21, 22]) (.seq (.draw 0 [
                (⟨some 26, .fa 1 (.t 1), none⟩, 0, []),
                (⟨some 27, .lds (.t 26), none⟩, 0, [0]),
                (⟨some 28, .mv (.t 6), none⟩, 0, []),
                (⟨some 29, .bin .shl (.c (.int .i64 1)) (.t 28), none⟩, 0, [2]),
                (⟨some 30, .bin .and (.t 27) (.t 29), none⟩, 0, [0, 1, 2, 3]),
                (⟨some 31, .bin .neq (.t 30) (.c (.int .i64 0)), none⟩, 0, [0, 1, 2, 3, 4]),
                (⟨some 32, .mv (.t 31), none⟩, 0, [0, 1, 2, 3, 4, 5]),
                (⟨some 33, .mv (.t 5), some (32, true)⟩, 0, [0, 1, 2, 3, 4, 5, 6]),
                (⟨some 34, .mv (.t 33), some (32, true)⟩, 0, [0, 1, 2, 3, 4, 5, 6, 7]),
                (⟨some 35, .mv (.t 6), some (34, true)⟩, 0, [0, 1, 2, 3, 4, 5, 6, 7, 8]),
                (⟨some 36, .bin .shl (.c (.int .i64 1)) (.t 35), some (34, true)⟩, 0, [0, 1, 2, 3, 4, 5, 6, 7, 8, 9]),
                (⟨some 37, .bin .eql (.t 36) (.c (.int .i64 16)), some (34, true)⟩, 0, [0, 1, 2, 3, 4, 5, 6, 7, 8, 9, 10]),
                (⟨some 38, .pick (.t 34) (.t 37) (.c (.bool false)), some (32, true)⟩, 0, [0, 1, 2, 3, 4, 5, 6, 7, 8, 9, 10, 11]),
                (⟨some 39, .un .not (.t 38), some (32, true)⟩, 0, [0, 1, 2, 3, 4, 5, 6, 7, 8, 9, 10, 11, 12]),
                (⟨some 40, .pick (.t 32) (.t 39) (.c (.bool false)), none⟩, 0, [0, 1, 2, 3, 4, 5, 6, 7, 8, 9, 10, 11, 12, 13])])
            (.seq (.prune [1, 2, 3, 4, 5, 7, 21, 22, 40]) (.cond (.t 40) (.draw 1 [
                (⟨some 41, .lds (.t 3), none⟩, 0, []),
                (⟨some 42, .mv (.t 7), none⟩, 0, []),
                (⟨some 43, .call false 44 [(.t 42)], none⟩, 0, [1]),
                (⟨some 44, .len .slice (.t 41), none⟩, 0, [0]),
                (⟨some 45, .bsl 3 (.agg [.int .i64 0, .str [], .lst [] true]) 1 [(0, (.c (.agg [.int .i64 0, .str [], .lst [] true])))], none⟩, 0, []),
                (⟨some 46, .app 3 48 true (.t 41) (.t 45), none⟩, 0, [0, 1, 2, 3, 4]),
                (⟨some 47, .ia 3 (.t 46) (.t 44), none⟩, 0, [0, 1, 2, 3, 4, 5]),
                (⟨none, .sta 3 (.t 47) (.t 43), none⟩, 0, [0, 1, 2, 3, 4, 5, 6]),
                (⟨none, .sts (.t 3) (.t 46), none⟩, 0, [0, 1, 2, 3, 4, 5])])
            (.skip)))))))
        (.seq (.prune [1, 2, 3, 4, 5, 21, 22]) (.reg [
          ⟨some 48, .bin .add (.t 22) (.c (.int .i64 1)), none⟩,
          ⟨some 22, .mv (.t 48), none⟩]))))))))))))
  (.seq (.prune [1, 2, 3, 4, 5]) (.seq (.block 2 (.seq (.reg [
          ⟨some 50, .mv (.t 5), none⟩,
          ⟨some 49, .mv (.t 50), none⟩])
      (.seq (.prune [1, 2, 3, 4, 49]) (.cond (.t 49) (.reg [
          ⟨some 51, .mv (.t 4), none⟩,
          ⟨some 52, .fa 3 (.t 1), none⟩,
          ⟨some 53, .lds (.t 52), none⟩,
          ⟨some 54, .callv false (.t 51) [(.c (.str [76, 105, 115, 116])), (.t 53)], none⟩])
      (.seq (.reg [
            ⟨some 56, .fa 2 (.t 1), none⟩,
            ⟨some 57, .lds (.t 56), none⟩,
            ⟨some 58, .bin .eql (.t 57) (.c (.int .i64 2)), none⟩,
            ⟨some 55, .mv (.t 58), none⟩])
        (.seq (.prune [1, 2, 3, 4, 55]) (.cond (.t 55) (.reg [
            ⟨some 59, .mv (.t 4), none⟩,
            ⟨some 60, .fa 3 (.t 1), none⟩,
            ⟨some 61, .lds (.t 60), none⟩,
            ⟨some 62, .callv false (.t 59) [(.c (.str [76, 105, 115, 116, 49])), (.t 61)], none⟩])
        (.seq (.reg [
              ⟨some 64, .fa 2 (.t 1), none⟩,
              ⟨some 65, .lds (.t 64), none⟩,
              ⟨some 66, .bin .eql (.t 65) (.c (.int .i64 1)), none⟩,
              ⟨some 63, .mv (.t 66), none⟩])
          (.seq (.prune [1, 2, 3, 4, 63]) (.cond (.t 63) (.reg [
              ⟨some 67, .mv (.t 4), none⟩,
              ⟨some 68, .fa 3 (.t 1), none⟩,
              ⟨some 69, .lds (.t 68), none⟩,
              ⟨some 70, .callv false (.t 67) [(.c (.str [80, 97, 105, 114])), (.t 69)], none⟩])
          (.skip)))))))))))
  (.seq (.prune [1, 2, 3, 4]) (.seq (.seq (.reg [
        ⟨some 71, .fa 4 (.t 1), none⟩,
        ⟨some 72, .lds (.t 71), none⟩])
    (.seq (.prune [1, 2, 3, 4, 72]) (.block 3 (.seq (.reg [
          ⟨some 74, .bin .eql (.t 72) (.c (.int .i64 1)), none⟩,
          ⟨some 73, .mv (.t 74), none⟩])
      (.seq (.prune [1, 2, 3, 4, 72, 73]) (.cond (.t 73) (.reg [
          ⟨some 75, .mv (.t 4), none⟩,
          ⟨some 76, .fa 5 (.t 1), none⟩,
          ⟨some 77, .lds (.t 76), none⟩,
          ⟨some 78, .callv false (.t 75) [(.c (.str [45, 62])), (.t 77)], none⟩])
      (.seq (.reg [
            ⟨some 80, .bin .eql (.t 72) (.c (.int .i64 2)), none⟩,
            ⟨some 79, .mv (.t 80), none⟩])
        (.seq (.prune [2, 3, 79]) (.cond (.t 79) (.draw 1 [
            (⟨some 81, .lds (.t 3), none⟩, 0, []),
            (⟨some 82, .call false 44 [(.c (.str [80, 114, 111, 99]))], none⟩, 0, []),
            (⟨some 83, .len .slice (.t 81), none⟩, 0, [0]),
            (⟨some 84, .bsl 3 (.agg [.int .i64 0, .str [], .lst [] true]) 1 [(0, (.c (.agg [.int .i64 0, .str [], .lst [] true])))], none⟩, 0, []),
            (⟨some 85, .app 3 48 true (.t 81) (.t 84), none⟩, 0, [0, 1, 2, 3]),
            (⟨some 86, .ia 3 (.t 85) (.t 83), none⟩, 0, [0, 1, 2, 3, 4]),
            (⟨none, .sta 3 (.t 86) (.t 82), none⟩, 0, [0, 1, 2, 3, 4, 5]),
            (⟨none, .sts (.t 3) (.t 85), none⟩, 0, [0, 1, 2, 3, 4])])
        (.skip))))))))))
  (.seq (.prune [2, 3]) (.seq (.seq (.reg [
        ⟨some 87, .lds (.t 3), none⟩,
        ⟨some 88, .len .slice (.t 87), none⟩])
    (.seq (.prune [2, 3, 88]) (.block 4 (.seq (.reg [
          ⟨some 90, .bin .eql (.t 88) (.c (.int .i64 0)), none⟩,
          ⟨some 89, .mv (.t 90), none⟩])
      (.seq (.prune [2, 3, 88, 89]) (.cond (.t 89) (.seq (.reg [
            ⟨some 91, .call false 44 [(.c (.str [78, 111, 116, 104, 105, 110, 103]))], none⟩,
            ⟨none, .sta 3 (.t 2) (.t 91), none⟩])
        (.ret))
      (.seq (.reg [
            ⟨some 93, .bin .eql (.t 88) (.c (.int .i64 1)), none⟩,
            ⟨some 92, .mv (.t 93), none⟩])
        (.seq (.prune [2, 3, 92]) (.cond (.t 92) (.seq (.reg [
              ⟨some 94, .lds (.t 3), none⟩,
              ⟨some 95, .ia 3 (.t 94) (.c (.int .i64 0)), none⟩,
              ⟨some 96, .lda 3 (.t 95), none⟩,
              ⟨none, .sta 3 (.t 2) (.t 96), none⟩])
          (.ret))
        (.skip))))))))))
  (.seq (.prune [2, 3]) (.seq (.draw 1 [
      (⟨some 97, .call false 44 [(.c (.str [85]))], none⟩, 0, []),
      (⟨some 98, .bsl 3 (.agg [.int .i64 0, .str [], .lst [] true]) 1 [(0, (.t 97))], none⟩, 0, [0]),
      (⟨some 99, .lds (.t 3), none⟩, 0, []),
      (⟨some 100, .app 3 48 false (.t 98) (.t 99), none⟩, 0, [0, 1, 2]),
      (⟨some 101, .call false 46 [(.t 100)], none⟩, 0, [0, 1, 2, 3]),
      (⟨none, .sta 3 (.t 2) (.t 101), none⟩, 0, [0, 1, 2, 3, 4])])
  (.ret))))))))))))))))))),
  [.ca 2 3]⟩
/-- bezel/types.of -/
def a40 : AFunc := ⟨.seq (.reg [
      ⟨some 1, .box (.t 0), none⟩,
      ⟨some 2, .alloc [.bool false, .int .i64 0, .int .i64 0, .lst [] true, .int .i64 0, .lst [] true], none⟩,
      ⟨some 3, .mv (.c (.bool false)), none⟩])
  (.seq (.prune [1, 2]) (.seq (.seq (.reg [
        ⟨some 14, .fa 0 (.t 1), none⟩,
        ⟨some 15, .lds (.t 14), none⟩,
        ⟨some 16, .bin .eql (.t 15) (.c (.int .i64 1)), none⟩])
    (.seq (.prune [1, 2, 16]) (.cond (.t 16) (.seq (.reg [
          ⟨some 17, .fa 1 (.t 1), none⟩,
          ⟨some 18, .lds (.t 17), none⟩,
          ⟨some 19, .call false 48 [(.t 18)], none⟩,
          ⟨some 20, .ext 0 (.t 19), none⟩,
          ⟨some 21, .ext 1 (.t 19), none⟩,
          ⟨none, .sta 6 (.t 2) (.t 20), none⟩,
          ⟨some 3, .mv (.t 21), none⟩])
      (.ret))
    (.skip))))
  (.seq (.prune [1, 2]) (.seq (.seq (.reg [
        ⟨some 22, .fa 0 (.t 1), none⟩,
        ⟨some 23, .lds (.t 22), none⟩,
        ⟨some 24, .bin .neq (.t 23) (.c (.int .i64 5)), none⟩,
        ⟨some 25, .mv (.t 24), none⟩,
        ⟨some 26, .fa 2 (.t 1), some (25, false)⟩,
        ⟨some 27, .lds (.t 26), some (25, false)⟩,
        ⟨some 28, .len .slice (.t 27), some (25, false)⟩,
        ⟨some 29, .bin .eql (.t 28) (.c (.int .i64 0)), some (25, false)⟩,
        ⟨some 30, .pick (.t 25) (.c (.bool true)) (.t 29), none⟩,
        ⟨some 31, .mv (.t 30), none⟩,
        ⟨some 32, .fa 2 (.t 1), some (31, false)⟩,
        ⟨some 33, .lds (.t 32), some (31, false)⟩,
        ⟨some 34, .ia 3 (.t 33) (.c (.int .i64 0)), some (31, false)⟩,
        ⟨some 35, .fa 0 (.t 34), some (31, false)⟩,
        ⟨some 36, .lds (.t 35), some (31, false)⟩,
        ⟨some 37, .bin .neq (.t 36) (.c (.int .i64 1)), some (31, false)⟩,
        ⟨some 38, .pick (.t 31) (.c (.bool true)) (.t 37), none⟩])
    (.seq (.prune [1, 2, 38]) (.cond (.t 38) (.seq (.reg [
          ⟨some 39, .build [.bool false, .int .i64 0, .int .i64 0, .lst [] true, .int .i64 0, .lst [] true] [], none⟩,
          ⟨none, .sta 6 (.t 2) (.t 39), none⟩,
          ⟨some 3, .mv (.c (.bool false)), none⟩])
      (.ret))
    (.skip))))
  (.seq (.prune [1, 2]) (.seq (.reg [
      ⟨some 4, .mv (.c (.lst [] true)), none⟩])
  (.seq (.prune [1, 2, 4]) (.seq (.seq (.reg [
        ⟨some 40, .fa 2 (.t 1), none⟩,
        ⟨some 41, .lds (.t 40), none⟩,
        ⟨some 42, .slc 3 (.t 41) (some (.c (.int .i64 1))) none none, none⟩,
        ⟨some 43, .len .slice (.t 42), none⟩,
        ⟨some 44, .mv (.c (.int .i64 0)), none⟩])
    (.seq (.prune [1, 2, 4, 42, 43, 44]) (.block 0 (.seq (.own 4 none)
      (.loop [4, 44, 1, 2, 42, 43] (.seq (.reg [
            ⟨some 45, .bin .lss (.t 44) (.t 43), none⟩])
        (.seq (.prune [1, 2, 4, 42, 43, 44, 45]) (.seq (.cond (.t 45) (.skip)
          (.exit 0))
        (.seq (.prune [1, 2, 4, 42, 43, 44]) (.seq (.block 1 (.seq (.reg [
                ⟨some 46, .ia 3 (.t 42) (.t 44), none⟩,
                ⟨some 47, .lda 3 (.t 46), none⟩,
                ⟨some 6, .alloc [.int .i64 0, .str [], .lst [] true], none⟩,
                ⟨none, .sta 3 (.t 6) (.t 47), none⟩])
            (.seq (.prune [1, 2, 4, 6, 42, 43, 44]) (.seq (.reg [
                ⟨some 49, .lda 3 (.t 6), none⟩,
                ⟨some 50, .call false 40 [(.t 49)], none⟩,
                ⟨some 48, .mv (.t 50), none⟩,
                ⟨some 51, .ext 0 (.t 48), none⟩,
                ⟨some 52, .ext 1 (.t 48), none⟩,
                ⟨some 7, .alloc [.bool false, .int .i64 0, .int .i64 0, .lst [] true, .int .i64 0, .lst [] true], none⟩,
                ⟨none, .sta 6 (.t 7) (.t 51), none⟩,
                ⟨some 8, .mv (.t 52), none⟩])
            (.seq (.prune [1, 2, 4, 7, 8, 42, 43, 44]) (.seq (.seq (.reg [
                  ⟨some 53, .mv (.t 8), none⟩,
                  ⟨some 54, .un .not (.t 53), none⟩])
              (.seq (.prune [1, 2, 4, 7, 42, 43, 44, 54]) (.cond (.t 54) (.seq (.reg [
                    ⟨some 55, .build [.bool false, .int .i64 0, .int .i64 0, .lst [] true, .int .i64 0, .lst [] true] [], none⟩,
                    ⟨none, .sta 6 (.t 2) (.t 55), none⟩,
                    ⟨some 3, .mv (.c (.bool false)), none⟩])
                (.ret))
              (.skip))))
            (.seq (.prune [1, 2, 4, 7, 42, 43, 44]) (.reg [
              ⟨some 56, .mv (.t 4), none⟩,
              ⟨some 57, .lda 6 (.t 7), none⟩,
              ⟨some 58, .bsl 6 (.agg [.bool false, .int .i64 0, .int .i64 0, .lst [] true, .int .i64 0, .lst [] true]) 1 [(0, (.t 57))], none⟩,
              ⟨some 59, .app 6 80 false (.t 56) (.t 58), none⟩,
              ⟨some 4, .mv (.t 59), none⟩]))))))))
        (.seq (.prune [1, 2, 4, 42, 43, 44]) (.reg [
          ⟨some 60, .bin .add (.t 44) (.c (.int .i64 1)), none⟩,
          ⟨some 44, .mv (.t 60), none⟩]))))))))))))
  (.seq (.prune [1, 2, 4]) (.seq (.reg [
      ⟨some 61, .mv (.t 4), none⟩,
      ⟨some 62, .len .slice (.t 61), none⟩,
      ⟨some 9, .mv (.t 62), none⟩])
  (.seq (.prune [1, 2, 4, 9]) (.seq (.seq (.reg [
        ⟨some 63, .fa 2 (.t 1), none⟩,
        ⟨some 64, .lds (.t 63), none⟩,
        ⟨some 65, .ia 3 (.t 64) (.c (.int .i64 0)), none⟩,
        ⟨some 66, .fa 1 (.t 65), none⟩,
        ⟨some 67, .lds (.t 66), none⟩,
        ⟨some 10, .mv (.t 67), none⟩])
    (.seq (.prune [2, 4, 9, 10]) (.block 2 (.seq (.reg [
          ⟨some 69, .mv (.t 10), none⟩,
          ⟨some 70, .bin .eql (.t 69) (.c (.str [80, 97, 105, 114])), none⟩,
          ⟨some 71, .mv (.t 70), none⟩,
          ⟨some 72, .mv (.t 9), some (71, true)⟩,
          ⟨some 73, .bin .eql (.t 72) (.c (.int .i64 2)), some (71, true)⟩,
          ⟨some 74, .pick (.t 71) (.t 73) (.c (.bool false)), none⟩,
          ⟨some 68, .mv (.t 74), none⟩])
      (.seq (.prune [2, 4, 9, 10, 68]) (.cond (.t 68) (.seq (.draw 0 [
            (⟨some 75, .mv (.t 4), none⟩, 0, []),
            (⟨some 76, .ia 6 (.t 75) (.c (.int .i64 0)), none⟩, 0, [0]),
            (⟨some 77, .lda 6 (.t 76), none⟩, 0, [0, 1]),
            (⟨some 78, .mv (.t 4), none⟩, 0, []),
            (⟨some 79, .ia 6 (.t 78) (.c (.int .i64 1)), none⟩, 0, [3]),
            (⟨some 80, .lda 6 (.t 79), none⟩, 0, [3, 4]),
            (⟨some 81, .call false 25 [(.t 77), (.t 80)], none⟩, 0, [0, 1, 2, 3, 4, 5]),
            (⟨none, .sta 6 (.t 2) (.t 81), none⟩, 0, [0, 1, 2, 3, 4, 5, 6]),
            (⟨some 3, .mv (.c (.bool true)), none⟩, 0, [0, 1, 2, 3, 4, 5, 6, 7])])
        (.ret))
      (.seq (.reg [
            ⟨some 83, .mv (.t 10), none⟩,
            ⟨some 84, .bin .eql (.t 83) (.c (.str [76, 105, 115, 116, 49])), none⟩,
            ⟨some 85, .mv (.t 84), none⟩,
            ⟨some 86, .mv (.t 9), some (85, true)⟩,
            ⟨some 87, .bin .eql (.t 86) (.c (.int .i64 1)), some (85, true)⟩,
            ⟨some 88, .pick (.t 85) (.t 87) (.c (.bool false)), none⟩,
            ⟨some 82, .mv (.t 88), none⟩])
        (.seq (.prune [2, 4, 9, 10, 82]) (.cond (.t 82) (.seq (.reg [
              ⟨some 89, .mv (.t 4), none⟩,
              ⟨some 90, .build [.bool false, .int .i64 0, .int .i64 0, .lst [] true, .int .i64 0, .lst [] true] [(2, 1, (.c (.int .i64 2))), (3, 1, (.t 89))], none⟩,
              ⟨none, .sta 6 (.t 2) (.t 90), none⟩,
              ⟨some 3, .mv (.c (.bool true)), none⟩])
          (.ret))
        (.seq (.reg [
              ⟨some 92, .mv (.t 10), none⟩,
              ⟨some 93, .bin .eql (.t 92) (.c (.str [76, 105, 115, 116])), none⟩,
              ⟨some 94, .mv (.t 93), none⟩,
              ⟨some 95, .mv (.t 9), some (94, true)⟩,
              ⟨some 96, .bin .eql (.t 95) (.c (.int .i64 1)), some (94, true)⟩,
              ⟨some 97, .pick (.t 94) (.t 96) (.c (.bool false)), none⟩,
              ⟨some 91, .mv (.t 97), none⟩])
          (.seq (.prune [2, 4, 9, 10, 91]) (.cond (.t 91) (.seq (.reg [
                ⟨some 98, .mv (.t 4), none⟩,
                ⟨some 99, .ia 6 (.t 98) (.c (.int .i64 0)), none⟩,
                ⟨some 100, .lda 6 (.t 99), none⟩,
                ⟨some 101, .call false 23 [(.t 100)], none⟩,
                ⟨none, .sta 6 (.t 2) (.t 101), none⟩,
                ⟨some 3, .mv (.c (.bool true)), none⟩])
            (.ret))
          (.seq (.reg [
                ⟨some 103, .mv (.t 10), none⟩,
                ⟨some 104, .bin .eql (.t 103) (.c (.str [45, 62])), none⟩,
                ⟨some 105, .mv (.t 104), none⟩,
                ⟨some 106, .mv (.t 9), some (105, true)⟩,
                ⟨some 107, .bin .gtr (.t 106) (.c (.int .i64 0)), some (105, true)⟩,
                ⟨some 108, .pick (.t 105) (.t 107) (.c (.bool false)), none⟩,
                ⟨some 102, .mv (.t 108), none⟩])
            (.seq (.prune [2, 4, 10, 102]) (.cond (.t 102) (.seq (.reg [
                  ⟨some 109, .mv (.t 4), none⟩,
                  ⟨some 110, .build [.bool false, .int .i64 0, .int .i64 0, .lst [] true, .int .i64 0, .lst [] true] [(4, 1, (.c (.int .i64 1))), (5, 1, (.t 109))], none⟩,
                  ⟨none, .sta 6 (.t 2) (.t 110), none⟩,
                  ⟨some 3, .mv (.c (.bool true)), none⟩])
              (.ret))
            (.seq (.reg [
                  ⟨some 112, .mv (.t 10), none⟩,
                  ⟨some 113, .bin .eql (.t 112) (.c (.str [85])), none⟩,
                  ⟨some 111, .mv (.t 113), none⟩])
              (.seq (.prune [2, 4, 111]) (.cond (.t 111) (.seq (.reg [
                    ⟨some 11, .alloc [.bool false, .int .i64 0, .int .i64 0, .lst [] true, .int .i64 0, .lst [] true], none⟩])
                (.seq (.prune [2, 4, 11]) (.seq (.seq (.reg [
                      ⟨some 114, .mv (.t 4), none⟩,
                      ⟨some 115, .len .slice (.t 114), none⟩,
                      ⟨some 116, .mv (.c (.int .i64 0)), none⟩])
                  (.seq (.prune [2, 11, 114, 115, 116]) (.block 3 (.loop [116, 2, 11, 114, 115] (.seq (.reg [
                          ⟨some 117, .bin .lss (.t 116) (.t 115), none⟩])
                      (.seq (.prune [2, 11, 114, 115, 116, 117]) (.seq (.cond (.t 117) (.skip)
                        (.exit 3))
                      (.seq (.prune [2, 11, 114, 115, 116]) (.seq (.block 4 (.seq (.reg [
                              ⟨some 118, .ia 6 (.t 114) (.t 116), none⟩,
                              ⟨some 119, .lda 6 (.t 118), none⟩,
                              ⟨some 13, .alloc [.bool false, .int .i64 0, .int .i64 0, .lst [] true, .int .i64 0, .lst [] true], none⟩,
                              ⟨none, .sta 6 (.t 13) (.t 119), none⟩])
                          (.seq (.prune [2, 11, 13, 114, 115, 116]) (.reg [
                            ⟨some 120, .lda 6 (.t 11), none⟩,
                            ⟨some 121, .lda 6 (.t 13), none⟩,
                            ⟨some 122, .call false 18 [(.t 120), (.t 121)], none⟩,
                            ⟨none, .sta 6 (.t 11) (.t 122), none⟩]))))
                      (.seq (.prune [2, 11, 114, 115, 116]) (.reg [
                        ⟨some 123, .bin .add (.t 116) (.c (.int .i64 1)), none⟩,
                        ⟨some 116, .mv (.t 123), none⟩])))))))))))
                (.seq (.prune [2, 11]) (.seq (.reg [
                    ⟨some 124, .lda 6 (.t 11), none⟩,
                    ⟨none, .sta 6 (.t 2) (.t 124), none⟩,
                    ⟨some 3, .mv (.c (.bool true)), none⟩])
                (.ret))))))
              (.skip)))))))))))))))))))
  (.seq (.prune [2]) (.seq (.reg [
      ⟨some 125, .build [.bool false, .int .i64 0, .int .i64 0, .lst [] true, .int .i64 0, .lst [] true] [], none⟩,
      ⟨none, .sta 6 (.t 2) (.t 125), none⟩,
      ⟨some 3, .mv (.c (.bool false)), none⟩])
  (.ret))))))))))))))),
  [.ca 2 6, .t 3]⟩
/-- slices.Concat[[]bezel/api.Type,bezel/api.Type] -/
def a41 : AFunc := ⟨.seq (.reg [
      ⟨some 2, .mv (.c (.lst [] true)), none⟩])
  (.seq (.prune [0]) (.seq (.reg [
      ⟨some 3, .mv (.c (.int .i64 0)), none⟩])
  (.seq (.prune [0, 3]) (.seq (.seq (.reg [
        ⟨some 9, .mv (.t 0), none⟩,
        ⟨some 10, .len .slice (.t 9), none⟩,
        ⟨some 11, .mv (.c (.int .i64 0)), none⟩])
    (.seq (.prune [0, 3, 9, 10, 11]) (.block 0 (.loop [3, 11, 0, 9, 10] (.seq (.reg [
            ⟨some 12, .bin .lss (.t 11) (.t 10), none⟩])
        (.seq (.prune [0, 3, 9, 10, 11, 12]) (.seq (.cond (.t 12) (.skip)
          (.exit 0))
        (.seq (.prune [0, 3, 9, 10, 11]) (.seq (.block 1 (.seq (.reg [
                ⟨some 13, .ia 1 (.t 9) (.t 11), none⟩,
                ⟨some 14, .lds (.t 13), none⟩,
                ⟨some 5, .mv (.t 14), none⟩])
            (.seq (.prune [0, 3, 5, 9, 10, 11]) (.seq (.reg [
                ⟨some 15, .mv (.t 3), none⟩,
                ⟨some 16, .mv (.t 5), none⟩,
                ⟨some 17, .len .slice (.t 16), none⟩,
                ⟨some 18, .bin .add (.t 15) (.t 17), none⟩,
                ⟨some 3, .mv (.t 18), none⟩])
            (.seq (.prune [0, 3, 9, 10, 11]) (.seq (.reg [
                ⟨some 19, .mv (.t 3), none⟩,
                ⟨some 20, .bin .lss (.t 19) (.c (.int .i64 0)), none⟩])
            (.seq (.prune [0, 3, 9, 10, 11, 20]) (.cond (.t 20) (.reg [
                ⟨some 21, .mki 9 (.c (.str [108, 101, 110, 32, 111, 117, 116, 32, 111, 102, 32, 114, 97, 110, 103, 101])), none⟩,
                ⟨none, .panic (.t 21), none⟩])
            (.skip)))))))))
        (.seq (.prune [0, 3, 9, 10, 11]) (.reg [
          ⟨some 22, .bin .add (.t 11) (.c (.int .i64 1)), none⟩,
          ⟨some 11, .mv (.t 22), none⟩])))))))))))
  (.seq (.prune [0, 3]) (.seq (.reg [
      ⟨some 23, .mv (.t 3), none⟩,
      ⟨some 24, .call true 49 [(.c (.lst [] true)), (.t 23)], none⟩,
      ⟨some 6, .mv (.t 24), none⟩])
  (.seq (.prune [0, 6]) (.seq (.seq (.reg [
        ⟨some 25, .mv (.t 0), none⟩,
        ⟨some 26, .len .slice (.t 25), none⟩,
        ⟨some 27, .mv (.c (.int .i64 0)), none⟩])
    (.seq (.prune [6, 25, 26, 27]) (.block 2 (.seq (.own 6 none)
      (.loop [6, 27, 25, 26] (.seq (.reg [
            ⟨some 28, .bin .lss (.t 27) (.t 26), none⟩])
        (.seq (.prune [6, 25, 26, 27, 28]) (.seq (.cond (.t 28) (.skip)
          (.exit 2))
        (.seq (.prune [6, 25, 26, 27]) (.seq (.block 3 (.seq (.reg [
                ⟨some 29, .ia 1 (.t 25) (.t 27), none⟩,
                ⟨some 30, .lds (.t 29), none⟩,
                ⟨some 8, .mv (.t 30), none⟩])
            (.seq (.prune [6, 8, 25, 26, 27]) (.reg [
              ⟨some 31, .mv (.t 6), none⟩,
              ⟨some 32, .mv (.t 8), none⟩,
              ⟨some 33, .app 6 80 false (.t 31) (.t 32), none⟩,
              ⟨some 6, .mv (.t 33), none⟩]))))
        (.seq (.prune [6, 25, 26, 27]) (.reg [
          ⟨some 34, .bin .add (.t 27) (.c (.int .i64 1)), none⟩,
          ⟨some 27, .mv (.t 34), none⟩]))))))))))))
  (.seq (.prune [6]) (.seq (.reg [
      ⟨some 35, .mv (.t 6), none⟩,
      ⟨some 2, .mv (.t 35), none⟩])
  (.ret))))))))))),
  [.t 2]⟩
/-- bezel/types.right$1 -/
def a42 : AFunc := ⟨.seq (.reg [
      ⟨some 2, .box (.t 0), none⟩,
      ⟨some 3, .mv (.c (.bool false)), none⟩])
  (.seq (.prune [1, 2]) (.seq (.reg [
      ⟨some 4, .lda 6 (.t 2), none⟩,
      ⟨some 5, .lds (.t 1), none⟩,
      ⟨some 6, .bin .sub (.t 5) (.c (.int .i64 1)), none⟩,
      ⟨some 7, .call false 32 [(.t 4), (.t 6)], none⟩,
      ⟨some 8, .un .not (.t 7), none⟩,
      ⟨some 3, .mv (.t 8), none⟩])
  (.ret))),
  [.t 3]⟩
/-- slices.ContainsFunc[[]bezel/api.Type,bezel/api.Type] -/
def a43 : AFunc := ⟨.seq (.reg [
      ⟨some 4, .mv (.c (.bool false)), none⟩])
  (.seq (.prune [0, 1]) (.seq (.reg [
      ⟨some 5, .mv (.t 0), none⟩,
      ⟨some 6, .mv (.t 1), none⟩,
      ⟨some 7, .call false 50 [(.t 5), (.t 6)], none⟩,
      ⟨some 8, .bin .geq (.t 7) (.c (.int .i64 0)), none⟩,
      ⟨some 4, .mv (.t 8), none⟩])
  (.ret))),
  [.t 4]⟩
/-- bezel/datum.Word -/
def a44 : AFunc := ⟨.seq (.reg [
      ⟨some 2, .alloc [.int .i64 0, .str [], .lst [] true], none⟩])
  (.seq (.prune [0, 2]) (.seq (.reg [
      ⟨some 3, .mv (.t 0), none⟩,
      ⟨some 4, .build [.int .i64 0, .str [], .lst [] true] [(0, 1, (.c (.int .i64 1))), (1, 1, (.t 3))], none⟩,
      ⟨none, .sta 3 (.t 2) (.t 4), none⟩])
  (.ret))),
  [.ca 2 3]⟩
/-- bezel/types.told$1 -/
def a45 : AFunc := ⟨.seq (.reg [
      ⟨some 8, .mv (.t 0), none⟩,
      ⟨some 9, .call false 44 [(.t 8)], none⟩,
      ⟨some 10, .bsl 3 (.agg [.int .i64 0, .str [], .lst [] true]) 1 [(0, (.t 9))], none⟩,
      ⟨some 5, .mv (.t 10), none⟩])
  (.seq (.prune [1, 2, 5]) (.seq (.seq (.reg [
        ⟨some 11, .mv (.t 1), none⟩,
        ⟨some 12, .len .slice (.t 11), none⟩,
        ⟨some 13, .mv (.c (.int .i64 0)), none⟩])
    (.seq (.prune [2, 5, 11, 12, 13]) (.block 0 (.seq (.own 5 none)
      (.loop [5, 13, 2, 11, 12] (.seq (.reg [
            ⟨some 14, .bin .lss (.t 13) (.t 12), none⟩])
        (.seq (.prune [2, 5, 11, 12, 13, 14]) (.seq (.cond (.t 14) (.skip)
          (.exit 0))
        (.seq (.prune [2, 5, 11, 12, 13]) (.seq (.block 1 (.seq (.reg [
                ⟨some 15, .ia 6 (.t 11) (.t 13), none⟩,
                ⟨some 16, .lda 6 (.t 15), none⟩,
                ⟨some 7, .alloc [.bool false, .int .i64 0, .int .i64 0, .lst [] true, .int .i64 0, .lst [] true], none⟩,
                ⟨none, .sta 6 (.t 7) (.t 16), none⟩])
            (.seq (.prune [2, 5, 7, 11, 12, 13]) (.reg [
              ⟨some 17, .mv (.t 5), none⟩,
              ⟨some 18, .lda 6 (.t 7), none⟩,
              ⟨some 19, .call false 39 [(.t 18)], none⟩,
              ⟨some 20, .bsl 3 (.agg [.int .i64 0, .str [], .lst [] true]) 1 [(0, (.t 19))], none⟩,
              ⟨some 21, .app 3 48 false (.t 17) (.t 20), none⟩,
              ⟨some 5, .mv (.t 21), none⟩]))))
        (.seq (.prune [2, 5, 11, 12, 13]) (.reg [
          ⟨some 22, .bin .add (.t 13) (.c (.int .i64 1)), none⟩,
          ⟨some 13, .mv (.t 22), none⟩]))))))))))))
  (.seq (.prune [2, 5]) (.draw 1 [
    (⟨some 23, .lds (.t 2), none⟩, 0, []),
    (⟨some 24, .mv (.t 5), none⟩, 0, []),
    (⟨some 25, .call false 46 [(.t 24)], none⟩, 0, [1]),
    (⟨some 26, .len .slice (.t 23), none⟩, 0, [0]),
    (⟨some 27, .bsl 3 (.agg [.int .i64 0, .str [], .lst [] true]) 1 [(0, (.c (.agg [.int .i64 0, .str [], .lst [] true])))], none⟩, 0, []),
    (⟨some 28, .app 3 48 true (.t 23) (.t 27), none⟩, 0, [0, 1, 2, 3, 4]),
    (⟨some 29, .ia 3 (.t 28) (.t 26), none⟩, 0, [0, 1, 2, 3, 4, 5]),
    (⟨none, .sta 3 (.t 29) (.t 25), none⟩, 0, [0, 1, 2, 3, 4, 5, 6]),
    (⟨none, .sts (.t 2) (.t 28), none⟩, 0, [0, 1, 2, 3, 4, 5])])))),
  []⟩
/-- bezel/datum.Row -/
def a46 : AFunc := ⟨.seq (.reg [
      ⟨some 2, .alloc [.int .i64 0, .str [], .lst [] true], none⟩])
  (.seq (.prune [0, 2]) (.seq (.reg [
      ⟨some 3, .mv (.t 0), none⟩,
      ⟨some 4, .call true 51 [(.t 3)], none⟩,
      ⟨some 5, .build [.int .i64 0, .str [], .lst [] true] [(0, 1, (.c (.int .i64 5))), (2, 1, (.t 4))], none⟩,
      ⟨none, .sta 3 (.t 2) (.t 5), none⟩])
  (.ret))),
  [.ca 2 3]⟩
/-- bezel/types.names -/
def a47 : AFunc := ⟨.seq (.reg [
      ⟨some 0, .alloc [.str [], .str [], .str [], .str [], .str [], .str []], none⟩])
  (.seq (.prune [0]) (.seq (.reg [
      ⟨some 1, .build [.str [], .str [], .str [], .str [], .str [], .str []] [(0, 1, (.c (.str [73, 110, 116]))), (1, 1, (.c (.str [66, 111, 111, 108]))), (2, 1, (.c (.str [83, 116, 114]))), (3, 1, (.c (.str [83, 121, 109]))), (4, 1, (.c (.str [78, 117, 108, 108]))), (5, 1, (.c (.str [86, 111, 105, 100])))], none⟩,
      ⟨none, .sta 6 (.t 0) (.t 1), none⟩])
  (.ret))),
  [.ca 0 6]⟩
/-- bezel/types.word -/
def a48 : AFunc := ⟨.seq (.reg [
      ⟨some 2, .alloc [.bool false, .int .i64 0, .int .i64 0, .lst [] true, .int .i64 0, .lst [] true], none⟩,
      ⟨some 3, .mv (.c (.bool false)), none⟩])
  (.seq (.prune [0, 2]) (.seq (.reg [
      ⟨some 6, .call false 47 [], none⟩,
      ⟨some 4, .alloc [.str [], .str [], .str [], .str [], .str [], .str []], none⟩,
      ⟨none, .sta 6 (.t 4) (.t 6), none⟩])
  (.seq (.prune [0, 2, 4]) (.seq (.seq (.reg [
        ⟨some 7, .slca 6 1 none (.t 4) none none none, none⟩,
        ⟨some 8, .mv (.t 0), none⟩,
        ⟨some 9, .call false 52 [(.t 7), (.t 8)], none⟩,
        ⟨some 5, .mv (.t 9), none⟩])
    (.seq (.prune [0, 2, 5]) (.seq (.reg [
        ⟨some 10, .mv (.t 5), none⟩,
        ⟨some 11, .bin .geq (.t 10) (.c (.int .i64 0)), none⟩])
    (.seq (.prune [0, 2, 5, 11]) (.cond (.t 11) (.seq (.reg [
          ⟨some 12, .mv (.t 5), none⟩,
          ⟨some 13, .bin .shl (.c (.int .i64 1)) (.t 12), none⟩,
          ⟨some 14, .call false 22 [(.t 13)], none⟩,
          ⟨none, .sta 6 (.t 2) (.t 14), none⟩,
          ⟨some 3, .mv (.c (.bool true)), none⟩])
      (.ret))
    (.skip))))))
  (.seq (.prune [0, 2]) (.seq (.seq (.reg [
        ⟨some 15, .mv (.t 0), none⟩])
    (.seq (.prune [0, 2, 15]) (.block 0 (.seq (.reg [
          ⟨some 17, .bin .eql (.t 15) (.c (.str [65, 110, 121])), none⟩,
          ⟨some 16, .mv (.t 17), none⟩])
      (.seq (.prune [0, 2, 15, 16]) (.cond (.t 16) (.seq (.reg [
            ⟨some 18, .call false 27 [], none⟩,
            ⟨none, .sta 6 (.t 2) (.t 18), none⟩,
            ⟨some 3, .mv (.c (.bool true)), none⟩])
        (.ret))
      (.seq (.reg [
            ⟨some 20, .bin .eql (.t 15) (.c (.str [80, 114, 111, 99])), none⟩,
            ⟨some 19, .mv (.t 20), none⟩])
        (.seq (.prune [0, 2, 19]) (.cond (.t 19) (.seq (.reg [
              ⟨some 21, .build [.bool false, .int .i64 0, .int .i64 0, .lst [] true, .int .i64 0, .lst [] true] [(4, 1, (.c (.int .i64 2)))], none⟩,
              ⟨none, .sta 6 (.t 2) (.t 21), none⟩,
              ⟨some 3, .mv (.c (.bool true)), none⟩])
          (.ret))
        (.skip))))))))))
  (.seq (.prune [0, 2]) (.seq (.reg [
      ⟨some 22, .build [.bool false, .int .i64 0, .int .i64 0, .lst [] true, .int .i64 0, .lst [] true] [], none⟩,
      ⟨some 23, .mv (.t 0), none⟩,
      ⟨some 24, .bin .eql (.t 23) (.c (.str [78, 111, 116, 104, 105, 110, 103])), none⟩,
      ⟨none, .sta 6 (.t 2) (.t 22), none⟩,
      ⟨some 3, .mv (.t 24), none⟩])
  (.ret))))))))),
  [.ca 2 6, .t 3]⟩
/-- slices.Grow[[]bezel/api.Type,bezel/api.Type] -/
def a49 : AFunc := ⟨.seq (.reg [
      ⟨some 4, .mv (.c (.lst [] true)), none⟩])
  (.seq (.prune [0, 1]) (.seq (.seq (.reg [
        ⟨some 5, .mv (.t 1), none⟩,
        ⟨some 6, .bin .lss (.t 5) (.c (.int .i64 0)), none⟩])
    (.seq (.prune [0, 1, 6]) (.cond (.t 6) (.reg [
        ⟨some 7, .mki 9 (.c (.str [99, 97, 110, 110, 111, 116, 32, 98, 101, 32, 110, 101, 103, 97, 116, 105, 118, 101])), none⟩,
        ⟨none, .panic (.t 7), none⟩])
    (.skip))))
  (.seq (.prune [0, 1]) (.seq (.seq (.reg [
        ⟨some 8, .mv (.t 1), none⟩,
        ⟨some 9, .mv (.t 0), none⟩,
        ⟨some 10, .cap (.t 9), none⟩,
        ⟨some 11, .mv (.t 0), none⟩,
        ⟨some 12, .len .slice (.t 11), none⟩,
        ⟨some 13, .bin .sub (.t 10) (.t 12), none⟩,
        ⟨some 14, .bin .sub (.t 8) (.t 13), none⟩,
        ⟨some 1, .mv (.t 14), none⟩])
    (.seq (.prune [0, 1]) (.seq (.reg [
        ⟨some 15, .mv (.t 1), none⟩,
        ⟨some 16, .bin .gtr (.t 15) (.c (.int .i64 0)), none⟩])
    (.seq (.prune [0, 1, 16]) (.cond (.t 16) (.reg [
        ⟨some 17, .mv (.t 0), none⟩,
        ⟨some 18, .mv (.t 0), none⟩,
        ⟨some 19, .cap (.t 18), none⟩,
        ⟨some 20, .slc 6 (.t 17) none (some (.t 19)) none, none⟩,
        ⟨some 21, .mv (.t 1), none⟩,
        ⟨some 22, .appz 6 80 (.agg [.bool false, .int .i64 0, .int .i64 0, .lst [] true, .int .i64 0, .lst [] true]) (.t 20) (.t 21), none⟩,
        ⟨some 23, .mv (.t 0), none⟩,
        ⟨some 24, .len .slice (.t 23), none⟩,
        ⟨some 25, .slc 6 (.t 22) none (some (.t 24)) none, none⟩,
        ⟨some 0, .mv (.t 25), none⟩])
    (.skip))))))
  (.seq (.prune [0]) (.seq (.reg [
      ⟨some 26, .mv (.t 0), none⟩,
      ⟨some 4, .mv (.t 26), none⟩])
  (.ret))))))),
  [.t 4]⟩
/-- slices.IndexFunc[[]bezel/api.Type,bezel/api.Type] -/
def a50 : AFunc := ⟨.seq (.reg [
      ⟨some 4, .mv (.c (.int .i64 0)), none⟩])
  (.seq (.prune [0, 1]) (.seq (.seq (.reg [
        ⟨some 6, .mv (.t 0), none⟩,
        ⟨some 7, .len .slice (.t 6), none⟩,
        ⟨some 8, .mv (.c (.int .i64 0)), none⟩])
    (.seq (.prune [0, 1, 7, 8]) (.block 0 (.loop [8, 0, 1, 7] (.seq (.reg [
            ⟨some 9, .bin .lss (.t 8) (.t 7), none⟩])
        (.seq (.prune [0, 1, 7, 8, 9]) (.seq (.cond (.t 9) (.skip)
          (.exit 0))
        (.seq (.prune [0, 1, 7, 8]) (.seq (.block 1 (.seq (.reg [
                ⟨some 10, .mv (.t 8), none⟩,
                ⟨some 5, .mv (.t 10), none⟩])
            (.seq (.prune [0, 1, 5, 7, 8]) (.seq (.reg [
                ⟨some 11, .mv (.t 1), none⟩,
                ⟨some 12, .mv (.t 0), none⟩,
                ⟨some 13, .mv (.t 5), none⟩,
                ⟨some 14, .ia 6 (.t 12) (.t 13), none⟩,
                ⟨some 15, .lda 6 (.t 14), none⟩,
                ⟨some 16, .callv false (.t 11) [(.t 15)], none⟩])
            (.seq (.prune [0, 1, 5, 7, 8, 16]) (.cond (.t 16) (.seq (.reg [
                  ⟨some 17, .mv (.t 5), none⟩,
                  ⟨some 4, .mv (.t 17), none⟩])
              (.ret))
            (.skip)))))))
        (.seq (.prune [0, 1, 7, 8]) (.reg [
          ⟨some 18, .bin .add (.t 8) (.c (.int .i64 1)), none⟩,
          ⟨some 8, .mv (.t 18), none⟩])))))))))))
  (.seq (.prune []) (.seq (.reg [
      ⟨some 4, .mv (.c (.int .i64 (-1))), none⟩])
  (.ret))))),
  [.t 4]⟩
/-- slices.Clone[[]bezel/api.Datum,bezel/api.Datum] -/
def a51 : AFunc := ⟨.seq (.reg [
      ⟨some 2, .mv (.c (.lst [] true)), none⟩])
  (.seq (.prune [0]) (.seq (.seq (.reg [
        ⟨some 3, .mv (.t 0), none⟩,
        ⟨some 4, .isnil .slice false (.t 3), none⟩])
    (.seq (.prune [0, 4]) (.cond (.t 4) (.seq (.reg [
          ⟨some 2, .mv (.c (.lst [] true)), none⟩])
      (.ret))
    (.skip))))
  (.seq (.prune [0]) (.seq (.reg [
      ⟨some 5, .bsl 3 (.agg [.int .i64 0, .str [], .lst [] true]) 0 [], none⟩,
      ⟨some 6, .mv (.t 0), none⟩,
      ⟨some 7, .app 3 48 false (.t 5) (.t 6), none⟩,
      ⟨some 2, .mv (.t 7), none⟩])
  (.ret))))),
  [.t 2]⟩
/-- slices.Index[[]string,string] -/
def a52 : AFunc := ⟨.seq (.reg [
      ⟨some 4, .mv (.c (.int .i64 0)), none⟩])
  (.seq (.prune [0, 1]) (.seq (.seq (.reg [
        ⟨some 6, .mv (.t 0), none⟩,
        ⟨some 7, .len .slice (.t 6), none⟩,
        ⟨some 8, .mv (.c (.int .i64 0)), none⟩])
    (.seq (.prune [0, 1, 7, 8]) (.block 0 (.loop [8, 0, 1, 7] (.seq (.reg [
            ⟨some 9, .bin .lss (.t 8) (.t 7), none⟩])
        (.seq (.prune [0, 1, 7, 8, 9]) (.seq (.cond (.t 9) (.skip)
          (.exit 0))
        (.seq (.prune [0, 1, 7, 8]) (.seq (.block 1 (.seq (.reg [
                ⟨some 10, .mv (.t 8), none⟩,
                ⟨some 5, .mv (.t 10), none⟩])
            (.seq (.prune [0, 1, 5, 7, 8]) (.seq (.reg [
                ⟨some 11, .mv (.t 1), none⟩,
                ⟨some 12, .mv (.t 0), none⟩,
                ⟨some 13, .mv (.t 5), none⟩,
                ⟨some 14, .ia 1 (.t 12) (.t 13), none⟩,
                ⟨some 15, .lds (.t 14), none⟩,
                ⟨some 16, .bin .eql (.t 11) (.t 15), none⟩])
            (.seq (.prune [0, 1, 5, 7, 8, 16]) (.cond (.t 16) (.seq (.reg [
                  ⟨some 17, .mv (.t 5), none⟩,
                  ⟨some 4, .mv (.t 17), none⟩])
              (.ret))
            (.skip)))))))
        (.seq (.prune [0, 1, 7, 8]) (.reg [
          ⟨some 18, .bin .add (.t 8) (.c (.int .i64 1)), none⟩,
          ⟨some 8, .mv (.t 18), none⟩])))))))))))
  (.seq (.prune []) (.seq (.reg [
      ⟨some 4, .mv (.c (.int .i64 (-1))), none⟩])
  (.ret))))),
  [.t 4]⟩
def tabL : List (Option AFunc) := [none, none, none, some a3, some a4, some a5, some a6, some a7, some a8, some a9, some a10, some a11, some a12, some a13, some a14, some a15, some a16, some a17, some a18, some a19, some a20, some a21, some a22, some a23, some a24, some a25, some a26, some a27, some a28, some a29, some a30, some a31, some a32, some a33, some a34, some a35, some a36, some a37, some a38, some a39, some a40, some a41, some a42, some a43, some a44, some a45, some a46, some a47, some a48, some a49, some a50, some a51, some a52]
def tab (f : Nat) : Option AFunc := (tabL[f]?).join
end Go.Ev.Seat
