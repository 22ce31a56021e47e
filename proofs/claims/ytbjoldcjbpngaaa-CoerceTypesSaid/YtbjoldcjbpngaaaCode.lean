/-
  The functions of the seat as the evaluator reads them: printed by a program of this session out of the loaded program.
-/
import Derived.Test.YtbjoldcjbpngaaaEvA
set_option maxRecDepth 100000
namespace Go.Ev.Seat
open Go Go.Ev
/-- bezel/bezellaw07.CoerceMakes -/
def a3 : AFunc := ⟨.seq (.reg [
      ⟨some 3, .box (.t 0), none⟩,
      ⟨some 5, .box (.t 2), none⟩,
      ⟨some 6, .mv (.c (.bool false)), none⟩])
  (.seq (.prune [1, 3, 5]) (.seq (.reg [
      ⟨some 16, .call false 7 [], none⟩,
      ⟨some 7, .mv (.t 16), none⟩])
  (.seq (.prune [1, 3, 5, 7]) (.seq (.reg [
      ⟨some 17, .lda 6 (.t 3), none⟩,
      ⟨some 18, .call false 8 [(.t 17)], none⟩,
      ⟨some 8, .mv (.t 18), none⟩])
  (.seq (.prune [1, 3, 5, 7, 8]) (.seq (.reg [
      ⟨some 19, .iaa 2 12 (.t 5) (.c (.int .i64 0)), none⟩,
      ⟨some 20, .lda 12 (.t 19), none⟩,
      ⟨some 21, .call false 9 [(.t 20)], none⟩,
      ⟨some 9, .mv (.t 21), none⟩])
  (.seq (.prune [1, 3, 5, 7, 8, 9]) (.seq (.reg [
      ⟨some 22, .iaa 2 12 (.t 5) (.c (.int .i64 1)), none⟩,
      ⟨some 23, .lda 12 (.t 22), none⟩,
      ⟨some 24, .call false 9 [(.t 23)], none⟩,
      ⟨some 10, .mv (.t 24), none⟩])
  (.seq (.prune [1, 3, 5, 7, 8, 9, 10]) (.seq (.seq (.reg [
        ⟨some 25, .mv (.t 8), none⟩,
        ⟨some 26, .un .not (.t 25), none⟩,
        ⟨some 27, .mv (.t 26), none⟩,
        ⟨some 28, .mv (.t 9), some (27, false)⟩,
        ⟨some 29, .un .not (.t 28), some (27, false)⟩,
        ⟨some 30, .pick (.t 27) (.c (.bool true)) (.t 29), none⟩,
        ⟨some 31, .mv (.t 30), none⟩,
        ⟨some 32, .mv (.t 10), some (31, false)⟩,
        ⟨some 33, .un .not (.t 32), some (31, false)⟩,
        ⟨some 34, .pick (.t 31) (.c (.bool true)) (.t 33), none⟩])
    (.seq (.prune [1, 3, 5, 7, 34]) (.cond (.t 34) (.seq (.reg [
          ⟨some 35, .mv (.t 7), none⟩,
          ⟨some 6, .mv (.t 35), none⟩])
      (.ret))
    (.skip))))
  (.seq (.prune [1, 3, 5, 7]) (.seq (.seq (.reg [
        ⟨some 36, .lda 6 (.t 3), none⟩,
        ⟨some 37, .call false 10 [(.t 36)], none⟩,
        ⟨some 38, .mv (.t 37), none⟩,
        ⟨some 39, .mv (.t 1), some (38, true)⟩,
        ⟨some 40, .bin .geq (.t 39) (.c (.int .i64 1)), some (38, true)⟩,
        ⟨some 41, .pick (.t 38) (.t 40) (.c (.bool false)), none⟩,
        ⟨some 42, .mv (.t 41), none⟩,
        ⟨some 43, .mv (.t 1), some (42, true)⟩,
        ⟨some 44, .bin .leq (.t 43) (.c (.int .i64 99)), some (42, true)⟩,
        ⟨some 45, .pick (.t 42) (.t 44) (.c (.bool false)), none⟩])
    (.seq (.prune [1, 3, 5, 7, 45]) (.cond (.t 45) (.seq (.draw 0 [
          (⟨some 46, .lda 6 (.t 3), none⟩, 0, []),
          (⟨some 47, .mv (.t 1), none⟩, 0, []),
          (⟨some 48, .call false 12 [(.t 46), (.t 47)], none⟩, 0, [0, 1]),
          (⟨some 49, .lda 6 (.t 3), none⟩, 0, []),
          (⟨some 50, .mv (.t 1), none⟩, 0, []),
          (⟨some 51, .call false 13 [(.t 49), (.t 50)], none⟩, 0, [0, 1, 2, 3, 4]),
          (⟨some 52, .call false 11 [(.t 48), (.t 51)], none⟩, 0, [0, 1, 2, 3, 4, 5]),
          (⟨some 11, .mv (.t 52), none⟩, 0, [0, 1, 2, 3, 4, 5, 6])])
      (.seq (.prune [1, 3, 5, 7, 11]) (.seq (.draw 0 [
          (⟨some 53, .lda 6 (.t 3), none⟩, 0, []),
          (⟨some 54, .mv (.t 1), none⟩, 0, []),
          (⟨some 55, .call false 14 [(.t 53), (.t 54)], none⟩, 0, [0, 1]),
          (⟨some 56, .lda 6 (.t 3), none⟩, 0, []),
          (⟨some 57, .mv (.t 1), none⟩, 0, []),
          (⟨some 58, .call false 15 [(.t 56), (.t 57)], none⟩, 0, [0, 1, 2, 3, 4]),
          (⟨some 59, .call false 11 [(.t 55), (.t 58)], none⟩, 0, [0, 1, 2, 3, 4, 5]),
          (⟨some 12, .mv (.t 59), none⟩, 0, [0, 1, 2, 3, 4, 5, 6])])
      (.seq (.prune [5, 7, 11, 12]) (.seq (.reg [
          ⟨some 60, .mv (.t 11), none⟩,
          ⟨some 61, .un .not (.t 60), none⟩,
          ⟨some 62, .mv (.t 61), none⟩,
          ⟨some 63, .mv (.t 12), some (62, false)⟩,
          ⟨some 64, .un .not (.t 63), some (62, false)⟩,
          ⟨some 65, .pick (.t 62) (.c (.bool true)) (.t 64), none⟩])
      (.seq (.prune [5, 7, 65]) (.cond (.t 65) (.seq (.reg [
            ⟨some 6, .mv (.c (.bool false)), none⟩])
        (.ret))
      (.skip))))))))
    (.skip))))
  (.seq (.prune [5, 7]) (.seq (.reg [
      ⟨some 66, .iaa 2 12 (.t 5) (.c (.int .i64 0)), none⟩,
      ⟨some 67, .lda 12 (.t 66), none⟩,
      ⟨some 68, .call false 16 [(.t 67)], none⟩,
      ⟨some 13, .alloc [.int .i64 0, .int .i64 0, .int .i64 0, .int .i64 0, .int .i64 0, .int .i64 0, .int .i64 0, .int .i64 0, .lst [] true, .int .i64 0, .int .i64 0, .lst [] true], none⟩,
      ⟨none, .sta 12 (.t 13) (.t 68), none⟩])
  (.seq (.prune [5, 7, 13]) (.seq (.reg [
      ⟨some 69, .iaa 2 12 (.t 5) (.c (.int .i64 1)), none⟩,
      ⟨some 70, .lda 12 (.t 69), none⟩,
      ⟨some 71, .call false 16 [(.t 70)], none⟩,
      ⟨some 14, .alloc [.int .i64 0, .int .i64 0, .int .i64 0, .int .i64 0, .int .i64 0, .int .i64 0, .int .i64 0, .int .i64 0, .lst [] true, .int .i64 0, .int .i64 0, .lst [] true], none⟩,
      ⟨none, .sta 12 (.t 14) (.t 71), none⟩])
  (.seq (.prune [5, 7, 13, 14]) (.seq (.seq (.reg [
        ⟨some 72, .lda 12 (.t 13), none⟩,
        ⟨some 73, .call false 17 [(.t 72)], none⟩,
        ⟨some 74, .un .not (.t 73), none⟩,
        ⟨some 75, .mv (.t 74), none⟩,
        ⟨some 76, .lda 12 (.t 14), some (75, false)⟩,
        ⟨some 77, .call false 17 [(.t 76)], some (75, false)⟩,
        ⟨some 78, .un .not (.t 77), some (75, false)⟩,
        ⟨some 79, .pick (.t 75) (.c (.bool true)) (.t 78), none⟩])
    (.seq (.prune [5, 7, 13, 14, 79]) (.cond (.t 79) (.seq (.reg [
          ⟨some 80, .mv (.t 7), none⟩,
          ⟨some 6, .mv (.t 80), none⟩])
      (.ret))
    (.skip))))
  (.seq (.prune [5, 7, 13, 14]) (.seq (.draw 0 [
      (⟨some 81, .iaa 2 12 (.t 5) (.c (.int .i64 0)), none⟩, 0, []),
      (⟨some 82, .lda 12 (.t 81), none⟩, 0, [0]),
      (⟨some 83, .iaa 2 12 (.t 5) (.c (.int .i64 1)), none⟩, 0, []),
      (⟨some 84, .lda 12 (.t 83), none⟩, 0, [2]),
      (⟨some 85, .call false 18 [(.t 82), (.t 84)], none⟩, 0, [0, 1, 2, 3]),
      (⟨some 86, .lda 12 (.t 13), none⟩, 0, []),
      (⟨some 87, .lda 12 (.t 14), none⟩, 0, []),
      (⟨some 88, .call false 19 [(.t 86), (.t 87)], none⟩, 0, [0, 1, 2, 3, 4, 5, 6]),
      (⟨some 89, .call false 11 [(.t 85), (.t 88)], none⟩, 0, [0, 1, 2, 3, 4, 5, 6, 7]),
      (⟨some 15, .mv (.t 89), none⟩, 0, [0, 1, 2, 3, 4, 5, 6, 7, 8])])
  (.seq (.prune [7, 15]) (.seq (.reg [
      ⟨some 90, .mv (.t 7), none⟩,
      ⟨some 91, .mv (.t 90), none⟩,
      ⟨some 92, .mv (.t 15), some (91, true)⟩,
      ⟨some 93, .pick (.t 91) (.t 92) (.c (.bool false)), none⟩,
      ⟨some 6, .mv (.t 93), none⟩])
  (.ret))))))))))))))))))))))),
  [.t 6]⟩
/-- bezel/bezellaw07.CoerceOften -/
def a4 : AFunc := ⟨.seq (.reg [
      ⟨some 2, .box (.t 0), none⟩,
      ⟨some 4, .mv (.c (.bool false)), none⟩])
  (.seq (.prune [1, 2]) (.seq (.reg [
      ⟨some 9, .call false 7 [], none⟩,
      ⟨some 5, .mv (.t 9), none⟩])
  (.seq (.prune [1, 2, 5]) (.seq (.reg [
      ⟨some 10, .lda 12 (.t 2), none⟩,
      ⟨some 11, .call false 9 [(.t 10)], none⟩,
      ⟨some 6, .mv (.t 11), none⟩])
  (.seq (.prune [1, 2, 5, 6]) (.seq (.seq (.reg [
        ⟨some 12, .mv (.t 6), none⟩,
        ⟨some 13, .un .not (.t 12), none⟩,
        ⟨some 14, .mv (.t 13), none⟩,
        ⟨some 15, .lda 12 (.t 2), some (14, false)⟩,
        ⟨some 16, .call false 20 [(.t 15)], some (14, false)⟩,
        ⟨some 17, .un .not (.t 16), some (14, false)⟩,
        ⟨some 18, .pick (.t 14) (.c (.bool true)) (.t 17), none⟩,
        ⟨some 19, .mv (.t 18), none⟩,
        ⟨some 20, .mv (.t 1), some (19, false)⟩,
        ⟨some 21, .bin .lss (.t 20) (.c (.int .i64 1)), some (19, false)⟩,
        ⟨some 22, .pick (.t 19) (.c (.bool true)) (.t 21), none⟩,
        ⟨some 23, .mv (.t 22), none⟩,
        ⟨some 24, .mv (.t 1), some (23, false)⟩,
        ⟨some 25, .bin .gtr (.t 24) (.c (.int .i64 30)), some (23, false)⟩,
        ⟨some 26, .pick (.t 23) (.c (.bool true)) (.t 25), none⟩])
    (.seq (.prune [1, 2, 5, 26]) (.cond (.t 26) (.seq (.reg [
          ⟨some 27, .mv (.t 5), none⟩,
          ⟨some 4, .mv (.t 27), none⟩])
      (.ret))
    (.skip))))
  (.seq (.prune [1, 2, 5]) (.seq (.reg [
      ⟨some 28, .lda 12 (.t 2), none⟩,
      ⟨some 7, .alloc [.int .i64 0, .int .i64 0, .int .i64 0, .int .i64 0, .int .i64 0, .int .i64 0, .int .i64 0, .int .i64 0, .lst [] true, .int .i64 0, .int .i64 0, .lst [] true], none⟩,
      ⟨none, .sta 12 (.t 7) (.t 28), none⟩])
  (.seq (.prune [1, 2, 5, 7]) (.seq (.seq (.reg [
        ⟨some 8, .mv (.c (.int .i64 1)), none⟩])
    (.seq (.prune [1, 2, 5, 7, 8]) (.block 0 (.loop [8, 1, 2, 5, 7] (.seq (.seq (.reg [
              ⟨some 29, .mv (.t 8), none⟩,
              ⟨some 30, .mv (.t 1), none⟩,
              ⟨some 31, .bin .lss (.t 29) (.t 30), none⟩])
          (.seq (.prune [1, 2, 5, 7, 8, 31]) (.cond (.t 31) (.skip)
          (.exit 0))))
        (.seq (.prune [1, 2, 5, 7, 8]) (.seq (.block 1 (.reg [
              ⟨some 34, .lda 12 (.t 7), none⟩,
              ⟨some 35, .lda 12 (.t 2), none⟩,
              ⟨some 36, .call false 18 [(.t 34), (.t 35)], none⟩,
              ⟨none, .sta 12 (.t 7) (.t 36), none⟩]))
        (.seq (.prune [1, 2, 5, 7, 8]) (.reg [
          ⟨some 32, .mv (.t 8), none⟩,
          ⟨some 33, .bin .add (.t 32) (.c (.int .i64 1)), none⟩,
          ⟨some 8, .mv (.t 33), none⟩])))))))))
  (.seq (.prune [2, 5, 7]) (.seq (.draw 0 [
      (⟨some 37, .mv (.t 5), none⟩, 0, []),
      (⟨some 38, .mv (.t 37), none⟩, 0, [0]),
      (⟨some 39, .lda 12 (.t 7), some (38, true)⟩, 0, [0, 1]),
      (⟨some 40, .call false 21 [(.t 39)], some (38, true)⟩, 0, [0, 1, 2]),
      (⟨some 41, .lda 12 (.t 2), some (38, true)⟩, 0, [0, 1]),
      (⟨some 42, .call false 21 [(.t 41)], some (38, true)⟩, 0, [0, 1, 2, 3, 4]),
      (⟨some 43, .bin .eql (.t 40) (.t 42), some (38, true)⟩, 0, [0, 1, 2, 3, 4, 5]),
      (⟨some 44, .pick (.t 38) (.t 43) (.c (.bool false)), none⟩, 0, [0, 1, 2, 3, 4, 5, 6]),
      (⟨some 45, .mv (.t 44), none⟩, 0, [0, 1, 2, 3, 4, 5, 6, 7]),
      (⟨some 46, .lda 12 (.t 7), some (45, true)⟩, 0, [0, 1, 2, 3, 4, 5, 6, 7, 8]),
      (⟨some 47, .call false 22 [(.t 46)], some (45, true)⟩, 0, [0, 1, 2, 3, 4, 5, 6, 7, 8, 9]),
      (⟨some 48, .lda 12 (.t 2), some (45, true)⟩, 0, [0, 1, 2, 3, 4, 5, 6, 7, 8]),
      (⟨some 49, .call false 22 [(.t 48)], some (45, true)⟩, 0, [0, 1, 2, 3, 4, 5, 6, 7, 8, 9, 10, 11]),
      (⟨some 50, .bin .eql (.t 47) (.t 49), some (45, true)⟩, 0, [0, 1, 2, 3, 4, 5, 6, 7, 8, 9, 10, 11, 12]),
      (⟨some 51, .pick (.t 45) (.t 50) (.c (.bool false)), none⟩, 0, [0, 1, 2, 3, 4, 5, 6, 7, 8, 9, 10, 11, 12, 13]),
      (⟨some 52, .mv (.t 51), none⟩, 0, [0, 1, 2, 3, 4, 5, 6, 7, 8, 9, 10, 11, 12, 13, 14]),
      (⟨some 53, .lda 12 (.t 7), some (52, true)⟩, 0, [0, 1, 2, 3, 4, 5, 6, 7, 8, 9, 10, 11, 12, 13, 14, 15]),
      (⟨some 54, .call false 20 [(.t 53)], some (52, true)⟩, 0, [0, 1, 2, 3, 4, 5, 6, 7, 8, 9, 10, 11, 12, 13, 14, 15, 16]),
      (⟨some 55, .pick (.t 52) (.t 54) (.c (.bool false)), none⟩, 0, [0, 1, 2, 3, 4, 5, 6, 7, 8, 9, 10, 11, 12, 13, 14, 15, 16, 17]),
      (⟨some 4, .mv (.t 55), none⟩, 0, [0, 1, 2, 3, 4, 5, 6, 7, 8, 9, 10, 11, 12, 13, 14, 15, 16, 17, 18])])
  (.ret))))))))))))),
  [.t 4]⟩
/-- bezel/bezellaw07.CoerceTypes -/
def a5 : AFunc := ⟨.seq (.reg [
      ⟨some 3, .box (.t 0), none⟩,
      ⟨some 6, .mv (.c (.bool false)), none⟩])
  (.seq (.prune [1, 2, 3]) (.seq (.reg [
      ⟨some 14, .call false 7 [], none⟩,
      ⟨some 7, .mv (.t 14), none⟩])
  (.seq (.prune [1, 2, 3, 7]) (.seq (.reg [
      ⟨some 15, .lda 6 (.t 3), none⟩,
      ⟨some 16, .call false 8 [(.t 15)], none⟩,
      ⟨some 8, .mv (.t 16), none⟩])
  (.seq (.prune [1, 2, 3, 7, 8]) (.seq (.seq (.reg [
        ⟨some 17, .mv (.t 8), none⟩,
        ⟨some 18, .un .not (.t 17), none⟩,
        ⟨some 19, .mv (.t 18), none⟩,
        ⟨some 20, .lda 6 (.t 3), some (19, false)⟩,
        ⟨some 21, .call false 10 [(.t 20)], some (19, false)⟩,
        ⟨some 22, .un .not (.t 21), some (19, false)⟩,
        ⟨some 23, .pick (.t 19) (.c (.bool true)) (.t 22), none⟩,
        ⟨some 24, .mv (.t 23), none⟩,
        ⟨some 25, .mv (.t 1), some (24, false)⟩,
        ⟨some 26, .bin .lss (.t 25) (.c (.int .i64 1)), some (24, false)⟩,
        ⟨some 27, .pick (.t 24) (.c (.bool true)) (.t 26), none⟩,
        ⟨some 28, .mv (.t 27), none⟩,
        ⟨some 29, .mv (.t 1), some (28, false)⟩,
        ⟨some 30, .bin .gtr (.t 29) (.c (.int .i64 99)), some (28, false)⟩,
        ⟨some 31, .pick (.t 28) (.c (.bool true)) (.t 30), none⟩])
    (.seq (.prune [1, 2, 3, 7, 31]) (.cond (.t 31) (.seq (.reg [
          ⟨some 32, .mv (.t 7), none⟩,
          ⟨some 6, .mv (.t 32), none⟩])
      (.ret))
    (.skip))))
  (.seq (.prune [1, 2, 3, 7]) (.seq (.reg [
      ⟨some 33, .lda 6 (.t 3), none⟩,
      ⟨some 34, .mv (.t 1), none⟩,
      ⟨some 35, .call false 12 [(.t 33), (.t 34)], none⟩,
      ⟨some 9, .alloc [.int .i64 0, .int .i64 0, .int .i64 0, .int .i64 0, .int .i64 0, .int .i64 0, .int .i64 0, .int .i64 0, .lst [] true, .int .i64 0, .int .i64 0, .lst [] true], none⟩,
      ⟨none, .sta 12 (.t 9) (.t 35), none⟩])
  (.seq (.prune [1, 2, 3, 7, 9]) (.seq (.reg [
      ⟨some 36, .lda 6 (.t 3), none⟩,
      ⟨some 37, .mv (.t 1), none⟩,
      ⟨some 38, .call false 14 [(.t 36), (.t 37)], none⟩,
      ⟨some 10, .alloc [.int .i64 0, .int .i64 0, .int .i64 0, .int .i64 0, .int .i64 0, .int .i64 0, .int .i64 0, .int .i64 0, .lst [] true, .int .i64 0, .int .i64 0, .lst [] true], none⟩,
      ⟨none, .sta 12 (.t 10) (.t 38), none⟩])
  (.seq (.prune [1, 2, 3, 7, 9, 10]) (.seq (.reg [
      ⟨some 39, .lda 12 (.t 9), none⟩,
      ⟨some 40, .mv (.t 1), none⟩,
      ⟨some 41, .call false 23 [(.t 39), (.t 40)], none⟩,
      ⟨some 11, .mv (.t 41), none⟩])
  (.seq (.prune [1, 2, 3, 7, 9, 10, 11]) (.seq (.reg [
      ⟨some 42, .lda 12 (.t 10), none⟩,
      ⟨some 43, .mv (.t 1), none⟩,
      ⟨some 44, .call false 23 [(.t 42), (.t 43)], none⟩,
      ⟨some 12, .mv (.t 44), none⟩])
  (.seq (.prune [2, 3, 7, 9, 10, 11, 12]) (.seq (.seq (.reg [
        ⟨some 45, .mv (.t 2), none⟩,
        ⟨some 46, .bin .neq (.t 45) (.c (.int .i64 1)), none⟩,
        ⟨some 47, .mv (.t 46), none⟩,
        ⟨some 48, .mv (.t 2), some (47, true)⟩,
        ⟨some 49, .bin .neq (.t 48) (.c (.int .i64 2)), some (47, true)⟩,
        ⟨some 50, .pick (.t 47) (.t 49) (.c (.bool false)), none⟩,
        ⟨some 51, .mv (.t 50), none⟩,
        ⟨some 52, .mv (.t 2), some (51, true)⟩,
        ⟨some 53, .bin .neq (.t 52) (.c (.int .i64 4)), some (51, true)⟩,
        ⟨some 54, .pick (.t 51) (.t 53) (.c (.bool false)), none⟩,
        ⟨some 55, .mv (.t 54), none⟩,
        ⟨some 56, .mv (.t 2), some (55, true)⟩,
        ⟨some 57, .bin .neq (.t 56) (.c (.int .i64 8)), some (55, true)⟩,
        ⟨some 58, .pick (.t 55) (.t 57) (.c (.bool false)), none⟩,
        ⟨some 59, .mv (.t 58), none⟩,
        ⟨some 60, .mv (.t 2), some (59, true)⟩,
        ⟨some 61, .bin .neq (.t 60) (.c (.int .i64 16)), some (59, true)⟩,
        ⟨some 62, .pick (.t 59) (.t 61) (.c (.bool false)), none⟩,
        ⟨some 63, .mv (.t 62), none⟩,
        ⟨some 64, .mv (.t 2), some (63, true)⟩,
        ⟨some 65, .bin .neq (.t 64) (.c (.int .i64 32)), some (63, true)⟩,
        ⟨some 66, .pick (.t 63) (.t 65) (.c (.bool false)), none⟩,
        ⟨some 67, .mv (.t 66), none⟩,
        ⟨some 68, .mv (.t 2), some (67, true)⟩,
        ⟨some 69, .bin .neq (.t 68) (.c (.int .i64 64)), some (67, true)⟩,
        ⟨some 70, .pick (.t 67) (.t 69) (.c (.bool false)), none⟩,
        ⟨some 71, .mv (.t 70), none⟩,
        ⟨some 72, .mv (.t 2), some (71, true)⟩,
        ⟨some 73, .bin .neq (.t 72) (.c (.int .i64 128)), some (71, true)⟩,
        ⟨some 74, .pick (.t 71) (.t 73) (.c (.bool false)), none⟩])
    (.seq (.prune [2, 3, 7, 9, 10, 11, 12, 74]) (.cond (.t 74) (.seq (.reg [
          ⟨some 75, .mv (.t 7), none⟩,
          ⟨some 76, .mv (.t 75), none⟩,
          ⟨some 77, .mv (.t 11), some (76, true)⟩,
          ⟨some 78, .pick (.t 76) (.t 77) (.c (.bool false)), none⟩,
          ⟨some 79, .mv (.t 78), none⟩,
          ⟨some 80, .mv (.t 12), some (79, true)⟩,
          ⟨some 81, .pick (.t 79) (.t 80) (.c (.bool false)), none⟩,
          ⟨some 82, .mv (.t 81), none⟩,
          ⟨some 83, .lda 12 (.t 9), some (82, true)⟩,
          ⟨some 84, .mv (.t 2), some (82, true)⟩,
          ⟨some 85, .call false 24 [(.t 83), (.t 84)], some (82, true)⟩,
          ⟨some 86, .bin .eql (.t 85) (.c (.int .i64 0)), some (82, true)⟩,
          ⟨some 87, .pick (.t 82) (.t 86) (.c (.bool false)), none⟩,
          ⟨some 6, .mv (.t 87), none⟩])
      (.ret))
    (.skip))))
  (.seq (.prune [2, 3, 7, 9, 10, 11, 12]) (.seq (.reg [
      ⟨some 88, .fa 0 (.t 3), none⟩,
      ⟨some 89, .lds (.t 88), none⟩,
      ⟨some 90, .mv (.t 89), none⟩,
      ⟨some 91, .mv (.t 2), some (90, false)⟩,
      ⟨some 92, .bin .lss (.t 91) (.c (.int .i64 64)), some (90, false)⟩,
      ⟨some 93, .mv (.t 92), some (90, false)⟩,
      ⟨some 94, .fa 1 (.t 3), some (93, true)⟩,
      ⟨some 95, .lds (.t 94), some (93, true)⟩,
      ⟨some 96, .mv (.t 2), some (93, true)⟩,
      ⟨some 97, .bin .and (.t 95) (.t 96), some (93, true)⟩,
      ⟨some 98, .bin .neq (.t 97) (.c (.int .i64 0)), some (93, true)⟩,
      ⟨some 99, .pick (.t 93) (.t 98) (.c (.bool false)), some (90, false)⟩,
      ⟨some 100, .pick (.t 90) (.c (.bool true)) (.t 99), none⟩,
      ⟨some 101, .mv (.t 100), none⟩,
      ⟨some 102, .mv (.t 2), some (101, false)⟩,
      ⟨some 103, .bin .eql (.t 102) (.c (.int .i64 64)), some (101, false)⟩,
      ⟨some 104, .mv (.t 103), some (101, false)⟩,
      ⟨some 105, .fa 2 (.t 3), some (104, true)⟩,
      ⟨some 106, .lds (.t 105), some (104, true)⟩,
      ⟨some 107, .bin .neq (.t 106) (.c (.int .i64 0)), some (104, true)⟩,
      ⟨some 108, .pick (.t 104) (.t 107) (.c (.bool false)), some (101, false)⟩,
      ⟨some 109, .pick (.t 101) (.c (.bool true)) (.t 108), none⟩,
      ⟨some 110, .mv (.t 109), none⟩,
      ⟨some 111, .mv (.t 2), some (110, false)⟩,
      ⟨some 112, .bin .eql (.t 111) (.c (.int .i64 128)), some (110, false)⟩,
      ⟨some 113, .mv (.t 112), some (110, false)⟩,
      ⟨some 114, .fa 4 (.t 3), some (113, true)⟩,
      ⟨some 115, .lds (.t 114), some (113, true)⟩,
      ⟨some 116, .bin .neq (.t 115) (.c (.int .i64 0)), some (113, true)⟩,
      ⟨some 117, .pick (.t 113) (.t 116) (.c (.bool false)), some (110, false)⟩,
      ⟨some 118, .pick (.t 110) (.c (.bool true)) (.t 117), none⟩,
      ⟨some 13, .mv (.t 118), none⟩])
  (.seq (.prune [2, 7, 9, 10, 11, 12, 13]) (.seq (.reg [
      ⟨some 119, .mv (.t 7), none⟩,
      ⟨some 120, .mv (.t 119), none⟩,
      ⟨some 121, .mv (.t 11), some (120, true)⟩,
      ⟨some 122, .pick (.t 120) (.t 121) (.c (.bool false)), none⟩,
      ⟨some 123, .mv (.t 122), none⟩,
      ⟨some 124, .mv (.t 12), some (123, true)⟩,
      ⟨some 125, .pick (.t 123) (.t 124) (.c (.bool false)), none⟩,
      ⟨some 126, .mv (.t 125), none⟩,
      ⟨some 127, .lda 12 (.t 9), some (126, true)⟩,
      ⟨some 128, .call false 20 [(.t 127)], some (126, true)⟩,
      ⟨some 129, .pick (.t 126) (.t 128) (.c (.bool false)), none⟩,
      ⟨some 130, .mv (.t 129), none⟩,
      ⟨some 131, .lda 12 (.t 10), some (130, true)⟩,
      ⟨some 132, .call false 20 [(.t 131)], some (130, true)⟩,
      ⟨some 133, .pick (.t 130) (.t 132) (.c (.bool false)), none⟩,
      ⟨some 134, .mv (.t 133), none⟩,
      ⟨some 135, .lda 12 (.t 9), some (134, true)⟩,
      ⟨some 136, .mv (.t 2), some (134, true)⟩,
      ⟨some 137, .call false 24 [(.t 135), (.t 136)], some (134, true)⟩,
      ⟨some 138, .bin .eql (.t 137) (.c (.int .i64 0)), some (134, true)⟩,
      ⟨some 139, .mv (.t 13), some (134, true)⟩,
      ⟨some 140, .eqv false .bool (.t 138) (.t 139), some (134, true)⟩,
      ⟨some 141, .pick (.t 134) (.t 140) (.c (.bool false)), none⟩,
      ⟨some 142, .mv (.t 141), none⟩,
      ⟨some 143, .lda 12 (.t 10), some (142, true)⟩,
      ⟨some 144, .mv (.t 2), some (142, true)⟩,
      ⟨some 145, .call false 24 [(.t 143), (.t 144)], some (142, true)⟩,
      ⟨some 146, .bin .eql (.t 145) (.c (.int .i64 0)), some (142, true)⟩,
      ⟨some 147, .pick (.t 142) (.t 146) (.c (.bool false)), none⟩,
      ⟨some 6, .mv (.t 147), none⟩])
  (.ret))))))))))))))))))))),
  [.t 6]⟩
/-- bezel/bezellaw07.CoerceAsks -/
def a6 : AFunc := ⟨.seq (.reg [
      ⟨some 3, .box (.t 0), none⟩,
      ⟨some 4, .box (.t 1), none⟩,
      ⟨some 6, .mv (.c (.bool false)), none⟩])
  (.seq (.prune [2, 3, 4]) (.seq (.reg [
      ⟨some 13, .call false 7 [], none⟩,
      ⟨some 7, .mv (.t 13), none⟩])
  (.seq (.prune [2, 3, 4, 7]) (.seq (.reg [
      ⟨some 14, .lda 12 (.t 3), none⟩,
      ⟨some 15, .call false 9 [(.t 14)], none⟩,
      ⟨some 8, .mv (.t 15), none⟩])
  (.seq (.prune [2, 3, 4, 7, 8]) (.seq (.reg [
      ⟨some 16, .lda 12 (.t 4), none⟩,
      ⟨some 17, .call false 9 [(.t 16)], none⟩,
      ⟨some 9, .mv (.t 17), none⟩])
  (.seq (.prune [2, 3, 4, 7, 8, 9]) (.seq (.seq (.reg [
        ⟨some 18, .mv (.t 8), none⟩,
        ⟨some 19, .un .not (.t 18), none⟩,
        ⟨some 20, .mv (.t 19), none⟩,
        ⟨some 21, .mv (.t 9), some (20, false)⟩,
        ⟨some 22, .un .not (.t 21), some (20, false)⟩,
        ⟨some 23, .pick (.t 20) (.c (.bool true)) (.t 22), none⟩])
    (.seq (.prune [2, 3, 4, 7, 23]) (.cond (.t 23) (.seq (.reg [
          ⟨some 24, .mv (.t 7), none⟩,
          ⟨some 6, .mv (.t 24), none⟩])
      (.ret))
    (.skip))))
  (.seq (.prune [2, 3, 4, 7]) (.seq (.reg [
      ⟨some 25, .lda 12 (.t 3), none⟩,
      ⟨some 26, .call false 16 [(.t 25)], none⟩,
      ⟨some 10, .alloc [.int .i64 0, .int .i64 0, .int .i64 0, .int .i64 0, .int .i64 0, .int .i64 0, .int .i64 0, .int .i64 0, .lst [] true, .int .i64 0, .int .i64 0, .lst [] true], none⟩,
      ⟨none, .sta 12 (.t 10) (.t 26), none⟩])
  (.seq (.prune [2, 3, 4, 7, 10]) (.seq (.seq (.draw 0 [
        (⟨some 27, .lda 12 (.t 3), none⟩, 0, []),
        (⟨some 28, .call false 20 [(.t 27)], none⟩, 0, [0]),
        (⟨some 29, .lda 12 (.t 10), none⟩, 0, []),
        (⟨some 30, .call false 17 [(.t 29)], none⟩, 0, [0, 1, 2]),
        (⟨some 31, .eqv true .bool (.t 28) (.t 30), none⟩, 0, [0, 1, 2, 3]),
        (⟨some 32, .mv (.t 31), none⟩, 0, [0, 1, 2, 3, 4]),
        (⟨some 33, .lda 12 (.t 3), some (32, false)⟩, 0, [0, 1, 2, 3, 4, 5]),
        (⟨some 34, .lda 12 (.t 4), some (32, false)⟩, 0, [0, 1, 2, 3, 4, 5]),
        (⟨some 35, .call false 25 [(.t 33), (.t 34)], some (32, false)⟩, 0, [0, 1, 2, 3, 4, 5, 6, 7]),
        (⟨some 36, .lda 12 (.t 10), some (32, false)⟩, 0, [0, 1, 2, 3, 4, 5]),
        (⟨some 37, .lda 12 (.t 4), some (32, false)⟩, 0, [0, 1, 2, 3, 4, 5]),
        (⟨some 38, .call false 16 [(.t 37)], some (32, false)⟩, 0, [0, 1, 2, 3, 4, 5, 6, 7, 8, 10]),
        (⟨some 39, .call false 26 [(.t 36), (.t 38)], some (32, false)⟩, 0, [0, 1, 2, 3, 4, 5, 6, 7, 8, 9, 10, 11]),
        (⟨some 40, .eqv true .bool (.t 35) (.t 39), some (32, false)⟩, 0, [0, 1, 2, 3, 4, 5, 6, 7, 8, 9, 10, 11, 12]),
        (⟨some 41, .pick (.t 32) (.c (.bool true)) (.t 40), none⟩, 0, [0, 1, 2, 3, 4, 5, 6, 7, 8, 9, 10, 11, 12, 13]),
        (⟨some 42, .mv (.t 41), none⟩, 0, [0, 1, 2, 3, 4, 5, 6, 7, 8, 9, 10, 11, 12, 13, 14]),
        (⟨some 43, .lda 12 (.t 3), some (42, false)⟩, 0, [0, 1, 2, 3, 4, 5, 6, 7, 8, 9, 10, 11, 12, 13, 14, 15]),
        (⟨some 44, .call false 27 [(.t 43)], some (42, false)⟩, 0, [0, 1, 2, 3, 4, 5, 6, 7, 8, 9, 10, 11, 12, 13, 14, 15, 16]),
        (⟨some 45, .lda 12 (.t 10), some (42, false)⟩, 0, [0, 1, 2, 3, 4, 5, 6, 7, 8, 9, 10, 11, 12, 13, 14, 15]),
        (⟨some 46, .call false 28 [(.t 45)], some (42, false)⟩, 0, [0, 1, 2, 3, 4, 5, 6, 7, 8, 9, 10, 11, 12, 13, 14, 15, 16, 17, 18]),
        (⟨some 47, .eqv true .bool (.t 44) (.t 46), some (42, false)⟩, 0, [0, 1, 2, 3, 4, 5, 6, 7, 8, 9, 10, 11, 12, 13, 14, 15, 16, 17, 18, 19]),
        (⟨some 48, .pick (.t 42) (.c (.bool true)) (.t 47), none⟩, 0, [0, 1, 2, 3, 4, 5, 6, 7, 8, 9, 10, 11, 12, 13, 14, 15, 16, 17, 18, 19, 20]),
        (⟨some 49, .mv (.t 48), none⟩, 0, [0, 1, 2, 3, 4, 5, 6, 7, 8, 9, 10, 11, 12, 13, 14, 15, 16, 17, 18, 19, 20, 21]),
        (⟨some 50, .lda 12 (.t 3), some (49, false)⟩, 0, [0, 1, 2, 3, 4, 5, 6, 7, 8, 9, 10, 11, 12, 13, 14, 15, 16, 17, 18, 19, 20, 21, 22]),
        (⟨some 51, .call false 21 [(.t 50)], some (49, false)⟩, 0, [0, 1, 2, 3, 4, 5, 6, 7, 8, 9, 10, 11, 12, 13, 14, 15, 16, 17, 18, 19, 20, 21, 22, 23]),
        (⟨some 52, .lda 12 (.t 10), some (49, false)⟩, 0, [0, 1, 2, 3, 4, 5, 6, 7, 8, 9, 10, 11, 12, 13, 14, 15, 16, 17, 18, 19, 20, 21, 22]),
        (⟨some 53, .call false 29 [(.t 52)], some (49, false)⟩, 0, [0, 1, 2, 3, 4, 5, 6, 7, 8, 9, 10, 11, 12, 13, 14, 15, 16, 17, 18, 19, 20, 21, 22, 23, 24, 25]),
        (⟨some 54, .bin .neq (.t 51) (.t 53), some (49, false)⟩, 0, [0, 1, 2, 3, 4, 5, 6, 7, 8, 9, 10, 11, 12, 13, 14, 15, 16, 17, 18, 19, 20, 21, 22, 23, 24, 25, 26]),
        (⟨some 55, .pick (.t 49) (.c (.bool true)) (.t 54), none⟩, 0, [0, 1, 2, 3, 4, 5, 6, 7, 8, 9, 10, 11, 12, 13, 14, 15, 16, 17, 18, 19, 20, 21, 22, 23, 24, 25, 26, 27]),
        (⟨some 56, .mv (.t 55), none⟩, 0, [0, 1, 2, 3, 4, 5, 6, 7, 8, 9, 10, 11, 12, 13, 14, 15, 16, 17, 18, 19, 20, 21, 22, 23, 24, 25, 26, 27, 28]),
        (⟨some 57, .lda 12 (.t 3), some (56, false)⟩, 0, [0, 1, 2, 3, 4, 5, 6, 7, 8, 9, 10, 11, 12, 13, 14, 15, 16, 17, 18, 19, 20, 21, 22, 23, 24, 25, 26, 27, 28, 29]),
        (⟨some 58, .call false 22 [(.t 57)], some (56, false)⟩, 0, [0, 1, 2, 3, 4, 5, 6, 7, 8, 9, 10, 11, 12, 13, 14, 15, 16, 17, 18, 19, 20, 21, 22, 23, 24, 25, 26, 27, 28, 29, 30]),
        (⟨some 59, .lda 12 (.t 10), some (56, false)⟩, 0, [0, 1, 2, 3, 4, 5, 6, 7, 8, 9, 10, 11, 12, 13, 14, 15, 16, 17, 18, 19, 20, 21, 22, 23, 24, 25, 26, 27, 28, 29]),
        (⟨some 60, .call false 30 [(.t 59)], some (56, false)⟩, 0, [0, 1, 2, 3, 4, 5, 6, 7, 8, 9, 10, 11, 12, 13, 14, 15, 16, 17, 18, 19, 20, 21, 22, 23, 24, 25, 26, 27, 28, 29, 30, 31, 32]),
        (⟨some 61, .bin .neq (.t 58) (.t 60), some (56, false)⟩, 0, [0, 1, 2, 3, 4, 5, 6, 7, 8, 9, 10, 11, 12, 13, 14, 15, 16, 17, 18, 19, 20, 21, 22, 23, 24, 25, 26, 27, 28, 29, 30, 31, 32, 33]),
        (⟨some 62, .pick (.t 56) (.c (.bool true)) (.t 61), none⟩, 0, [0, 1, 2, 3, 4, 5, 6, 7, 8, 9, 10, 11, 12, 13, 14, 15, 16, 17, 18, 19, 20, 21, 22, 23, 24, 25, 26, 27, 28, 29, 30, 31, 32, 33, 34])])
    (.seq (.prune [2, 3, 7, 10, 62]) (.cond (.t 62) (.seq (.reg [
          ⟨some 6, .mv (.c (.bool false)), none⟩])
      (.ret))
    (.skip))))
  (.seq (.prune [2, 3, 7, 10]) (.seq (.seq (.reg [
        ⟨some 63, .lda 12 (.t 10), none⟩,
        ⟨some 64, .call false 17 [(.t 63)], none⟩,
        ⟨some 65, .un .not (.t 64), none⟩])
    (.seq (.prune [2, 3, 7, 10, 65]) (.cond (.t 65) (.seq (.reg [
          ⟨some 66, .mv (.t 7), none⟩,
          ⟨some 6, .mv (.t 66), none⟩])
      (.ret))
    (.skip))))
  (.seq (.prune [2, 3, 7, 10]) (.seq (.draw 0 [
      (⟨some 67, .lda 12 (.t 3), none⟩, 0, []),
      (⟨some 68, .call false 31 [(.t 67)], none⟩, 0, [0]),
      (⟨some 69, .lda 12 (.t 10), none⟩, 0, []),
      (⟨some 70, .call false 32 [(.t 69)], none⟩, 0, [0, 1, 2]),
      (⟨some 71, .call false 11 [(.t 68), (.t 70)], none⟩, 0, [0, 1, 2, 3]),
      (⟨some 11, .mv (.t 71), none⟩, 0, [0, 1, 2, 3, 4])])
  (.seq (.prune [2, 3, 7, 10, 11]) (.seq (.draw 0 [
      (⟨some 72, .lda 12 (.t 3), none⟩, 0, []),
      (⟨some 73, .call false 33 [(.t 72)], none⟩, 0, [0]),
      (⟨some 74, .lda 12 (.t 10), none⟩, 0, []),
      (⟨some 75, .call false 34 [(.t 74)], none⟩, 0, [0, 1, 2]),
      (⟨some 76, .call false 11 [(.t 73), (.t 75)], none⟩, 0, [0, 1, 2, 3]),
      (⟨some 12, .mv (.t 76), none⟩, 0, [0, 1, 2, 3, 4])])
  (.seq (.prune [2, 3, 7, 10, 11, 12]) (.seq (.draw 0 [
      (⟨some 77, .mv (.t 7), none⟩, 0, []),
      (⟨some 78, .mv (.t 77), none⟩, 0, [0]),
      (⟨some 79, .mv (.t 11), some (78, true)⟩, 0, [0, 1]),
      (⟨some 80, .pick (.t 78) (.t 79) (.c (.bool false)), none⟩, 0, [0, 1, 2]),
      (⟨some 81, .mv (.t 80), none⟩, 0, [0, 1, 2, 3]),
      (⟨some 82, .mv (.t 12), some (81, true)⟩, 0, [0, 1, 2, 3, 4]),
      (⟨some 83, .pick (.t 81) (.t 82) (.c (.bool false)), none⟩, 0, [0, 1, 2, 3, 4, 5]),
      (⟨some 84, .mv (.t 83), none⟩, 0, [0, 1, 2, 3, 4, 5, 6]),
      (⟨some 85, .lda 12 (.t 3), some (84, true)⟩, 0, [0, 1, 2, 3, 4, 5, 6, 7]),
      (⟨some 86, .mv (.t 2), some (84, true)⟩, 0, [0, 1, 2, 3, 4, 5, 6, 7]),
      (⟨some 87, .call false 24 [(.t 85), (.t 86)], some (84, true)⟩, 0, [0, 1, 2, 3, 4, 5, 6, 7, 8, 9]),
      (⟨some 88, .lda 12 (.t 10), some (84, true)⟩, 0, [0, 1, 2, 3, 4, 5, 6, 7]),
      (⟨some 89, .mv (.t 2), some (84, true)⟩, 0, [0, 1, 2, 3, 4, 5, 6, 7]),
      (⟨some 90, .call false 35 [(.t 88), (.t 89)], some (84, true)⟩, 0, [0, 1, 2, 3, 4, 5, 6, 7, 8, 9, 10, 11, 12]),
      (⟨some 91, .bin .eql (.t 87) (.t 90), some (84, true)⟩, 0, [0, 1, 2, 3, 4, 5, 6, 7, 8, 9, 10, 11, 12, 13]),
      (⟨some 92, .pick (.t 84) (.t 91) (.c (.bool false)), none⟩, 0, [0, 1, 2, 3, 4, 5, 6, 7, 8, 9, 10, 11, 12, 13, 14]),
      (⟨some 93, .mv (.t 92), none⟩, 0, [0, 1, 2, 3, 4, 5, 6, 7, 8, 9, 10, 11, 12, 13, 14, 15]),
      (⟨some 94, .lda 12 (.t 3), some (93, true)⟩, 0, [0, 1, 2, 3, 4, 5, 6, 7, 8, 9, 10, 11, 12, 13, 14, 15, 16]),
      (⟨some 95, .mv (.t 2), some (93, true)⟩, 0, [0, 1, 2, 3, 4, 5, 6, 7, 8, 9, 10, 11, 12, 13, 14, 15, 16]),
      (⟨some 96, .call false 36 [(.t 94), (.t 95)], some (93, true)⟩, 0, [0, 1, 2, 3, 4, 5, 6, 7, 8, 9, 10, 11, 12, 13, 14, 15, 16, 17, 18]),
      (⟨some 97, .lda 12 (.t 10), some (93, true)⟩, 0, [0, 1, 2, 3, 4, 5, 6, 7, 8, 9, 10, 11, 12, 13, 14, 15, 16]),
      (⟨some 98, .mv (.t 2), some (93, true)⟩, 0, [0, 1, 2, 3, 4, 5, 6, 7, 8, 9, 10, 11, 12, 13, 14, 15, 16]),
      (⟨some 99, .call false 37 [(.t 97), (.t 98)], some (93, true)⟩, 0, [0, 1, 2, 3, 4, 5, 6, 7, 8, 9, 10, 11, 12, 13, 14, 15, 16, 17, 18, 19, 20, 21]),
      (⟨some 100, .eqv false .bool (.t 96) (.t 99), some (93, true)⟩, 0, [0, 1, 2, 3, 4, 5, 6, 7, 8, 9, 10, 11, 12, 13, 14, 15, 16, 17, 18, 19, 20, 21, 22]),
      (⟨some 101, .pick (.t 93) (.t 100) (.c (.bool false)), none⟩, 0, [0, 1, 2, 3, 4, 5, 6, 7, 8, 9, 10, 11, 12, 13, 14, 15, 16, 17, 18, 19, 20, 21, 22, 23]),
      (⟨some 6, .mv (.t 101), none⟩, 0, [0, 1, 2, 3, 4, 5, 6, 7, 8, 9, 10, 11, 12, 13, 14, 15, 16, 17, 18, 19, 20, 21, 22, 23, 24])])
  (.ret))))))))))))))))))))),
  [.t 6]⟩
/-- bezel/bezellaw07.awake -/
def a7 : AFunc := ⟨.seq (.reg [
      ⟨some 0, .mv (.c (.bool false)), none⟩])
  (.seq (.prune []) (.seq (.reg [
      ⟨some 5, .build [.bool false, .int .i64 0, .int .i64 0, .lst [] true, .int .i64 0, .lst [] true] [(1, 1, (.c (.int .i64 1)))], none⟩,
      ⟨some 1, .alloc [.bool false, .int .i64 0, .int .i64 0, .lst [] true, .int .i64 0, .lst [] true], none⟩,
      ⟨none, .sta 6 (.t 1) (.t 5), none⟩])
  (.seq (.prune [1]) (.seq (.reg [
      ⟨some 6, .lda 6 (.t 1), none⟩,
      ⟨some 7, .call false 12 [(.t 6), (.c (.int .i64 5))], none⟩,
      ⟨some 2, .alloc [.int .i64 0, .int .i64 0, .int .i64 0, .int .i64 0, .int .i64 0, .int .i64 0, .int .i64 0, .int .i64 0, .lst [] true, .int .i64 0, .int .i64 0, .lst [] true], none⟩,
      ⟨none, .sta 12 (.t 2) (.t 7), none⟩])
  (.seq (.prune [1, 2]) (.seq (.reg [
      ⟨some 8, .lda 6 (.t 1), none⟩,
      ⟨some 9, .lda 6 (.t 1), none⟩,
      ⟨some 10, .bsl 6 (.agg [.bool false, .int .i64 0, .int .i64 0, .lst [] true, .int .i64 0, .lst [] true]) 2 [(0, (.t 8)), (1, (.t 9))], none⟩,
      ⟨some 11, .build [.bool false, .int .i64 0, .int .i64 0, .lst [] true, .int .i64 0, .lst [] true] [(4, 1, (.c (.int .i64 1))), (5, 1, (.t 10))], none⟩,
      ⟨some 12, .call false 14 [(.t 11), (.c (.int .i64 6))], none⟩,
      ⟨some 3, .alloc [.int .i64 0, .int .i64 0, .int .i64 0, .int .i64 0, .int .i64 0, .int .i64 0, .int .i64 0, .int .i64 0, .lst [] true, .int .i64 0, .int .i64 0, .lst [] true], none⟩,
      ⟨none, .sta 12 (.t 3) (.t 12), none⟩])
  (.seq (.prune [2, 3]) (.seq (.reg [
      ⟨some 13, .lda 12 (.t 3), none⟩,
      ⟨some 14, .lda 12 (.t 3), none⟩,
      ⟨some 15, .call false 18 [(.t 13), (.t 14)], none⟩,
      ⟨some 4, .alloc [.int .i64 0, .int .i64 0, .int .i64 0, .int .i64 0, .int .i64 0, .int .i64 0, .int .i64 0, .int .i64 0, .lst [] true, .int .i64 0, .int .i64 0, .lst [] true], none⟩,
      ⟨none, .sta 12 (.t 4) (.t 15), none⟩])
  (.seq (.prune [2, 3, 4]) (.seq (.reg [
      ⟨some 16, .lda 12 (.t 2), none⟩,
      ⟨some 17, .call false 24 [(.t 16), (.c (.int .i64 1))], none⟩,
      ⟨some 18, .bin .eql (.t 17) (.c (.int .i64 0)), none⟩,
      ⟨some 19, .mv (.t 18), none⟩,
      ⟨some 20, .lda 12 (.t 2), some (19, true)⟩,
      ⟨some 21, .call false 24 [(.t 20), (.c (.int .i64 4))], some (19, true)⟩,
      ⟨some 22, .bin .eql (.t 21) (.c (.int .i64 5)), some (19, true)⟩,
      ⟨some 23, .pick (.t 19) (.t 22) (.c (.bool false)), none⟩,
      ⟨some 24, .mv (.t 23), none⟩,
      ⟨some 25, .lda 12 (.t 2), some (24, true)⟩,
      ⟨some 26, .call false 24 [(.t 25), (.c (.int .i64 128))], some (24, true)⟩,
      ⟨some 27, .bin .eql (.t 26) (.c (.int .i64 5)), some (24, true)⟩,
      ⟨some 28, .pick (.t 24) (.t 27) (.c (.bool false)), none⟩,
      ⟨some 29, .mv (.t 28), none⟩,
      ⟨some 30, .lda 12 (.t 3), some (29, true)⟩,
      ⟨some 31, .call false 36 [(.t 30), (.c (.int .i64 128))], some (29, true)⟩,
      ⟨some 32, .pick (.t 29) (.t 31) (.c (.bool false)), none⟩,
      ⟨some 33, .mv (.t 32), none⟩,
      ⟨some 34, .fa 11 (.t 4), some (33, true)⟩,
      ⟨some 35, .lds (.t 34), some (33, true)⟩,
      ⟨some 36, .len .slice (.t 35), some (33, true)⟩,
      ⟨some 37, .bin .eql (.t 36) (.c (.int .i64 2)), some (33, true)⟩,
      ⟨some 38, .pick (.t 33) (.t 37) (.c (.bool false)), none⟩,
      ⟨some 39, .mv (.t 38), none⟩,
      ⟨some 40, .fa 11 (.t 4), some (39, true)⟩,
      ⟨some 41, .lds (.t 40), some (39, true)⟩,
      ⟨some 42, .ia 12 (.t 41) (.c (.int .i64 1)), some (39, true)⟩,
      ⟨some 43, .lda 12 (.t 42), some (39, true)⟩,
      ⟨some 44, .call false 27 [(.t 43)], some (39, true)⟩,
      ⟨some 45, .pick (.t 39) (.t 44) (.c (.bool false)), none⟩,
      ⟨some 46, .mv (.t 45), none⟩,
      ⟨some 47, .lda 12 (.t 4), some (46, true)⟩,
      ⟨some 48, .call false 21 [(.t 47)], some (46, true)⟩,
      ⟨some 49, .bin .eql (.t 48) (.c (.int .i64 2)), some (46, true)⟩,
      ⟨some 50, .pick (.t 46) (.t 49) (.c (.bool false)), none⟩,
      ⟨some 51, .mv (.t 50), none⟩,
      ⟨some 52, .lda 12 (.t 4), some (51, true)⟩,
      ⟨some 53, .call false 22 [(.t 52)], some (51, true)⟩,
      ⟨some 54, .bin .eql (.t 53) (.c (.int .i64 3)), some (51, true)⟩,
      ⟨some 55, .pick (.t 51) (.t 54) (.c (.bool false)), none⟩,
      ⟨some 56, .mv (.t 55), none⟩,
      ⟨some 57, .lda 12 (.t 4), some (56, true)⟩,
      ⟨some 58, .call false 20 [(.t 57)], some (56, true)⟩,
      ⟨some 59, .pick (.t 56) (.t 58) (.c (.bool false)), none⟩,
      ⟨some 0, .mv (.t 59), none⟩])
  (.ret))))))))))),
  [.t 0]⟩
/-- bezel/bezelref05.Light -/
def a8 : AFunc := ⟨.seq (.reg [
      ⟨some 1, .box (.t 0), none⟩,
      ⟨some 2, .mv (.c (.bool false)), none⟩])
  (.seq (.prune [1]) (.seq (.reg [
      ⟨some 3, .lda 6 (.t 1), none⟩,
      ⟨some 4, .call false 38 [(.t 3), (.c (.int .i64 60))], none⟩,
      ⟨some 5, .bin .lss (.t 4) (.c (.int .i64 120)), none⟩,
      ⟨some 2, .mv (.t 5), none⟩])
  (.ret))),
  [.t 2]⟩
/-- bezel/bezellaw07.light -/
def a9 : AFunc := ⟨.seq (.reg [
      ⟨some 1, .box (.t 0), none⟩,
      ⟨some 2, .mv (.c (.bool false)), none⟩])
  (.seq (.prune [1]) (.seq (.seq (.reg [
        ⟨some 3, .lda 12 (.t 1), none⟩,
        ⟨some 4, .call false 39 [(.t 3), (.c (.int .i64 30))], none⟩,
        ⟨some 5, .un .not (.t 4), none⟩])
    (.seq (.prune [1, 5]) (.cond (.t 5) (.seq (.reg [
          ⟨some 2, .mv (.c (.bool false)), none⟩])
      (.ret))
    (.skip))))
  (.seq (.prune [1]) (.seq (.reg [
      ⟨some 6, .lda 12 (.t 1), none⟩,
      ⟨some 7, .call false 16 [(.t 6)], none⟩,
      ⟨some 8, .call false 40 [(.t 7)], none⟩,
      ⟨some 2, .mv (.t 8), none⟩])
  (.ret))))),
  [.t 2]⟩
/-- bezel/bezelref05.Right -/
def a10 : AFunc := ⟨.seq (.reg [
      ⟨some 1, .box (.t 0), none⟩,
      ⟨some 2, .mv (.c (.bool false)), none⟩])
  (.seq (.prune [1]) (.seq (.reg [
      ⟨some 3, .lda 6 (.t 1), none⟩,
      ⟨some 4, .call false 38 [(.t 3), (.c (.int .i64 60))], none⟩,
      ⟨some 5, .bin .leq (.t 4) (.c (.int .i64 300)), none⟩,
      ⟨some 6, .mv (.t 5), none⟩,
      ⟨some 7, .lda 6 (.t 1), some (6, true)⟩,
      ⟨some 8, .call false 41 [(.t 7), (.c (.int .i64 20))], some (6, true)⟩,
      ⟨some 9, .pick (.t 6) (.t 8) (.c (.bool false)), none⟩,
      ⟨some 2, .mv (.t 9), none⟩])
  (.ret))),
  [.t 2]⟩
/-- bezel/bezellaw07.same -/
def a11 : AFunc := ⟨.seq (.reg [
      ⟨some 2, .box (.t 0), none⟩,
      ⟨some 3, .box (.t 1), none⟩,
      ⟨some 4, .mv (.c (.bool false)), none⟩])
  (.seq (.prune [2, 3]) (.seq (.draw 0 [
      (⟨some 5, .lda 12 (.t 2), none⟩, 0, []),
      (⟨some 6, .call false 16 [(.t 5)], none⟩, 0, [0]),
      (⟨some 7, .lda 12 (.t 3), none⟩, 0, []),
      (⟨some 8, .call false 26 [(.t 6), (.t 7)], none⟩, 0, [0, 1, 2]),
      (⟨some 4, .mv (.t 8), none⟩, 0, [0, 1, 2, 3])])
  (.ret))),
  [.t 4]⟩
/-- bezel/coerce.To -/
def a12 : AFunc := ⟨.seq (.reg [
      ⟨some 2, .box (.t 0), none⟩,
      ⟨some 4, .alloc [.int .i64 0, .int .i64 0, .int .i64 0, .int .i64 0, .int .i64 0, .int .i64 0, .int .i64 0, .int .i64 0, .lst [] true, .int .i64 0, .int .i64 0, .lst [] true], none⟩])
  (.seq (.prune [1, 2, 4]) (.seq (.reg [
      ⟨some 5, .alloc [.int .i64 0, .int .i64 0, .int .i64 0, .int .i64 0, .int .i64 0, .int .i64 0, .int .i64 0, .int .i64 0, .lst [] true, .int .i64 0, .int .i64 0, .lst [] true], none⟩])
  (.seq (.prune [1, 2, 4, 5]) (.seq (.seq (.reg [
        ⟨some 7, .fa 0 (.t 2), none⟩,
        ⟨some 8, .lds (.t 7), none⟩])
    (.seq (.prune [1, 2, 4, 5, 8]) (.cond (.t 8) (.seq (.reg [
          ⟨some 9, .lda 12 (.t 5), none⟩,
          ⟨none, .sta 12 (.t 4) (.t 9), none⟩])
      (.ret))
    (.skip))))
  (.seq (.prune [1, 2, 4, 5]) (.seq (.seq (.reg [
        ⟨some 10, .mv (.c (.int .i64 0)), none⟩])
    (.seq (.prune [1, 2, 4, 5, 10]) (.block 0 (.loop [10, 1, 2, 4, 5] (.seq (.reg [
            ⟨some 11, .bin .lss (.t 10) (.c (.int .i64 6)), none⟩])
        (.seq (.prune [1, 2, 4, 5, 10, 11]) (.seq (.cond (.t 11) (.skip)
          (.exit 0))
        (.seq (.prune [1, 2, 4, 5, 10]) (.seq (.block 1 (.seq (.reg [
                ⟨some 12, .mv (.t 10), none⟩,
                ⟨some 6, .mv (.t 12), none⟩])
            (.seq (.prune [1, 2, 4, 5, 6, 10]) (.seq (.draw 0 [
                (⟨some 13, .fa 1 (.t 2), none⟩, 0, []),
                (⟨some 14, .lds (.t 13), none⟩, 0, [0]),
                (⟨some 15, .mv (.t 6), none⟩, 0, []),
                (⟨some 16, .bin .shl (.c (.int .i64 1)) (.t 15), none⟩, 0, [2]),
                (⟨some 17, .bin .and (.t 14) (.t 16), none⟩, 0, [0, 1, 2, 3]),
                (⟨some 18, .bin .eql (.t 17) (.c (.int .i64 0)), none⟩, 0, [0, 1, 2, 3, 4])])
            (.seq (.prune [1, 2, 4, 5, 6, 10, 18]) (.cond (.t 18) (.reg [
                ⟨some 19, .mv (.t 6), none⟩,
                ⟨some 20, .mv (.t 1), none⟩,
                ⟨some 21, .fa 0 (.t 5), none⟩,
                ⟨some 22, .iaa 6 1 (.t 21) (.t 19), none⟩,
                ⟨none, .sts (.t 22) (.t 20), none⟩])
            (.skip)))))))
        (.seq (.prune [1, 2, 4, 5, 10]) (.reg [
          ⟨some 23, .bin .add (.t 10) (.c (.int .i64 1)), none⟩,
          ⟨some 10, .mv (.t 23), none⟩])))))))))))
  (.seq (.prune [1, 2, 4, 5]) (.seq (.seq (.reg [
        ⟨some 24, .fa 2 (.t 2), none⟩,
        ⟨some 25, .lds (.t 24), none⟩])
    (.seq (.prune [1, 2, 4, 5, 25]) (.block 2 (.seq (.reg [
          ⟨some 38, .bin .eql (.t 25) (.c (.int .i64 0)), none⟩,
          ⟨some 37, .mv (.t 38), none⟩])
      (.seq (.prune [1, 2, 4, 5, 25, 37]) (.cond (.t 37) (.reg [
          ⟨some 39, .mv (.t 1), none⟩,
          ⟨some 40, .fa 6 (.t 5), none⟩,
          ⟨none, .sts (.t 40) (.c (.int .i64 1)), none⟩,
          ⟨some 41, .fa 7 (.t 5), none⟩,
          ⟨none, .sts (.t 41) (.t 39), none⟩])
      (.seq (.reg [
            ⟨some 43, .bin .eql (.t 25) (.c (.int .i64 1)), none⟩,
            ⟨some 42, .mv (.t 43), none⟩])
        (.seq (.prune [1, 2, 4, 5, 42]) (.cond (.t 42) (.draw 0 [
            (⟨some 44, .fa 3 (.t 2), none⟩, 0, []),
            (⟨some 45, .lds (.t 44), none⟩, 0, [0]),
            (⟨some 46, .ia 6 (.t 45) (.c (.int .i64 0)), none⟩, 0, [0, 1]),
            (⟨some 47, .lda 6 (.t 46), none⟩, 0, [0, 1, 2]),
            (⟨some 48, .mv (.t 1), none⟩, 0, []),
            (⟨some 49, .call false 12 [(.t 47), (.t 48)], none⟩, 0, [0, 1, 2, 3, 4]),
            (⟨some 50, .fa 3 (.t 2), none⟩, 0, []),
            (⟨some 51, .lds (.t 50), none⟩, 0, [6]),
            (⟨some 52, .ia 6 (.t 51) (.c (.int .i64 1)), none⟩, 0, [6, 7]),
            (⟨some 53, .lda 6 (.t 52), none⟩, 0, [6, 7, 8]),
            (⟨some 54, .mv (.t 1), none⟩, 0, []),
            (⟨some 55, .call false 12 [(.t 53), (.t 54)], none⟩, 0, [0, 1, 2, 3, 4, 5, 6, 7, 8, 9, 10]),
            (⟨some 56, .bsl 12 (.agg [.int .i64 0, .int .i64 0, .int .i64 0, .int .i64 0, .int .i64 0, .int .i64 0, .int .i64 0, .int .i64 0, .lst [] true, .int .i64 0, .int .i64 0, .lst [] true]) 2 [(0, (.t 49)), (1, (.t 55))], none⟩, 0, [0, 1, 2, 3, 4, 5, 6, 7, 8, 9, 10, 11]),
            (⟨some 57, .call false 42 [(.t 5), (.t 56)], none⟩, 0, [0, 1, 2, 3, 4, 5, 6, 7, 8, 9, 10, 11, 12])])
        (.reg [
            ⟨some 26, .mv (.t 1), none⟩,
            ⟨some 27, .fa 3 (.t 2), none⟩,
            ⟨some 28, .lds (.t 27), none⟩,
            ⟨some 29, .ia 6 (.t 28) (.c (.int .i64 0)), none⟩,
            ⟨some 30, .lda 6 (.t 29), none⟩,
            ⟨some 31, .mv (.t 1), none⟩,
            ⟨some 32, .call false 12 [(.t 30), (.t 31)], none⟩,
            ⟨some 33, .bsl 12 (.agg [.int .i64 0, .int .i64 0, .int .i64 0, .int .i64 0, .int .i64 0, .int .i64 0, .int .i64 0, .int .i64 0, .lst [] true, .int .i64 0, .int .i64 0, .lst [] true]) 1 [(0, (.t 32))], none⟩,
            ⟨some 34, .fa 6 (.t 5), none⟩,
            ⟨none, .sts (.t 34) (.c (.int .i64 3)), none⟩,
            ⟨some 35, .fa 7 (.t 5), none⟩,
            ⟨none, .sts (.t 35) (.t 26), none⟩,
            ⟨some 36, .fa 8 (.t 5), none⟩,
            ⟨none, .sts (.t 36) (.t 33), none⟩]))))))))))
  (.seq (.prune [1, 2, 4, 5]) (.seq (.seq (.reg [
        ⟨some 58, .fa 4 (.t 2), none⟩,
        ⟨some 59, .lds (.t 58), none⟩])
    (.seq (.prune [1, 2, 4, 5, 59]) (.block 3 (.seq (.reg [
          ⟨some 61, .bin .eql (.t 59) (.c (.int .i64 0)), none⟩,
          ⟨some 60, .mv (.t 61), none⟩])
      (.seq (.prune [1, 2, 4, 5, 59, 60]) (.cond (.t 60) (.reg [
          ⟨some 62, .mv (.t 1), none⟩,
          ⟨some 63, .fa 9 (.t 5), none⟩,
          ⟨none, .sts (.t 63) (.c (.int .i64 1)), none⟩,
          ⟨some 64, .fa 10 (.t 5), none⟩,
          ⟨none, .sts (.t 64) (.t 62), none⟩])
      (.seq (.reg [
            ⟨some 66, .bin .eql (.t 59) (.c (.int .i64 1)), none⟩,
            ⟨some 65, .mv (.t 66), none⟩])
        (.seq (.prune [1, 2, 4, 5, 65]) (.cond (.t 65) (.reg [
            ⟨some 67, .fa 5 (.t 2), none⟩,
            ⟨some 68, .lds (.t 67), none⟩,
            ⟨some 69, .mv (.t 1), none⟩,
            ⟨some 70, .call false 43 [(.t 5), (.t 68), (.c (.fn 14 [])), (.c (.fn 12 [])), (.t 69)], none⟩])
        (.skip))))))))))
  (.seq (.prune [4, 5]) (.seq (.reg [
      ⟨some 71, .lda 12 (.t 5), none⟩,
      ⟨none, .sta 12 (.t 4) (.t 71), none⟩])
  (.ret))))))))))))),
  [.ca 4 12]⟩
/-- bezel/bezelref07.To -/
def a13 : AFunc := ⟨.seq (.reg [
      ⟨some 2, .box (.t 0), none⟩,
      ⟨some 4, .alloc [.int .i64 0, .int .i64 0, .int .i64 0, .int .i64 0, .int .i64 0, .int .i64 0, .int .i64 0, .int .i64 0, .lst [] true, .int .i64 0, .int .i64 0, .lst [] true], none⟩])
  (.seq (.prune [1, 2, 4]) (.seq (.seq (.reg [
        ⟨some 12, .fa 0 (.t 2), none⟩,
        ⟨some 13, .lds (.t 12), none⟩])
    (.seq (.prune [1, 2, 4, 13]) (.cond (.t 13) (.seq (.reg [
          ⟨some 14, .build [.int .i64 0, .int .i64 0, .int .i64 0, .int .i64 0, .int .i64 0, .int .i64 0, .int .i64 0, .int .i64 0, .lst [] true, .int .i64 0, .int .i64 0, .lst [] true] [], none⟩,
          ⟨none, .sta 12 (.t 4) (.t 14), none⟩])
      (.ret))
    (.skip))))
  (.seq (.prune [1, 2, 4]) (.seq (.reg [
      ⟨some 15, .build [.int .i64 0, .int .i64 0, .int .i64 0, .int .i64 0, .int .i64 0, .int .i64 0, .int .i64 0, .int .i64 0, .lst [] true, .int .i64 0, .int .i64 0, .lst [] true] [], none⟩,
      ⟨some 5, .alloc [.int .i64 0, .int .i64 0, .int .i64 0, .int .i64 0, .int .i64 0, .int .i64 0, .int .i64 0, .int .i64 0, .lst [] true, .int .i64 0, .int .i64 0, .lst [] true], none⟩,
      ⟨none, .sta 12 (.t 5) (.t 15), none⟩])
  (.seq (.prune [1, 2, 4, 5]) (.seq (.reg [
      ⟨some 6, .mv (.c (.int .i64 1)), none⟩])
  (.seq (.prune [1, 2, 4, 5, 6]) (.seq (.seq (.reg [
        ⟨some 7, .mv (.c (.int .i64 0)), none⟩])
    (.seq (.prune [1, 2, 4, 5, 6, 7]) (.block 0 (.loop [6, 7, 1, 2, 4, 5] (.seq (.seq (.reg [
              ⟨some 16, .mv (.t 7), none⟩,
              ⟨some 17, .bin .lss (.t 16) (.c (.int .i64 6)), none⟩])
          (.seq (.prune [1, 2, 4, 5, 6, 7, 17]) (.cond (.t 17) (.skip)
          (.exit 0))))
        (.seq (.prune [1, 2, 4, 5, 6, 7]) (.seq (.block 1 (.seq (.seq (.reg [
                  ⟨some 20, .fa 1 (.t 2), none⟩,
                  ⟨some 21, .lds (.t 20), none⟩,
                  ⟨some 22, .mv (.t 6), none⟩,
                  ⟨some 23, .bin .quo (.t 21) (.t 22), none⟩,
                  ⟨some 24, .bin .rem (.t 23) (.c (.int .i64 2)), none⟩,
                  ⟨some 25, .bin .eql (.t 24) (.c (.int .i64 0)), none⟩])
              (.seq (.prune [1, 2, 4, 5, 6, 7, 25]) (.cond (.t 25) (.reg [
                  ⟨some 26, .mv (.t 7), none⟩,
                  ⟨some 27, .mv (.t 1), none⟩,
                  ⟨some 28, .fa 0 (.t 5), none⟩,
                  ⟨some 29, .iaa 6 1 (.t 28) (.t 26), none⟩,
                  ⟨none, .sts (.t 29) (.t 27), none⟩])
              (.skip))))
            (.seq (.prune [1, 2, 4, 5, 6, 7]) (.reg [
              ⟨some 30, .mv (.t 6), none⟩,
              ⟨some 31, .bin .mul (.c (.int .i64 2)) (.t 30), none⟩,
              ⟨some 6, .mv (.t 31), none⟩]))))
        (.seq (.prune [1, 2, 4, 5, 6, 7]) (.reg [
          ⟨some 18, .mv (.t 7), none⟩,
          ⟨some 19, .bin .add (.t 18) (.c (.int .i64 1)), none⟩,
          ⟨some 7, .mv (.t 19), none⟩])))))))))
  (.seq (.prune [1, 2, 4, 5]) (.seq (.seq (.reg [
        ⟨some 32, .fa 2 (.t 2), none⟩,
        ⟨some 33, .lds (.t 32), none⟩])
    (.seq (.prune [1, 2, 4, 5, 33]) (.block 2 (.seq (.reg [
          ⟨some 35, .bin .eql (.t 33) (.c (.int .i64 0)), none⟩,
          ⟨some 34, .mv (.t 35), none⟩])
      (.seq (.prune [1, 2, 4, 5, 33, 34]) (.cond (.t 34) (.seq (.reg [
            ⟨some 36, .fa 6 (.t 5), none⟩,
            ⟨none, .sts (.t 36) (.c (.int .i64 1)), none⟩])
        (.seq (.prune [1, 2, 4, 5]) (.reg [
          ⟨some 37, .mv (.t 1), none⟩,
          ⟨some 38, .fa 7 (.t 5), none⟩,
          ⟨none, .sts (.t 38) (.t 37), none⟩])))
      (.seq (.reg [
            ⟨some 40, .bin .eql (.t 33) (.c (.int .i64 1)), none⟩,
            ⟨some 39, .mv (.t 40), none⟩])
        (.seq (.prune [1, 2, 4, 5, 33, 39]) (.cond (.t 39) (.seq (.draw 0 [
              (⟨some 41, .fa 3 (.t 2), none⟩, 0, []),
              (⟨some 42, .lds (.t 41), none⟩, 0, [0]),
              (⟨some 43, .ia 6 (.t 42) (.c (.int .i64 0)), none⟩, 0, [0, 1]),
              (⟨some 44, .lda 6 (.t 43), none⟩, 0, [0, 1, 2]),
              (⟨some 45, .mv (.t 1), none⟩, 0, []),
              (⟨some 46, .call false 13 [(.t 44), (.t 45)], none⟩, 0, [0, 1, 2, 3, 4]),
              (⟨some 47, .fa 3 (.t 2), none⟩, 0, []),
              (⟨some 48, .lds (.t 47), none⟩, 0, [6]),
              (⟨some 49, .ia 6 (.t 48) (.c (.int .i64 1)), none⟩, 0, [6, 7]),
              (⟨some 50, .lda 6 (.t 49), none⟩, 0, [6, 7, 8]),
              (⟨some 51, .mv (.t 1), none⟩, 0, []),
              (⟨some 52, .call false 13 [(.t 50), (.t 51)], none⟩, 0, [0, 1, 2, 3, 4, 5, 6, 7, 8, 9, 10]),
              (⟨some 53, .bsl 12 (.agg [.int .i64 0, .int .i64 0, .int .i64 0, .int .i64 0, .int .i64 0, .int .i64 0, .int .i64 0, .int .i64 0, .lst [] true, .int .i64 0, .int .i64 0, .lst [] true]) 2 [(0, (.t 46)), (1, (.t 52))], none⟩, 0, [0, 1, 2, 3, 4, 5, 6, 7, 8, 9, 10, 11]),
              (⟨some 8, .mv (.t 53), none⟩, 0, [0, 1, 2, 3, 4, 5, 6, 7, 8, 9, 10, 11, 12])])
          (.seq (.prune [1, 2, 4, 5, 8]) (.seq (.reg [
              ⟨some 54, .mv (.t 8), none⟩,
              ⟨some 55, .call false 44 [(.t 54)], none⟩,
              ⟨some 56, .un .not (.t 55), none⟩])
          (.seq (.prune [1, 2, 4, 5, 8, 56]) (.cond (.t 56) (.seq (.reg [
                ⟨some 57, .fa 6 (.t 5), none⟩,
                ⟨none, .sts (.t 57) (.c (.int .i64 2)), none⟩])
            (.seq (.prune [1, 2, 4, 5, 8]) (.reg [
              ⟨some 58, .mv (.t 8), none⟩,
              ⟨some 59, .fa 8 (.t 5), none⟩,
              ⟨none, .sts (.t 59) (.t 58), none⟩])))
          (.skip))))))
        (.seq (.reg [
              ⟨some 61, .bin .eql (.t 33) (.c (.int .i64 2)), none⟩,
              ⟨some 60, .mv (.t 61), none⟩])
          (.seq (.prune [1, 2, 4, 5, 60]) (.cond (.t 60) (.seq (.reg [
                ⟨some 62, .fa 6 (.t 5), none⟩,
                ⟨none, .sts (.t 62) (.c (.int .i64 3)), none⟩])
            (.seq (.prune [1, 2, 4, 5]) (.seq (.reg [
                ⟨some 63, .mv (.t 1), none⟩,
                ⟨some 64, .fa 7 (.t 5), none⟩,
                ⟨none, .sts (.t 64) (.t 63), none⟩])
            (.seq (.prune [1, 2, 4, 5]) (.reg [
              ⟨some 65, .fa 3 (.t 2), none⟩,
              ⟨some 66, .lds (.t 65), none⟩,
              ⟨some 67, .ia 6 (.t 66) (.c (.int .i64 0)), none⟩,
              ⟨some 68, .lda 6 (.t 67), none⟩,
              ⟨some 69, .mv (.t 1), none⟩,
              ⟨some 70, .call false 13 [(.t 68), (.t 69)], none⟩,
              ⟨some 71, .bsl 12 (.agg [.int .i64 0, .int .i64 0, .int .i64 0, .int .i64 0, .int .i64 0, .int .i64 0, .int .i64 0, .int .i64 0, .lst [] true, .int .i64 0, .int .i64 0, .lst [] true]) 1 [(0, (.t 70))], none⟩,
              ⟨some 72, .fa 8 (.t 5), none⟩,
              ⟨none, .sts (.t 72) (.t 71), none⟩])))))
          (.skip)))))))))))))
  (.seq (.prune [1, 2, 4, 5]) (.seq (.seq (.reg [
        ⟨some 73, .fa 4 (.t 2), none⟩,
        ⟨some 74, .lds (.t 73), none⟩,
        ⟨some 75, .bin .eql (.t 74) (.c (.int .i64 0)), none⟩])
    (.seq (.prune [1, 2, 4, 5, 75]) (.cond (.t 75) (.seq (.reg [
          ⟨some 76, .fa 9 (.t 5), none⟩,
          ⟨none, .sts (.t 76) (.c (.int .i64 1)), none⟩])
      (.seq (.prune [1, 2, 4, 5]) (.reg [
        ⟨some 77, .mv (.t 1), none⟩,
        ⟨some 78, .fa 10 (.t 5), none⟩,
        ⟨none, .sts (.t 78) (.t 77), none⟩])))
    (.skip))))
  (.seq (.prune [1, 2, 4, 5]) (.seq (.seq (.reg [
        ⟨some 79, .fa 4 (.t 2), none⟩,
        ⟨some 80, .lds (.t 79), none⟩,
        ⟨some 81, .bin .eql (.t 80) (.c (.int .i64 1)), none⟩])
    (.seq (.prune [1, 2, 4, 5, 81]) (.cond (.t 81) (.seq (.reg [
          ⟨some 9, .mv (.c (.lst [] true)), none⟩])
      (.seq (.prune [1, 2, 4, 5, 9]) (.seq (.reg [
          ⟨some 82, .fa 5 (.t 2), none⟩,
          ⟨some 83, .lds (.t 82), none⟩,
          ⟨some 84, .len .slice (.t 83), none⟩,
          ⟨some 85, .bin .sub (.t 84) (.c (.int .i64 1)), none⟩,
          ⟨some 10, .mv (.t 85), none⟩])
      (.seq (.prune [1, 2, 4, 5, 9, 10]) (.seq (.seq (.reg [
            ⟨some 11, .mv (.c (.int .i64 0)), none⟩])
        (.seq (.prune [1, 2, 4, 5, 9, 10, 11]) (.block 3 (.seq (.own 9 none)
          (.loop [9, 11, 1, 2, 4, 5, 10] (.seq (.seq (.reg [
                  ⟨some 86, .mv (.t 11), none⟩,
                  ⟨some 87, .mv (.t 10), none⟩,
                  ⟨some 88, .bin .lss (.t 86) (.t 87), none⟩])
              (.seq (.prune [1, 2, 4, 5, 9, 10, 11, 88]) (.cond (.t 88) (.skip)
              (.exit 3))))
            (.seq (.prune [1, 2, 4, 5, 9, 10, 11]) (.seq (.block 4 (.reg [
                  ⟨some 91, .mv (.t 9), none⟩,
                  ⟨some 92, .fa 5 (.t 2), none⟩,
                  ⟨some 93, .lds (.t 92), none⟩,
                  ⟨some 94, .mv (.t 11), none⟩,
                  ⟨some 95, .ia 6 (.t 93) (.t 94), none⟩,
                  ⟨some 96, .lda 6 (.t 95), none⟩,
                  ⟨some 97, .mv (.t 1), none⟩,
                  ⟨some 98, .call false 15 [(.t 96), (.t 97)], none⟩,
                  ⟨some 99, .bsl 12 (.agg [.int .i64 0, .int .i64 0, .int .i64 0, .int .i64 0, .int .i64 0, .int .i64 0, .int .i64 0, .int .i64 0, .lst [] true, .int .i64 0, .int .i64 0, .lst [] true]) 1 [(0, (.t 98))], none⟩,
                  ⟨some 100, .app 12 128 false (.t 91) (.t 99), none⟩,
                  ⟨some 9, .mv (.t 100), none⟩]))
            (.seq (.prune [1, 2, 4, 5, 9, 10, 11]) (.reg [
              ⟨some 89, .mv (.t 11), none⟩,
              ⟨some 90, .bin .add (.t 89) (.c (.int .i64 1)), none⟩,
              ⟨some 11, .mv (.t 90), none⟩]))))))))))
      (.seq (.prune [1, 2, 4, 5, 9, 10]) (.seq (.reg [
          ⟨some 101, .mv (.t 9), none⟩,
          ⟨some 102, .fa 5 (.t 2), none⟩,
          ⟨some 103, .lds (.t 102), none⟩,
          ⟨some 104, .mv (.t 10), none⟩,
          ⟨some 105, .ia 6 (.t 103) (.t 104), none⟩,
          ⟨some 106, .lda 6 (.t 105), none⟩,
          ⟨some 107, .mv (.t 1), none⟩,
          ⟨some 108, .call false 13 [(.t 106), (.t 107)], none⟩,
          ⟨some 109, .bsl 12 (.agg [.int .i64 0, .int .i64 0, .int .i64 0, .int .i64 0, .int .i64 0, .int .i64 0, .int .i64 0, .int .i64 0, .lst [] true, .int .i64 0, .int .i64 0, .lst [] true]) 1 [(0, (.t 108))], none⟩,
          ⟨some 110, .app 12 128 false (.t 101) (.t 109), none⟩,
          ⟨some 9, .mv (.t 110), none⟩])
      (.seq (.prune [4, 5, 9]) (.seq (.reg [
          ⟨some 111, .mv (.t 9), none⟩,
          ⟨some 112, .call false 44 [(.t 111)], none⟩,
          ⟨some 113, .un .not (.t 112), none⟩])
      (.seq (.prune [4, 5, 9, 113]) (.cond (.t 113) (.seq (.reg [
            ⟨some 114, .fa 9 (.t 5), none⟩,
            ⟨none, .sts (.t 114) (.c (.int .i64 2)), none⟩])
        (.seq (.prune [4, 5, 9]) (.reg [
          ⟨some 115, .mv (.t 9), none⟩,
          ⟨some 116, .fa 11 (.t 5), none⟩,
          ⟨none, .sts (.t 116) (.t 115), none⟩])))
      (.skip))))))))))))
    (.skip))))
  (.seq (.prune [4, 5]) (.seq (.reg [
      ⟨some 117, .lda 12 (.t 5), none⟩,
      ⟨none, .sta 12 (.t 4) (.t 117), none⟩])
  (.ret))))))))))))))))),
  [.ca 4 12]⟩
/-- bezel/coerce.From -/
def a14 : AFunc := ⟨.seq (.reg [
      ⟨some 2, .box (.t 0), none⟩,
      ⟨some 4, .alloc [.int .i64 0, .int .i64 0, .int .i64 0, .int .i64 0, .int .i64 0, .int .i64 0, .int .i64 0, .int .i64 0, .lst [] true, .int .i64 0, .int .i64 0, .lst [] true], none⟩])
  (.seq (.prune [1, 2, 4]) (.seq (.reg [
      ⟨some 5, .alloc [.int .i64 0, .int .i64 0, .int .i64 0, .int .i64 0, .int .i64 0, .int .i64 0, .int .i64 0, .int .i64 0, .lst [] true, .int .i64 0, .int .i64 0, .lst [] true], none⟩])
  (.seq (.prune [1, 2, 4, 5]) (.seq (.seq (.reg [
        ⟨some 7, .fa 2 (.t 2), none⟩,
        ⟨some 8, .lds (.t 7), none⟩])
    (.seq (.prune [1, 2, 4, 5, 8]) (.block 0 (.seq (.reg [
          ⟨some 10, .bin .eql (.t 8) (.c (.int .i64 1)), none⟩,
          ⟨some 9, .mv (.t 10), none⟩])
      (.seq (.prune [1, 2, 4, 5, 8, 9]) (.cond (.t 9) (.draw 0 [
          (⟨some 11, .fa 3 (.t 2), none⟩, 0, []),
          (⟨some 12, .lds (.t 11), none⟩, 0, [0]),
          (⟨some 13, .ia 6 (.t 12) (.c (.int .i64 0)), none⟩, 0, [0, 1]),
          (⟨some 14, .lda 6 (.t 13), none⟩, 0, [0, 1, 2]),
          (⟨some 15, .mv (.t 1), none⟩, 0, []),
          (⟨some 16, .call false 14 [(.t 14), (.t 15)], none⟩, 0, [0, 1, 2, 3, 4]),
          (⟨some 17, .fa 3 (.t 2), none⟩, 0, []),
          (⟨some 18, .lds (.t 17), none⟩, 0, [6]),
          (⟨some 19, .ia 6 (.t 18) (.c (.int .i64 1)), none⟩, 0, [6, 7]),
          (⟨some 20, .lda 6 (.t 19), none⟩, 0, [6, 7, 8]),
          (⟨some 21, .mv (.t 1), none⟩, 0, []),
          (⟨some 22, .call false 14 [(.t 20), (.t 21)], none⟩, 0, [0, 1, 2, 3, 4, 5, 6, 7, 8, 9, 10]),
          (⟨some 23, .bsl 12 (.agg [.int .i64 0, .int .i64 0, .int .i64 0, .int .i64 0, .int .i64 0, .int .i64 0, .int .i64 0, .int .i64 0, .lst [] true, .int .i64 0, .int .i64 0, .lst [] true]) 2 [(0, (.t 16)), (1, (.t 22))], none⟩, 0, [0, 1, 2, 3, 4, 5, 6, 7, 8, 9, 10, 11]),
          (⟨some 24, .call false 42 [(.t 5), (.t 23)], none⟩, 0, [0, 1, 2, 3, 4, 5, 6, 7, 8, 9, 10, 11, 12])])
      (.seq (.reg [
            ⟨some 26, .bin .eql (.t 8) (.c (.int .i64 2)), none⟩,
            ⟨some 25, .mv (.t 26), none⟩])
        (.seq (.prune [1, 2, 4, 5, 25]) (.cond (.t 25) (.seq (.reg [
              ⟨some 27, .fa 3 (.t 2), none⟩,
              ⟨some 28, .lds (.t 27), none⟩,
              ⟨some 29, .ia 6 (.t 28) (.c (.int .i64 0)), none⟩,
              ⟨some 30, .lda 6 (.t 29), none⟩,
              ⟨some 31, .mv (.t 1), none⟩,
              ⟨some 32, .call false 14 [(.t 30), (.t 31)], none⟩,
              ⟨some 6, .alloc [.int .i64 0, .int .i64 0, .int .i64 0, .int .i64 0, .int .i64 0, .int .i64 0, .int .i64 0, .int .i64 0, .lst [] true, .int .i64 0, .int .i64 0, .lst [] true], none⟩,
              ⟨none, .sta 12 (.t 6) (.t 32), none⟩])
          (.seq (.prune [1, 2, 4, 5, 6]) (.seq (.reg [
              ⟨some 33, .lda 12 (.t 6), none⟩,
              ⟨some 34, .call false 45 [(.t 33)], none⟩])
          (.seq (.prune [1, 2, 4, 5, 6, 34]) (.cond (.t 34) (.draw 0 [
              (⟨some 35, .lda 12 (.t 6), none⟩, 0, []),
              (⟨some 36, .bsl 12 (.agg [.int .i64 0, .int .i64 0, .int .i64 0, .int .i64 0, .int .i64 0, .int .i64 0, .int .i64 0, .int .i64 0, .lst [] true, .int .i64 0, .int .i64 0, .lst [] true]) 1 [(0, (.t 35))], none⟩, 0, [0]),
              (⟨some 37, .fa 6 (.t 5), none⟩, 0, []),
              (⟨none, .sts (.t 37) (.c (.int .i64 3)), none⟩, 0, [2]),
              (⟨some 38, .fa 8 (.t 5), none⟩, 0, [0, 1, 2, 3]),
              (⟨none, .sts (.t 38) (.t 36), none⟩, 0, [0, 1, 2, 3, 4])])
          (.skip))))))
        (.skip))))))))))
  (.seq (.prune [1, 2, 4, 5]) (.seq (.seq (.reg [
        ⟨some 39, .fa 4 (.t 2), none⟩,
        ⟨some 40, .lds (.t 39), none⟩,
        ⟨some 41, .bin .eql (.t 40) (.c (.int .i64 1)), none⟩])
    (.seq (.prune [1, 2, 4, 5, 41]) (.cond (.t 41) (.reg [
        ⟨some 42, .fa 5 (.t 2), none⟩,
        ⟨some 43, .lds (.t 42), none⟩,
        ⟨some 44, .mv (.t 1), none⟩,
        ⟨some 45, .call false 43 [(.t 5), (.t 43), (.c (.fn 12 [])), (.c (.fn 14 [])), (.t 44)], none⟩])
    (.skip))))
  (.seq (.prune [4, 5]) (.seq (.reg [
      ⟨some 46, .lda 12 (.t 5), none⟩,
      ⟨none, .sta 12 (.t 4) (.t 46), none⟩])
  (.ret))))))))),
  [.ca 4 12]⟩
/-- bezel/bezelref07.From -/
def a15 : AFunc := ⟨.seq (.reg [
      ⟨some 2, .box (.t 0), none⟩,
      ⟨some 4, .alloc [.int .i64 0, .int .i64 0, .int .i64 0, .int .i64 0, .int .i64 0, .int .i64 0, .int .i64 0, .int .i64 0, .lst [] true, .int .i64 0, .int .i64 0, .lst [] true], none⟩])
  (.seq (.prune [1, 2, 4]) (.seq (.reg [
      ⟨some 11, .build [.int .i64 0, .int .i64 0, .int .i64 0, .int .i64 0, .int .i64 0, .int .i64 0, .int .i64 0, .int .i64 0, .lst [] true, .int .i64 0, .int .i64 0, .lst [] true] [], none⟩,
      ⟨some 5, .alloc [.int .i64 0, .int .i64 0, .int .i64 0, .int .i64 0, .int .i64 0, .int .i64 0, .int .i64 0, .int .i64 0, .lst [] true, .int .i64 0, .int .i64 0, .lst [] true], none⟩,
      ⟨none, .sta 12 (.t 5) (.t 11), none⟩])
  (.seq (.prune [1, 2, 4, 5]) (.seq (.seq (.reg [
        ⟨some 12, .fa 2 (.t 2), none⟩,
        ⟨some 13, .lds (.t 12), none⟩,
        ⟨some 14, .bin .eql (.t 13) (.c (.int .i64 1)), none⟩])
    (.seq (.prune [1, 2, 4, 5, 14]) (.cond (.t 14) (.seq (.draw 0 [
          (⟨some 15, .fa 3 (.t 2), none⟩, 0, []),
          (⟨some 16, .lds (.t 15), none⟩, 0, [0]),
          (⟨some 17, .ia 6 (.t 16) (.c (.int .i64 0)), none⟩, 0, [0, 1]),
          (⟨some 18, .lda 6 (.t 17), none⟩, 0, [0, 1, 2]),
          (⟨some 19, .mv (.t 1), none⟩, 0, []),
          (⟨some 20, .call false 15 [(.t 18), (.t 19)], none⟩, 0, [0, 1, 2, 3, 4]),
          (⟨some 21, .fa 3 (.t 2), none⟩, 0, []),
          (⟨some 22, .lds (.t 21), none⟩, 0, [6]),
          (⟨some 23, .ia 6 (.t 22) (.c (.int .i64 1)), none⟩, 0, [6, 7]),
          (⟨some 24, .lda 6 (.t 23), none⟩, 0, [6, 7, 8]),
          (⟨some 25, .mv (.t 1), none⟩, 0, []),
          (⟨some 26, .call false 15 [(.t 24), (.t 25)], none⟩, 0, [0, 1, 2, 3, 4, 5, 6, 7, 8, 9, 10]),
          (⟨some 27, .bsl 12 (.agg [.int .i64 0, .int .i64 0, .int .i64 0, .int .i64 0, .int .i64 0, .int .i64 0, .int .i64 0, .int .i64 0, .lst [] true, .int .i64 0, .int .i64 0, .lst [] true]) 2 [(0, (.t 20)), (1, (.t 26))], none⟩, 0, [0, 1, 2, 3, 4, 5, 6, 7, 8, 9, 10, 11]),
          (⟨some 6, .mv (.t 27), none⟩, 0, [0, 1, 2, 3, 4, 5, 6, 7, 8, 9, 10, 11, 12])])
      (.seq (.prune [1, 2, 4, 5, 6]) (.seq (.reg [
          ⟨some 28, .mv (.t 6), none⟩,
          ⟨some 29, .call false 44 [(.t 28)], none⟩,
          ⟨some 30, .un .not (.t 29), none⟩])
      (.seq (.prune [1, 2, 4, 5, 6, 30]) (.cond (.t 30) (.seq (.reg [
            ⟨some 31, .fa 6 (.t 5), none⟩,
            ⟨none, .sts (.t 31) (.c (.int .i64 2)), none⟩])
        (.seq (.prune [1, 2, 4, 5, 6]) (.reg [
          ⟨some 32, .mv (.t 6), none⟩,
          ⟨some 33, .fa 8 (.t 5), none⟩,
          ⟨none, .sts (.t 33) (.t 32), none⟩])))
      (.skip))))))
    (.skip))))
  (.seq (.prune [1, 2, 4, 5]) (.seq (.seq (.reg [
        ⟨some 34, .fa 2 (.t 2), none⟩,
        ⟨some 35, .lds (.t 34), none⟩,
        ⟨some 36, .bin .eql (.t 35) (.c (.int .i64 2)), none⟩])
    (.seq (.prune [1, 2, 4, 5, 36]) (.cond (.t 36) (.seq (.reg [
          ⟨some 37, .fa 3 (.t 2), none⟩,
          ⟨some 38, .lds (.t 37), none⟩,
          ⟨some 39, .ia 6 (.t 38) (.c (.int .i64 0)), none⟩,
          ⟨some 40, .lda 6 (.t 39), none⟩,
          ⟨some 41, .mv (.t 1), none⟩,
          ⟨some 42, .call false 15 [(.t 40), (.t 41)], none⟩,
          ⟨some 7, .alloc [.int .i64 0, .int .i64 0, .int .i64 0, .int .i64 0, .int .i64 0, .int .i64 0, .int .i64 0, .int .i64 0, .lst [] true, .int .i64 0, .int .i64 0, .lst [] true], none⟩,
          ⟨none, .sta 12 (.t 7) (.t 42), none⟩])
      (.seq (.prune [1, 2, 4, 5, 7]) (.seq (.reg [
          ⟨some 43, .lda 12 (.t 7), none⟩,
          ⟨some 44, .call false 28 [(.t 43)], none⟩,
          ⟨some 45, .un .not (.t 44), none⟩])
      (.seq (.prune [1, 2, 4, 5, 7, 45]) (.cond (.t 45) (.seq (.reg [
            ⟨some 46, .fa 6 (.t 5), none⟩,
            ⟨none, .sts (.t 46) (.c (.int .i64 3)), none⟩])
        (.seq (.prune [1, 2, 4, 5, 7]) (.reg [
          ⟨some 47, .lda 12 (.t 7), none⟩,
          ⟨some 48, .bsl 12 (.agg [.int .i64 0, .int .i64 0, .int .i64 0, .int .i64 0, .int .i64 0, .int .i64 0, .int .i64 0, .int .i64 0, .lst [] true, .int .i64 0, .int .i64 0, .lst [] true]) 1 [(0, (.t 47))], none⟩,
          ⟨some 49, .fa 8 (.t 5), none⟩,
          ⟨none, .sts (.t 49) (.t 48), none⟩])))
      (.skip))))))
    (.skip))))
  (.seq (.prune [1, 2, 4, 5]) (.seq (.seq (.reg [
        ⟨some 50, .fa 4 (.t 2), none⟩,
        ⟨some 51, .lds (.t 50), none⟩,
        ⟨some 52, .bin .eql (.t 51) (.c (.int .i64 1)), none⟩])
    (.seq (.prune [1, 2, 4, 5, 52]) (.cond (.t 52) (.seq (.reg [
          ⟨some 8, .mv (.c (.lst [] true)), none⟩])
      (.seq (.prune [1, 2, 4, 5, 8]) (.seq (.reg [
          ⟨some 53, .fa 5 (.t 2), none⟩,
          ⟨some 54, .lds (.t 53), none⟩,
          ⟨some 55, .len .slice (.t 54), none⟩,
          ⟨some 56, .bin .sub (.t 55) (.c (.int .i64 1)), none⟩,
          ⟨some 9, .mv (.t 56), none⟩])
      (.seq (.prune [1, 2, 4, 5, 8, 9]) (.seq (.seq (.reg [
            ⟨some 10, .mv (.c (.int .i64 0)), none⟩])
        (.seq (.prune [1, 2, 4, 5, 8, 9, 10]) (.block 0 (.seq (.own 8 none)
          (.loop [8, 10, 1, 2, 4, 5, 9] (.seq (.seq (.reg [
                  ⟨some 57, .mv (.t 10), none⟩,
                  ⟨some 58, .mv (.t 9), none⟩,
                  ⟨some 59, .bin .lss (.t 57) (.t 58), none⟩])
              (.seq (.prune [1, 2, 4, 5, 8, 9, 10, 59]) (.cond (.t 59) (.skip)
              (.exit 0))))
            (.seq (.prune [1, 2, 4, 5, 8, 9, 10]) (.seq (.block 1 (.reg [
                  ⟨some 62, .mv (.t 8), none⟩,
                  ⟨some 63, .fa 5 (.t 2), none⟩,
                  ⟨some 64, .lds (.t 63), none⟩,
                  ⟨some 65, .mv (.t 10), none⟩,
                  ⟨some 66, .ia 6 (.t 64) (.t 65), none⟩,
                  ⟨some 67, .lda 6 (.t 66), none⟩,
                  ⟨some 68, .mv (.t 1), none⟩,
                  ⟨some 69, .call false 13 [(.t 67), (.t 68)], none⟩,
                  ⟨some 70, .bsl 12 (.agg [.int .i64 0, .int .i64 0, .int .i64 0, .int .i64 0, .int .i64 0, .int .i64 0, .int .i64 0, .int .i64 0, .lst [] true, .int .i64 0, .int .i64 0, .lst [] true]) 1 [(0, (.t 69))], none⟩,
                  ⟨some 71, .app 12 128 false (.t 62) (.t 70), none⟩,
                  ⟨some 8, .mv (.t 71), none⟩]))
            (.seq (.prune [1, 2, 4, 5, 8, 9, 10]) (.reg [
              ⟨some 60, .mv (.t 10), none⟩,
              ⟨some 61, .bin .add (.t 60) (.c (.int .i64 1)), none⟩,
              ⟨some 10, .mv (.t 61), none⟩]))))))))))
      (.seq (.prune [1, 2, 4, 5, 8, 9]) (.seq (.reg [
          ⟨some 72, .mv (.t 8), none⟩,
          ⟨some 73, .fa 5 (.t 2), none⟩,
          ⟨some 74, .lds (.t 73), none⟩,
          ⟨some 75, .mv (.t 9), none⟩,
          ⟨some 76, .ia 6 (.t 74) (.t 75), none⟩,
          ⟨some 77, .lda 6 (.t 76), none⟩,
          ⟨some 78, .mv (.t 1), none⟩,
          ⟨some 79, .call false 15 [(.t 77), (.t 78)], none⟩,
          ⟨some 80, .bsl 12 (.agg [.int .i64 0, .int .i64 0, .int .i64 0, .int .i64 0, .int .i64 0, .int .i64 0, .int .i64 0, .int .i64 0, .lst [] true, .int .i64 0, .int .i64 0, .lst [] true]) 1 [(0, (.t 79))], none⟩,
          ⟨some 81, .app 12 128 false (.t 72) (.t 80), none⟩,
          ⟨some 8, .mv (.t 81), none⟩])
      (.seq (.prune [4, 5, 8]) (.seq (.reg [
          ⟨some 82, .mv (.t 8), none⟩,
          ⟨some 83, .call false 44 [(.t 82)], none⟩,
          ⟨some 84, .un .not (.t 83), none⟩])
      (.seq (.prune [4, 5, 8, 84]) (.cond (.t 84) (.seq (.reg [
            ⟨some 85, .fa 9 (.t 5), none⟩,
            ⟨none, .sts (.t 85) (.c (.int .i64 2)), none⟩])
        (.seq (.prune [4, 5, 8]) (.reg [
          ⟨some 86, .mv (.t 8), none⟩,
          ⟨some 87, .fa 11 (.t 5), none⟩,
          ⟨none, .sts (.t 87) (.t 86), none⟩])))
      (.skip))))))))))))
    (.skip))))
  (.seq (.prune [4, 5]) (.seq (.reg [
      ⟨some 88, .lda 12 (.t 5), none⟩,
      ⟨none, .sta 12 (.t 4) (.t 88), none⟩])
  (.ret))))))))))),
  [.ca 4 12]⟩
/-- bezel/bezellaw07.to -/
def a16 : AFunc := ⟨.seq (.reg [
      ⟨some 1, .box (.t 0), none⟩,
      ⟨some 2, .alloc [.int .i64 0, .int .i64 0, .int .i64 0, .int .i64 0, .int .i64 0, .int .i64 0, .int .i64 0, .int .i64 0, .lst [] true, .int .i64 0, .int .i64 0, .lst [] true], none⟩])
  (.seq (.prune [1, 2]) (.seq (.reg [
      ⟨some 6, .fa 0 (.t 1), none⟩,
      ⟨some 7, .lda 6 (.t 6), none⟩,
      ⟨some 8, .fa 6 (.t 1), none⟩,
      ⟨some 9, .lds (.t 8), none⟩,
      ⟨some 10, .fa 7 (.t 1), none⟩,
      ⟨some 11, .lds (.t 10), none⟩,
      ⟨some 12, .fa 9 (.t 1), none⟩,
      ⟨some 13, .lds (.t 12), none⟩,
      ⟨some 14, .fa 10 (.t 1), none⟩,
      ⟨some 15, .lds (.t 14), none⟩,
      ⟨some 16, .build [.int .i64 0, .int .i64 0, .int .i64 0, .int .i64 0, .int .i64 0, .int .i64 0, .int .i64 0, .int .i64 0, .lst [] true, .int .i64 0, .int .i64 0, .lst [] true] [(0, 6, (.t 7)), (6, 1, (.t 9)), (7, 1, (.t 11)), (9, 1, (.t 13)), (10, 1, (.t 15))], none⟩,
      ⟨some 3, .alloc [.int .i64 0, .int .i64 0, .int .i64 0, .int .i64 0, .int .i64 0, .int .i64 0, .int .i64 0, .int .i64 0, .lst [] true, .int .i64 0, .int .i64 0, .lst [] true], none⟩,
      ⟨none, .sta 12 (.t 3) (.t 16), none⟩])
  (.seq (.prune [1, 2, 3]) (.seq (.seq (.reg [
        ⟨some 4, .mv (.c (.int .i64 0)), none⟩])
    (.seq (.prune [1, 2, 3, 4]) (.block 0 (.seq (.own 3 (some 8))
      (.loop [4, 1, 2, 3] (.seq (.seq (.reg [
              ⟨some 17, .mv (.t 4), none⟩,
              ⟨some 18, .fa 8 (.t 1), none⟩,
              ⟨some 19, .lds (.t 18), none⟩,
              ⟨some 20, .len .slice (.t 19), none⟩,
              ⟨some 21, .bin .lss (.t 17) (.t 20), none⟩])
          (.seq (.prune [1, 2, 3, 4, 21]) (.cond (.t 21) (.skip)
          (.exit 0))))
        (.seq (.prune [1, 2, 3, 4]) (.seq (.block 1 (.draw 1 [
              (⟨some 24, .fa 8 (.t 3), none⟩, 0, []),
              (⟨some 25, .lds (.t 24), none⟩, 0, [0]),
              (⟨some 26, .fa 8 (.t 1), none⟩, 0, []),
              (⟨some 27, .lds (.t 26), none⟩, 0, [2]),
              (⟨some 28, .mv (.t 4), none⟩, 0, []),
              (⟨some 29, .ia 12 (.t 27) (.t 28), none⟩, 0, [2, 3, 4]),
              (⟨some 30, .lda 12 (.t 29), none⟩, 0, [2, 3, 4, 5]),
              (⟨some 31, .call false 16 [(.t 30)], none⟩, 0, [2, 3, 4, 5, 6]),
              (⟨some 32, .bsl 12 (.agg [.int .i64 0, .int .i64 0, .int .i64 0, .int .i64 0, .int .i64 0, .int .i64 0, .int .i64 0, .int .i64 0, .lst [] true, .int .i64 0, .int .i64 0, .lst [] true]) 1 [(0, (.t 31))], none⟩, 0, [2, 3, 4, 5, 6, 7]),
              (⟨some 33, .app 12 128 false (.t 25) (.t 32), none⟩, 0, [0, 1, 2, 3, 4, 5, 6, 7, 8]),
              (⟨some 34, .fa 8 (.t 3), none⟩, 0, [0, 1, 2, 3, 4, 5, 6, 7, 8, 9]),
              (⟨none, .sts (.t 34) (.t 33), none⟩, 0, [0, 1, 2, 3, 4, 5, 6, 7, 8, 9, 10])]))
        (.seq (.prune [1, 2, 3, 4]) (.reg [
          ⟨some 22, .mv (.t 4), none⟩,
          ⟨some 23, .bin .add (.t 22) (.c (.int .i64 1)), none⟩,
          ⟨some 4, .mv (.t 23), none⟩]))))))))))
  (.seq (.prune [1, 2, 3]) (.seq (.seq (.reg [
        ⟨some 5, .mv (.c (.int .i64 0)), none⟩])
    (.seq (.prune [1, 2, 3, 5]) (.block 2 (.seq (.own 3 (some 11))
      (.loop [5, 1, 2, 3] (.seq (.seq (.reg [
              ⟨some 35, .mv (.t 5), none⟩,
              ⟨some 36, .fa 11 (.t 1), none⟩,
              ⟨some 37, .lds (.t 36), none⟩,
              ⟨some 38, .len .slice (.t 37), none⟩,
              ⟨some 39, .bin .lss (.t 35) (.t 38), none⟩])
          (.seq (.prune [1, 2, 3, 5, 39]) (.cond (.t 39) (.skip)
          (.exit 2))))
        (.seq (.prune [1, 2, 3, 5]) (.seq (.block 3 (.draw 1 [
              (⟨some 42, .fa 11 (.t 3), none⟩, 0, []),
              (⟨some 43, .lds (.t 42), none⟩, 0, [0]),
              (⟨some 44, .fa 11 (.t 1), none⟩, 0, []),
              (⟨some 45, .lds (.t 44), none⟩, 0, [2]),
              (⟨some 46, .mv (.t 5), none⟩, 0, []),
              (⟨some 47, .ia 12 (.t 45) (.t 46), none⟩, 0, [2, 3, 4]),
              (⟨some 48, .lda 12 (.t 47), none⟩, 0, [2, 3, 4, 5]),
              (⟨some 49, .call false 16 [(.t 48)], none⟩, 0, [2, 3, 4, 5, 6]),
              (⟨some 50, .bsl 12 (.agg [.int .i64 0, .int .i64 0, .int .i64 0, .int .i64 0, .int .i64 0, .int .i64 0, .int .i64 0, .int .i64 0, .lst [] true, .int .i64 0, .int .i64 0, .lst [] true]) 1 [(0, (.t 49))], none⟩, 0, [2, 3, 4, 5, 6, 7]),
              (⟨some 51, .app 12 128 false (.t 43) (.t 50), none⟩, 0, [0, 1, 2, 3, 4, 5, 6, 7, 8]),
              (⟨some 52, .fa 11 (.t 3), none⟩, 0, [0, 1, 2, 3, 4, 5, 6, 7, 8, 9]),
              (⟨none, .sts (.t 52) (.t 51), none⟩, 0, [0, 1, 2, 3, 4, 5, 6, 7, 8, 9, 10])]))
        (.seq (.prune [1, 2, 3, 5]) (.reg [
          ⟨some 40, .mv (.t 5), none⟩,
          ⟨some 41, .bin .add (.t 40) (.c (.int .i64 1)), none⟩,
          ⟨some 5, .mv (.t 41), none⟩]))))))))))
  (.seq (.prune [2, 3]) (.seq (.reg [
      ⟨some 53, .lda 12 (.t 3), none⟩,
      ⟨none, .sta 12 (.t 2) (.t 53), none⟩])
  (.ret))))))))),
  [.ca 2 12]⟩
/-- bezel/bezelref07.Right -/
def a17 : AFunc := ⟨.seq (.reg [
      ⟨some 1, .box (.t 0), none⟩,
      ⟨some 2, .mv (.c (.bool false)), none⟩])
  (.seq (.prune [1]) (.seq (.reg [
      ⟨some 3, .lda 12 (.t 1), none⟩,
      ⟨some 4, .call false 46 [(.t 3), (.c (.int .i64 25))], none⟩,
      ⟨some 2, .mv (.t 4), none⟩])
  (.ret))),
  [.t 2]⟩
/-- bezel/coerce.Compose -/
def a18 : AFunc := ⟨.seq (.reg [
      ⟨some 2, .box (.t 0), none⟩,
      ⟨some 3, .box (.t 1), none⟩,
      ⟨some 4, .alloc [.int .i64 0, .int .i64 0, .int .i64 0, .int .i64 0, .int .i64 0, .int .i64 0, .int .i64 0, .int .i64 0, .lst [] true, .int .i64 0, .int .i64 0, .lst [] true], none⟩])
  (.seq (.prune [2, 3, 4]) (.seq (.reg [
      ⟨some 10, .lda 12 (.t 2), none⟩,
      ⟨some 5, .alloc [.int .i64 0, .int .i64 0, .int .i64 0, .int .i64 0, .int .i64 0, .int .i64 0, .int .i64 0, .int .i64 0, .lst [] true, .int .i64 0, .int .i64 0, .lst [] true], none⟩,
      ⟨none, .sta 12 (.t 5) (.t 10), none⟩])
  (.seq (.prune [2, 3, 4, 5]) (.seq (.seq (.reg [
        ⟨some 11, .mv (.c (.int .i64 0)), none⟩])
    (.seq (.prune [2, 3, 4, 5, 11]) (.block 0 (.loop [11, 2, 3, 4, 5] (.seq (.reg [
            ⟨some 12, .bin .lss (.t 11) (.c (.int .i64 6)), none⟩])
        (.seq (.prune [2, 3, 4, 5, 11, 12]) (.seq (.cond (.t 12) (.skip)
          (.exit 0))
        (.seq (.prune [2, 3, 4, 5, 11]) (.seq (.block 1 (.seq (.reg [
                ⟨some 13, .mv (.t 11), none⟩,
                ⟨some 6, .mv (.t 13), none⟩])
            (.seq (.prune [2, 3, 4, 5, 6, 11]) (.draw 0 [
              (⟨some 14, .mv (.t 6), none⟩, 0, []),
              (⟨some 15, .mv (.t 6), none⟩, 0, []),
              (⟨some 16, .fa 0 (.t 2), none⟩, 0, []),
              (⟨some 17, .iaa 6 1 (.t 16) (.t 15), none⟩, 0, [1, 2]),
              (⟨some 18, .lds (.t 17), none⟩, 0, [1, 2, 3]),
              (⟨some 19, .mv (.t 6), none⟩, 0, []),
              (⟨some 20, .fa 0 (.t 3), none⟩, 0, []),
              (⟨some 21, .iaa 6 1 (.t 20) (.t 19), none⟩, 0, [5, 6]),
              (⟨some 22, .lds (.t 21), none⟩, 0, [5, 6, 7]),
              (⟨some 23, .bsl 1 (.int .i64 0) 2 [(0, (.t 18)), (1, (.t 22))], none⟩, 0, [1, 2, 3, 4, 5, 6, 7, 8]),
              (⟨some 24, .call false 47 [(.t 23)], none⟩, 0, [1, 2, 3, 4, 5, 6, 7, 8, 9]),
              (⟨some 25, .fa 0 (.t 5), none⟩, 0, []),
              (⟨some 26, .iaa 6 1 (.t 25) (.t 14), none⟩, 0, [0, 1, 2, 3, 4, 5, 6, 7, 8, 9, 10, 11]),
              (⟨none, .sts (.t 26) (.t 24), none⟩, 0, [0, 1, 2, 3, 4, 5, 6, 7, 8, 9, 10, 11, 12])]))))
        (.seq (.prune [2, 3, 4, 5, 11]) (.reg [
          ⟨some 27, .bin .add (.t 11) (.c (.int .i64 1)), none⟩,
          ⟨some 11, .mv (.t 27), none⟩])))))))))))
  (.seq (.prune [2, 3, 4, 5]) (.seq (.block 2 (.seq (.reg [
          ⟨some 43, .fa 6 (.t 2), none⟩,
          ⟨some 44, .lds (.t 43), none⟩,
          ⟨some 45, .fa 6 (.t 3), none⟩,
          ⟨some 46, .lds (.t 45), none⟩,
          ⟨some 47, .call false 48 [(.t 44), (.t 46)], none⟩,
          ⟨some 42, .mv (.t 47), none⟩])
      (.seq (.prune [2, 3, 4, 5, 42]) (.cond (.t 42) (.skip)
      (.seq (.reg [
            ⟨some 49, .fa 6 (.t 3), none⟩,
            ⟨some 50, .lds (.t 49), none⟩,
            ⟨some 51, .bin .eql (.t 50) (.c (.int .i64 1)), none⟩,
            ⟨some 52, .mv (.t 51), none⟩,
            ⟨some 53, .fa 6 (.t 2), some (52, false)⟩,
            ⟨some 54, .lds (.t 53), some (52, false)⟩,
            ⟨some 55, .bin .eql (.t 54) (.c (.int .i64 0)), some (52, false)⟩,
            ⟨some 56, .pick (.t 52) (.c (.bool true)) (.t 55), none⟩,
            ⟨some 48, .mv (.t 56), none⟩])
        (.seq (.prune [2, 3, 4, 5, 48]) (.cond (.t 48) (.draw 0 [
            (⟨some 57, .fa 6 (.t 3), none⟩, 0, []),
            (⟨some 58, .lds (.t 57), none⟩, 0, [0]),
            (⟨some 59, .fa 7 (.t 3), none⟩, 0, []),
            (⟨some 60, .lds (.t 59), none⟩, 0, [2]),
            (⟨some 61, .fa 8 (.t 3), none⟩, 0, []),
            (⟨some 62, .lds (.t 61), none⟩, 0, [4]),
            (⟨some 63, .fa 6 (.t 5), none⟩, 0, [0, 1]),
            (⟨none, .sts (.t 63) (.t 58), none⟩, 0, [0, 1, 6]),
            (⟨some 64, .fa 7 (.t 5), none⟩, 0, [0, 1, 2, 3, 6, 7]),
            (⟨none, .sts (.t 64) (.t 60), none⟩, 0, [0, 1, 2, 3, 6, 7, 8]),
            (⟨some 65, .fa 8 (.t 5), none⟩, 0, [0, 1, 2, 3, 4, 5, 6, 7, 8, 9]),
            (⟨none, .sts (.t 65) (.t 62), none⟩, 0, [0, 1, 2, 3, 4, 5, 6, 7, 8, 9, 10])])
        (.seq (.reg [
              ⟨some 67, .fa 6 (.t 2), none⟩,
              ⟨some 68, .lds (.t 67), none⟩,
              ⟨some 69, .bin .eql (.t 68) (.c (.int .i64 3)), none⟩,
              ⟨some 70, .mv (.t 69), none⟩,
              ⟨some 71, .fa 6 (.t 3), some (70, true)⟩,
              ⟨some 72, .lds (.t 71), some (70, true)⟩,
              ⟨some 73, .bin .eql (.t 72) (.c (.int .i64 3)), some (70, true)⟩,
              ⟨some 74, .pick (.t 70) (.t 73) (.c (.bool false)), none⟩,
              ⟨some 66, .mv (.t 74), none⟩])
          (.seq (.prune [2, 3, 4, 5, 66]) (.cond (.t 66) (.seq (.reg [
                ⟨some 75, .fa 7 (.t 2), none⟩,
                ⟨some 76, .lds (.t 75), none⟩,
                ⟨some 77, .fa 7 (.t 3), none⟩,
                ⟨some 78, .lds (.t 77), none⟩,
                ⟨some 79, .bsl 1 (.int .i64 0) 2 [(0, (.t 76)), (1, (.t 78))], none⟩,
                ⟨some 80, .call false 47 [(.t 79)], none⟩,
                ⟨some 81, .fa 7 (.t 5), none⟩,
                ⟨none, .sts (.t 81) (.t 80), none⟩])
            (.seq (.prune [2, 3, 4, 5]) (.draw 0 [
              (⟨some 82, .lda 12 (.t 2), none⟩, 0, []),
              (⟨some 83, .call false 31 [(.t 82)], none⟩, 0, [0]),
              (⟨some 84, .lda 12 (.t 3), none⟩, 0, []),
              (⟨some 85, .call false 31 [(.t 84)], none⟩, 0, [0, 1, 2]),
              (⟨some 86, .call false 18 [(.t 83), (.t 85)], none⟩, 0, [0, 1, 2, 3]),
              (⟨some 87, .bsl 12 (.agg [.int .i64 0, .int .i64 0, .int .i64 0, .int .i64 0, .int .i64 0, .int .i64 0, .int .i64 0, .int .i64 0, .lst [] true, .int .i64 0, .int .i64 0, .lst [] true]) 1 [(0, (.t 86))], none⟩, 0, [0, 1, 2, 3, 4]),
              (⟨some 88, .fa 8 (.t 5), none⟩, 0, [0, 1, 2, 3, 4, 5]),
              (⟨none, .sts (.t 88) (.t 87), none⟩, 0, [0, 1, 2, 3, 4, 5, 6])])))
          (.seq (.reg [
                ⟨some 28, .fa 6 (.t 5), none⟩,
                ⟨none, .sts (.t 28) (.c (.int .i64 2)), none⟩,
                ⟨some 29, .fa 7 (.t 5), none⟩,
                ⟨none, .sts (.t 29) (.c (.int .i64 0)), none⟩])
            (.seq (.prune [2, 3, 4, 5]) (.draw 0 [
              (⟨some 30, .lda 12 (.t 2), none⟩, 0, []),
              (⟨some 31, .call false 31 [(.t 30)], none⟩, 0, [0]),
              (⟨some 32, .lda 12 (.t 3), none⟩, 0, []),
              (⟨some 33, .call false 31 [(.t 32)], none⟩, 0, [0, 1, 2]),
              (⟨some 34, .call false 18 [(.t 31), (.t 33)], none⟩, 0, [0, 1, 2, 3]),
              (⟨some 35, .lda 12 (.t 2), none⟩, 0, []),
              (⟨some 36, .call false 33 [(.t 35)], none⟩, 0, [0, 1, 2, 3, 4, 5]),
              (⟨some 37, .lda 12 (.t 3), none⟩, 0, []),
              (⟨some 38, .call false 33 [(.t 37)], none⟩, 0, [0, 1, 2, 3, 4, 5, 6, 7]),
              (⟨some 39, .call false 18 [(.t 36), (.t 38)], none⟩, 0, [0, 1, 2, 3, 4, 5, 6, 7, 8]),
              (⟨some 40, .bsl 12 (.agg [.int .i64 0, .int .i64 0, .int .i64 0, .int .i64 0, .int .i64 0, .int .i64 0, .int .i64 0, .int .i64 0, .lst [] true, .int .i64 0, .int .i64 0, .lst [] true]) 2 [(0, (.t 34)), (1, (.t 39))], none⟩, 0, [0, 1, 2, 3, 4, 5, 6, 7, 8, 9]),
              (⟨some 41, .fa 8 (.t 5), none⟩, 0, [0, 1, 2, 3, 4, 5, 6, 7, 8, 9, 10]),
              (⟨none, .sts (.t 41) (.t 40), none⟩, 0, [0, 1, 2, 3, 4, 5, 6, 7, 8, 9, 10, 11])])))))))))))))
  (.seq (.prune [2, 3, 4, 5]) (.seq (.block 3 (.seq (.reg [
          ⟨some 124, .fa 9 (.t 2), none⟩,
          ⟨some 125, .lds (.t 124), none⟩,
          ⟨some 126, .fa 9 (.t 3), none⟩,
          ⟨some 127, .lds (.t 126), none⟩,
          ⟨some 128, .call false 48 [(.t 125), (.t 127)], none⟩,
          ⟨some 123, .mv (.t 128), none⟩])
      (.seq (.prune [2, 3, 4, 5, 123]) (.cond (.t 123) (.skip)
      (.seq (.reg [
            ⟨some 130, .fa 9 (.t 3), none⟩,
            ⟨some 131, .lds (.t 130), none⟩,
            ⟨some 132, .bin .eql (.t 131) (.c (.int .i64 1)), none⟩,
            ⟨some 133, .mv (.t 132), none⟩,
            ⟨some 134, .fa 9 (.t 2), some (133, false)⟩,
            ⟨some 135, .lds (.t 134), some (133, false)⟩,
            ⟨some 136, .bin .eql (.t 135) (.c (.int .i64 0)), some (133, false)⟩,
            ⟨some 137, .pick (.t 133) (.c (.bool true)) (.t 136), none⟩,
            ⟨some 129, .mv (.t 137), none⟩])
        (.seq (.prune [2, 3, 4, 5, 129]) (.cond (.t 129) (.draw 0 [
            (⟨some 138, .fa 9 (.t 3), none⟩, 0, []),
            (⟨some 139, .lds (.t 138), none⟩, 0, [0]),
            (⟨some 140, .fa 10 (.t 3), none⟩, 0, []),
            (⟨some 141, .lds (.t 140), none⟩, 0, [2]),
            (⟨some 142, .fa 11 (.t 3), none⟩, 0, []),
            (⟨some 143, .lds (.t 142), none⟩, 0, [4]),
            (⟨some 144, .fa 9 (.t 5), none⟩, 0, [0, 1]),
            (⟨none, .sts (.t 144) (.t 139), none⟩, 0, [0, 1, 6]),
            (⟨some 145, .fa 10 (.t 5), none⟩, 0, [0, 1, 2, 3, 6, 7]),
            (⟨none, .sts (.t 145) (.t 141), none⟩, 0, [0, 1, 2, 3, 6, 7, 8]),
            (⟨some 146, .fa 11 (.t 5), none⟩, 0, [0, 1, 2, 3, 4, 5, 6, 7, 8, 9]),
            (⟨none, .sts (.t 146) (.t 143), none⟩, 0, [0, 1, 2, 3, 4, 5, 6, 7, 8, 9, 10])])
        (.seq (.reg [
              ⟨some 148, .fa 9 (.t 2), none⟩,
              ⟨some 149, .lds (.t 148), none⟩,
              ⟨some 150, .bin .eql (.t 149) (.c (.int .i64 3)), none⟩,
              ⟨some 151, .mv (.t 150), none⟩,
              ⟨some 152, .fa 9 (.t 3), some (151, false)⟩,
              ⟨some 153, .lds (.t 152), some (151, false)⟩,
              ⟨some 154, .bin .eql (.t 153) (.c (.int .i64 3)), some (151, false)⟩,
              ⟨some 155, .pick (.t 151) (.c (.bool true)) (.t 154), none⟩,
              ⟨some 156, .mv (.t 155), none⟩,
              ⟨some 157, .fa 11 (.t 2), some (156, false)⟩,
              ⟨some 158, .lds (.t 157), some (156, false)⟩,
              ⟨some 159, .len .slice (.t 158), some (156, false)⟩,
              ⟨some 160, .fa 11 (.t 3), some (156, false)⟩,
              ⟨some 161, .lds (.t 160), some (156, false)⟩,
              ⟨some 162, .len .slice (.t 161), some (156, false)⟩,
              ⟨some 163, .bin .neq (.t 159) (.t 162), some (156, false)⟩,
              ⟨some 164, .pick (.t 156) (.c (.bool true)) (.t 163), none⟩,
              ⟨some 147, .mv (.t 164), none⟩])
          (.seq (.prune [2, 3, 4, 5, 147]) (.cond (.t 147) (.reg [
              ⟨some 165, .fa 9 (.t 5), none⟩,
              ⟨none, .sts (.t 165) (.c (.int .i64 3)), none⟩,
              ⟨some 166, .fa 11 (.t 5), none⟩,
              ⟨none, .sts (.t 166) (.c (.lst [] true)), none⟩])
          (.seq (.reg [
                ⟨some 89, .fa 11 (.t 5), none⟩,
                ⟨none, .sts (.t 89) (.c (.lst [] true)), none⟩])
            (.seq (.prune [2, 3, 4, 5]) (.seq (.reg [
                ⟨some 90, .fa 11 (.t 2), none⟩,
                ⟨some 91, .lds (.t 90), none⟩,
                ⟨some 92, .len .slice (.t 91), none⟩,
                ⟨some 93, .mv (.c (.int .i64 0)), none⟩])
            (.seq (.prune [2, 3, 4, 5, 92, 93]) (.block 4 (.seq (.own 5 (some 11))
              (.loop [93, 2, 3, 4, 5, 92] (.seq (.reg [
                    ⟨some 94, .bin .lss (.t 93) (.t 92), none⟩])
                (.seq (.prune [2, 3, 4, 5, 92, 93, 94]) (.seq (.cond (.t 94) (.skip)
                  (.exit 4))
                (.seq (.prune [2, 3, 4, 5, 92, 93]) (.seq (.block 5 (.seq (.reg [
                        ⟨some 95, .mv (.t 93), none⟩,
                        ⟨some 7, .mv (.t 95), none⟩])
                    (.seq (.prune [2, 3, 4, 5, 7, 92, 93]) (.seq (.draw 2 [
                        (⟨some 96, .fa 11 (.t 3), none⟩, 0, []),
                        (⟨some 97, .lds (.t 96), none⟩, 0, [0]),
                        (⟨some 98, .mv (.t 7), none⟩, 0, []),
                        (⟨some 99, .ia 12 (.t 97) (.t 98), none⟩, 0, [0, 1, 2]),
                        (⟨some 100, .lda 12 (.t 99), none⟩, 0, [0, 1, 2, 3]),
                        (⟨some 101, .fa 11 (.t 2), none⟩, 0, []),
                        (⟨some 102, .lds (.t 101), none⟩, 0, [5]),
                        (⟨some 103, .mv (.t 7), none⟩, 0, []),
                        (⟨some 104, .ia 12 (.t 102) (.t 103), none⟩, 0, [5, 6, 7]),
                        (⟨some 105, .lda 12 (.t 104), none⟩, 0, [5, 6, 7, 8]),
                        (⟨some 8, .alloc [.int .i64 0, .int .i64 0, .int .i64 0, .int .i64 0, .int .i64 0, .int .i64 0, .int .i64 0, .int .i64 0, .lst [] true, .int .i64 0, .int .i64 0, .lst [] true], none⟩, 0, []),
                        (⟨some 9, .alloc [.int .i64 0, .int .i64 0, .int .i64 0, .int .i64 0, .int .i64 0, .int .i64 0, .int .i64 0, .int .i64 0, .lst [] true, .int .i64 0, .int .i64 0, .lst [] true], none⟩, 1, []),
                        (⟨none, .sta 12 (.t 8) (.t 100), none⟩, 0, [0, 1, 2, 3, 4, 10, 11]),
                        (⟨none, .sta 12 (.t 9) (.t 105), none⟩, 0, [0, 1, 2, 3, 4, 5, 6, 7, 8, 9, 10, 11, 12])])
                    (.seq (.prune [2, 3, 4, 5, 7, 8, 9, 92, 93]) (.seq (.seq (.reg [
                          ⟨some 106, .mv (.t 7), none⟩,
                          ⟨some 107, .fa 11 (.t 2), none⟩,
                          ⟨some 108, .lds (.t 107), none⟩,
                          ⟨some 109, .len .slice (.t 108), none⟩,
                          ⟨some 110, .bin .sub (.t 109) (.c (.int .i64 1)), none⟩,
                          ⟨some 111, .bin .eql (.t 106) (.t 110), none⟩])
                      (.seq (.prune [2, 3, 4, 5, 8, 9, 92, 93, 111]) (.cond (.t 111) (.reg [
                          ⟨some 112, .lda 12 (.t 9), none⟩,
                          ⟨some 113, .lda 12 (.t 8), none⟩,
                          ⟨none, .sta 12 (.t 8) (.t 112), none⟩,
                          ⟨none, .sta 12 (.t 9) (.t 113), none⟩])
                      (.skip))))
                    (.seq (.prune [2, 3, 4, 5, 8, 9, 92, 93]) (.draw 1 [
                      (⟨some 114, .fa 11 (.t 5), none⟩, 0, []),
                      (⟨some 115, .lds (.t 114), none⟩, 0, [0]),
                      (⟨some 116, .lda 12 (.t 8), none⟩, 0, []),
                      (⟨some 117, .lda 12 (.t 9), none⟩, 0, []),
                      (⟨some 118, .call false 18 [(.t 116), (.t 117)], none⟩, 0, [2, 3]),
                      (⟨some 119, .bsl 12 (.agg [.int .i64 0, .int .i64 0, .int .i64 0, .int .i64 0, .int .i64 0, .int .i64 0, .int .i64 0, .int .i64 0, .lst [] true, .int .i64 0, .int .i64 0, .lst [] true]) 1 [(0, (.t 118))], none⟩, 0, [2, 3, 4]),
                      (⟨some 120, .app 12 128 false (.t 115) (.t 119), none⟩, 0, [0, 1, 2, 3, 4, 5]),
                      (⟨some 121, .fa 11 (.t 5), none⟩, 0, [0, 1, 2, 3, 4, 5, 6]),
                      (⟨none, .sts (.t 121) (.t 120), none⟩, 0, [0, 1, 2, 3, 4, 5, 6, 7])]))))))))
                (.seq (.prune [2, 3, 4, 5, 92, 93]) (.reg [
                  ⟨some 122, .bin .add (.t 93) (.c (.int .i64 1)), none⟩,
                  ⟨some 93, .mv (.t 122), none⟩]))))))))))))))))))))))))
  (.seq (.prune [4, 5]) (.seq (.reg [
      ⟨some 167, .lda 12 (.t 5), none⟩,
      ⟨none, .sta 12 (.t 4) (.t 167), none⟩])
  (.ret))))))))))),
  [.ca 4 12]⟩
/-- bezel/bezelref07.Compose -/
def a19 : AFunc := ⟨.seq (.reg [
      ⟨some 2, .box (.t 0), none⟩,
      ⟨some 3, .box (.t 1), none⟩,
      ⟨some 4, .alloc [.int .i64 0, .int .i64 0, .int .i64 0, .int .i64 0, .int .i64 0, .int .i64 0, .int .i64 0, .int .i64 0, .lst [] true, .int .i64 0, .int .i64 0, .lst [] true], none⟩])
  (.seq (.prune [2, 3, 4]) (.seq (.reg [
      ⟨some 11, .build [.int .i64 0, .int .i64 0, .int .i64 0, .int .i64 0, .int .i64 0, .int .i64 0, .int .i64 0, .int .i64 0, .lst [] true, .int .i64 0, .int .i64 0, .lst [] true] [], none⟩,
      ⟨some 5, .alloc [.int .i64 0, .int .i64 0, .int .i64 0, .int .i64 0, .int .i64 0, .int .i64 0, .int .i64 0, .int .i64 0, .lst [] true, .int .i64 0, .int .i64 0, .lst [] true], none⟩,
      ⟨none, .sta 12 (.t 5) (.t 11), none⟩])
  (.seq (.prune [2, 3, 4, 5]) (.seq (.seq (.reg [
        ⟨some 6, .mv (.c (.int .i64 0)), none⟩])
    (.seq (.prune [2, 3, 4, 5, 6]) (.block 0 (.loop [6, 2, 3, 4, 5] (.seq (.seq (.reg [
              ⟨some 12, .mv (.t 6), none⟩,
              ⟨some 13, .bin .lss (.t 12) (.c (.int .i64 6)), none⟩])
          (.seq (.prune [2, 3, 4, 5, 6, 13]) (.cond (.t 13) (.skip)
          (.exit 0))))
        (.seq (.prune [2, 3, 4, 5, 6]) (.seq (.block 1 (.draw 0 [
              (⟨some 16, .mv (.t 6), none⟩, 0, []),
              (⟨some 17, .mv (.t 6), none⟩, 0, []),
              (⟨some 18, .fa 0 (.t 2), none⟩, 0, []),
              (⟨some 19, .iaa 6 1 (.t 18) (.t 17), none⟩, 0, [1, 2]),
              (⟨some 20, .lds (.t 19), none⟩, 0, [1, 2, 3]),
              (⟨some 21, .mv (.t 6), none⟩, 0, []),
              (⟨some 22, .fa 0 (.t 3), none⟩, 0, []),
              (⟨some 23, .iaa 6 1 (.t 22) (.t 21), none⟩, 0, [5, 6]),
              (⟨some 24, .lds (.t 23), none⟩, 0, [5, 6, 7]),
              (⟨some 25, .call false 49 [(.t 20), (.t 24)], none⟩, 0, [1, 2, 3, 4, 5, 6, 7, 8]),
              (⟨some 26, .fa 0 (.t 5), none⟩, 0, []),
              (⟨some 27, .iaa 6 1 (.t 26) (.t 16), none⟩, 0, [0, 1, 2, 3, 4, 5, 6, 7, 8, 9, 10]),
              (⟨none, .sts (.t 27) (.t 25), none⟩, 0, [0, 1, 2, 3, 4, 5, 6, 7, 8, 9, 10, 11])]))
        (.seq (.prune [2, 3, 4, 5, 6]) (.reg [
          ⟨some 14, .mv (.t 6), none⟩,
          ⟨some 15, .bin .add (.t 14) (.c (.int .i64 1)), none⟩,
          ⟨some 6, .mv (.t 15), none⟩])))))))))
  (.seq (.prune [2, 3, 4, 5]) (.seq (.reg [
      ⟨some 28, .lda 12 (.t 2), none⟩,
      ⟨some 7, .alloc [.int .i64 0, .int .i64 0, .int .i64 0, .int .i64 0, .int .i64 0, .int .i64 0, .int .i64 0, .int .i64 0, .lst [] true, .int .i64 0, .int .i64 0, .lst [] true], none⟩,
      ⟨none, .sta 12 (.t 7) (.t 28), none⟩])
  (.seq (.prune [2, 3, 4, 5, 7]) (.seq (.seq (.reg [
        ⟨some 29, .fa 6 (.t 2), none⟩,
        ⟨some 30, .lds (.t 29), none⟩,
        ⟨some 31, .bin .neq (.t 30) (.c (.int .i64 1)), none⟩,
        ⟨some 32, .mv (.t 31), none⟩,
        ⟨some 33, .fa 6 (.t 3), some (32, true)⟩,
        ⟨some 34, .lds (.t 33), some (32, true)⟩,
        ⟨some 35, .bin .neq (.t 34) (.c (.int .i64 0)), some (32, true)⟩,
        ⟨some 36, .pick (.t 32) (.t 35) (.c (.bool false)), none⟩])
    (.seq (.prune [2, 3, 4, 5, 7, 36]) (.cond (.t 36) (.reg [
        ⟨some 37, .lda 12 (.t 3), none⟩,
        ⟨none, .sta 12 (.t 7) (.t 37), none⟩])
    (.skip))))
  (.seq (.prune [2, 3, 4, 5, 7]) (.seq (.reg [
      ⟨some 38, .fa 6 (.t 7), none⟩,
      ⟨some 39, .lds (.t 38), none⟩,
      ⟨some 40, .fa 6 (.t 5), none⟩,
      ⟨none, .sts (.t 40) (.t 39), none⟩])
  (.seq (.prune [2, 3, 4, 5, 7]) (.seq (.reg [
      ⟨some 41, .fa 7 (.t 7), none⟩,
      ⟨some 42, .lds (.t 41), none⟩,
      ⟨some 43, .fa 7 (.t 5), none⟩,
      ⟨none, .sts (.t 43) (.t 42), none⟩])
  (.seq (.prune [2, 3, 4, 5, 7]) (.seq (.reg [
      ⟨some 44, .fa 8 (.t 7), none⟩,
      ⟨some 45, .lds (.t 44), none⟩,
      ⟨some 46, .fa 8 (.t 5), none⟩,
      ⟨none, .sts (.t 46) (.t 45), none⟩])
  (.seq (.prune [2, 3, 4, 5]) (.seq (.seq (.reg [
        ⟨some 47, .fa 6 (.t 2), none⟩,
        ⟨some 48, .lds (.t 47), none⟩,
        ⟨some 49, .bin .geq (.t 48) (.c (.int .i64 2)), none⟩,
        ⟨some 50, .mv (.t 49), none⟩,
        ⟨some 51, .fa 6 (.t 3), some (50, true)⟩,
        ⟨some 52, .lds (.t 51), some (50, true)⟩,
        ⟨some 53, .bin .geq (.t 52) (.c (.int .i64 2)), some (50, true)⟩,
        ⟨some 54, .pick (.t 50) (.t 53) (.c (.bool false)), none⟩])
    (.seq (.prune [2, 3, 4, 5, 54]) (.cond (.t 54) (.seq (.reg [
          ⟨some 55, .fa 7 (.t 5), none⟩,
          ⟨none, .sts (.t 55) (.c (.int .i64 0)), none⟩])
      (.seq (.prune [2, 3, 4, 5]) (.seq (.reg [
          ⟨some 56, .fa 6 (.t 5), none⟩,
          ⟨none, .sts (.t 56) (.c (.int .i64 2)), none⟩])
      (.seq (.prune [2, 3, 4, 5]) (.seq (.draw 0 [
          (⟨some 57, .lda 12 (.t 2), none⟩, 0, []),
          (⟨some 58, .call false 32 [(.t 57)], none⟩, 0, [0]),
          (⟨some 59, .lda 12 (.t 3), none⟩, 0, []),
          (⟨some 60, .call false 32 [(.t 59)], none⟩, 0, [0, 1, 2]),
          (⟨some 61, .call false 19 [(.t 58), (.t 60)], none⟩, 0, [0, 1, 2, 3]),
          (⟨some 62, .bsl 12 (.agg [.int .i64 0, .int .i64 0, .int .i64 0, .int .i64 0, .int .i64 0, .int .i64 0, .int .i64 0, .int .i64 0, .lst [] true, .int .i64 0, .int .i64 0, .lst [] true]) 1 [(0, (.t 61))], none⟩, 0, [0, 1, 2, 3, 4]),
          (⟨some 63, .fa 8 (.t 5), none⟩, 0, [0, 1, 2, 3, 4, 5]),
          (⟨none, .sts (.t 63) (.t 62), none⟩, 0, [0, 1, 2, 3, 4, 5, 6])])
      (.seq (.prune [2, 3, 4, 5]) (.seq (.reg [
          ⟨some 64, .fa 6 (.t 2), none⟩,
          ⟨some 65, .lds (.t 64), none⟩,
          ⟨some 66, .bin .eql (.t 65) (.c (.int .i64 3)), none⟩,
          ⟨some 67, .mv (.t 66), none⟩,
          ⟨some 68, .fa 6 (.t 3), some (67, true)⟩,
          ⟨some 69, .lds (.t 68), some (67, true)⟩,
          ⟨some 70, .bin .eql (.t 69) (.c (.int .i64 3)), some (67, true)⟩,
          ⟨some 71, .pick (.t 67) (.t 70) (.c (.bool false)), none⟩])
      (.seq (.prune [2, 3, 4, 5, 71]) (.cond (.t 71) (.seq (.reg [
            ⟨some 72, .fa 6 (.t 5), none⟩,
            ⟨none, .sts (.t 72) (.c (.int .i64 3)), none⟩])
        (.seq (.prune [2, 3, 4, 5]) (.reg [
          ⟨some 73, .fa 7 (.t 2), none⟩,
          ⟨some 74, .lds (.t 73), none⟩,
          ⟨some 75, .fa 7 (.t 3), none⟩,
          ⟨some 76, .lds (.t 75), none⟩,
          ⟨some 77, .call false 49 [(.t 74), (.t 76)], none⟩,
          ⟨some 78, .fa 7 (.t 5), none⟩,
          ⟨none, .sts (.t 78) (.t 77), none⟩])))
      (.draw 1 [
          (⟨some 79, .fa 8 (.t 5), none⟩, 0, []),
          (⟨some 80, .lds (.t 79), none⟩, 0, [0]),
          (⟨some 81, .lda 12 (.t 2), none⟩, 0, []),
          (⟨some 82, .call false 34 [(.t 81)], none⟩, 0, [2]),
          (⟨some 83, .lda 12 (.t 3), none⟩, 0, []),
          (⟨some 84, .call false 34 [(.t 83)], none⟩, 0, [2, 3, 4]),
          (⟨some 85, .call false 19 [(.t 82), (.t 84)], none⟩, 0, [2, 3, 4, 5]),
          (⟨some 86, .bsl 12 (.agg [.int .i64 0, .int .i64 0, .int .i64 0, .int .i64 0, .int .i64 0, .int .i64 0, .int .i64 0, .int .i64 0, .lst [] true, .int .i64 0, .int .i64 0, .lst [] true]) 1 [(0, (.t 85))], none⟩, 0, [2, 3, 4, 5, 6]),
          (⟨some 87, .app 12 128 false (.t 80) (.t 86), none⟩, 0, [0, 1, 2, 3, 4, 5, 6, 7]),
          (⟨some 88, .fa 8 (.t 5), none⟩, 0, [0, 1, 2, 3, 4, 5, 6, 7, 8]),
          (⟨none, .sts (.t 88) (.t 87), none⟩, 0, [0, 1, 2, 3, 4, 5, 6, 7, 8, 9])]))))))))))
    (.skip))))
  (.seq (.prune [2, 3, 4, 5]) (.seq (.reg [
      ⟨some 89, .lda 12 (.t 2), none⟩,
      ⟨some 8, .alloc [.int .i64 0, .int .i64 0, .int .i64 0, .int .i64 0, .int .i64 0, .int .i64 0, .int .i64 0, .int .i64 0, .lst [] true, .int .i64 0, .int .i64 0, .lst [] true], none⟩,
      ⟨none, .sta 12 (.t 8) (.t 89), none⟩])
  (.seq (.prune [2, 3, 4, 5, 8]) (.seq (.seq (.reg [
        ⟨some 90, .fa 9 (.t 2), none⟩,
        ⟨some 91, .lds (.t 90), none⟩,
        ⟨some 92, .bin .neq (.t 91) (.c (.int .i64 1)), none⟩,
        ⟨some 93, .mv (.t 92), none⟩,
        ⟨some 94, .fa 9 (.t 3), some (93, true)⟩,
        ⟨some 95, .lds (.t 94), some (93, true)⟩,
        ⟨some 96, .bin .neq (.t 95) (.c (.int .i64 0)), some (93, true)⟩,
        ⟨some 97, .pick (.t 93) (.t 96) (.c (.bool false)), none⟩])
    (.seq (.prune [2, 3, 4, 5, 8, 97]) (.cond (.t 97) (.reg [
        ⟨some 98, .lda 12 (.t 3), none⟩,
        ⟨none, .sta 12 (.t 8) (.t 98), none⟩])
    (.skip))))
  (.seq (.prune [2, 3, 4, 5, 8]) (.seq (.reg [
      ⟨some 99, .fa 9 (.t 8), none⟩,
      ⟨some 100, .lds (.t 99), none⟩,
      ⟨some 101, .fa 9 (.t 5), none⟩,
      ⟨none, .sts (.t 101) (.t 100), none⟩])
  (.seq (.prune [2, 3, 4, 5, 8]) (.seq (.reg [
      ⟨some 102, .fa 10 (.t 8), none⟩,
      ⟨some 103, .lds (.t 102), none⟩,
      ⟨some 104, .fa 10 (.t 5), none⟩,
      ⟨none, .sts (.t 104) (.t 103), none⟩])
  (.seq (.prune [2, 3, 4, 5, 8]) (.seq (.reg [
      ⟨some 105, .fa 11 (.t 8), none⟩,
      ⟨some 106, .lds (.t 105), none⟩,
      ⟨some 107, .fa 11 (.t 5), none⟩,
      ⟨none, .sts (.t 107) (.t 106), none⟩])
  (.seq (.prune [2, 3, 4, 5]) (.seq (.seq (.reg [
        ⟨some 108, .fa 9 (.t 2), none⟩,
        ⟨some 109, .lds (.t 108), none⟩,
        ⟨some 110, .bin .geq (.t 109) (.c (.int .i64 2)), none⟩,
        ⟨some 111, .mv (.t 110), none⟩,
        ⟨some 112, .fa 9 (.t 3), some (111, true)⟩,
        ⟨some 113, .lds (.t 112), some (111, true)⟩,
        ⟨some 114, .bin .geq (.t 113) (.c (.int .i64 2)), some (111, true)⟩,
        ⟨some 115, .pick (.t 111) (.t 114) (.c (.bool false)), none⟩])
    (.seq (.prune [2, 3, 4, 5, 115]) (.cond (.t 115) (.seq (.reg [
          ⟨some 116, .fa 9 (.t 5), none⟩,
          ⟨none, .sts (.t 116) (.c (.int .i64 3)), none⟩])
      (.seq (.prune [2, 3, 4, 5]) (.seq (.reg [
          ⟨some 117, .fa 11 (.t 5), none⟩,
          ⟨none, .sts (.t 117) (.c (.lst [] true)), none⟩])
      (.seq (.prune [2, 3, 4, 5]) (.seq (.reg [
          ⟨some 118, .fa 9 (.t 2), none⟩,
          ⟨some 119, .lds (.t 118), none⟩,
          ⟨some 120, .bin .eql (.t 119) (.c (.int .i64 2)), none⟩,
          ⟨some 121, .mv (.t 120), none⟩,
          ⟨some 122, .fa 9 (.t 3), some (121, true)⟩,
          ⟨some 123, .lds (.t 122), some (121, true)⟩,
          ⟨some 124, .bin .eql (.t 123) (.c (.int .i64 2)), some (121, true)⟩,
          ⟨some 125, .pick (.t 121) (.t 124) (.c (.bool false)), none⟩,
          ⟨some 126, .mv (.t 125), none⟩,
          ⟨some 127, .fa 11 (.t 2), some (126, true)⟩,
          ⟨some 128, .lds (.t 127), some (126, true)⟩,
          ⟨some 129, .len .slice (.t 128), some (126, true)⟩,
          ⟨some 130, .fa 11 (.t 3), some (126, true)⟩,
          ⟨some 131, .lds (.t 130), some (126, true)⟩,
          ⟨some 132, .len .slice (.t 131), some (126, true)⟩,
          ⟨some 133, .bin .eql (.t 129) (.t 132), some (126, true)⟩,
          ⟨some 134, .pick (.t 126) (.t 133) (.c (.bool false)), none⟩])
      (.seq (.prune [2, 3, 4, 5, 134]) (.cond (.t 134) (.seq (.reg [
            ⟨some 135, .fa 9 (.t 5), none⟩,
            ⟨none, .sts (.t 135) (.c (.int .i64 2)), none⟩])
        (.seq (.prune [2, 3, 4, 5]) (.seq (.reg [
            ⟨some 136, .fa 11 (.t 2), none⟩,
            ⟨some 137, .lds (.t 136), none⟩,
            ⟨some 138, .len .slice (.t 137), none⟩,
            ⟨some 139, .bin .sub (.t 138) (.c (.int .i64 1)), none⟩,
            ⟨some 9, .mv (.t 139), none⟩])
        (.seq (.prune [2, 3, 4, 5, 9]) (.seq (.seq (.reg [
              ⟨some 10, .mv (.c (.int .i64 0)), none⟩])
          (.seq (.prune [2, 3, 4, 5, 9, 10]) (.block 2 (.seq (.own 5 (some 11))
            (.loop [10, 2, 3, 4, 5, 9] (.seq (.seq (.reg [
                    ⟨some 140, .mv (.t 10), none⟩,
                    ⟨some 141, .mv (.t 9), none⟩,
                    ⟨some 142, .bin .lss (.t 140) (.t 141), none⟩])
                (.seq (.prune [2, 3, 4, 5, 9, 10, 142]) (.cond (.t 142) (.skip)
                (.exit 2))))
              (.seq (.prune [2, 3, 4, 5, 9, 10]) (.seq (.block 3 (.draw 1 [
                    (⟨some 145, .fa 11 (.t 5), none⟩, 0, []),
                    (⟨some 146, .lds (.t 145), none⟩, 0, [0]),
                    (⟨some 147, .fa 11 (.t 3), none⟩, 0, []),
                    (⟨some 148, .lds (.t 147), none⟩, 0, [2]),
                    (⟨some 149, .mv (.t 10), none⟩, 0, []),
                    (⟨some 150, .ia 12 (.t 148) (.t 149), none⟩, 0, [2, 3, 4]),
                    (⟨some 151, .lda 12 (.t 150), none⟩, 0, [2, 3, 4, 5]),
                    (⟨some 152, .fa 11 (.t 2), none⟩, 0, []),
                    (⟨some 153, .lds (.t 152), none⟩, 0, [7]),
                    (⟨some 154, .mv (.t 10), none⟩, 0, []),
                    (⟨some 155, .ia 12 (.t 153) (.t 154), none⟩, 0, [7, 8, 9]),
                    (⟨some 156, .lda 12 (.t 155), none⟩, 0, [7, 8, 9, 10]),
                    (⟨some 157, .call false 19 [(.t 151), (.t 156)], none⟩, 0, [2, 3, 4, 5, 6, 7, 8, 9, 10, 11]),
                    (⟨some 158, .bsl 12 (.agg [.int .i64 0, .int .i64 0, .int .i64 0, .int .i64 0, .int .i64 0, .int .i64 0, .int .i64 0, .int .i64 0, .lst [] true, .int .i64 0, .int .i64 0, .lst [] true]) 1 [(0, (.t 157))], none⟩, 0, [2, 3, 4, 5, 6, 7, 8, 9, 10, 11, 12]),
                    (⟨some 159, .app 12 128 false (.t 146) (.t 158), none⟩, 0, [0, 1, 2, 3, 4, 5, 6, 7, 8, 9, 10, 11, 12, 13]),
                    (⟨some 160, .fa 11 (.t 5), none⟩, 0, [0, 1, 2, 3, 4, 5, 6, 7, 8, 9, 10, 11, 12, 13, 14]),
                    (⟨none, .sts (.t 160) (.t 159), none⟩, 0, [0, 1, 2, 3, 4, 5, 6, 7, 8, 9, 10, 11, 12, 13, 14, 15])]))
              (.seq (.prune [2, 3, 4, 5, 9, 10]) (.reg [
                ⟨some 143, .mv (.t 10), none⟩,
                ⟨some 144, .bin .add (.t 143) (.c (.int .i64 1)), none⟩,
                ⟨some 10, .mv (.t 144), none⟩]))))))))))
        (.seq (.prune [2, 3, 4, 5, 9]) (.draw 1 [
          (⟨some 161, .fa 11 (.t 5), none⟩, 0, []),
          (⟨some 162, .lds (.t 161), none⟩, 0, [0]),
          (⟨some 163, .fa 11 (.t 2), none⟩, 0, []),
          (⟨some 164, .lds (.t 163), none⟩, 0, [2]),
          (⟨some 165, .mv (.t 9), none⟩, 0, []),
          (⟨some 166, .ia 12 (.t 164) (.t 165), none⟩, 0, [2, 3, 4]),
          (⟨some 167, .lda 12 (.t 166), none⟩, 0, [2, 3, 4, 5]),
          (⟨some 168, .fa 11 (.t 3), none⟩, 0, []),
          (⟨some 169, .lds (.t 168), none⟩, 0, [7]),
          (⟨some 170, .mv (.t 9), none⟩, 0, []),
          (⟨some 171, .ia 12 (.t 169) (.t 170), none⟩, 0, [7, 8, 9]),
          (⟨some 172, .lda 12 (.t 171), none⟩, 0, [7, 8, 9, 10]),
          (⟨some 173, .call false 19 [(.t 167), (.t 172)], none⟩, 0, [2, 3, 4, 5, 6, 7, 8, 9, 10, 11]),
          (⟨some 174, .bsl 12 (.agg [.int .i64 0, .int .i64 0, .int .i64 0, .int .i64 0, .int .i64 0, .int .i64 0, .int .i64 0, .int .i64 0, .lst [] true, .int .i64 0, .int .i64 0, .lst [] true]) 1 [(0, (.t 173))], none⟩, 0, [2, 3, 4, 5, 6, 7, 8, 9, 10, 11, 12]),
          (⟨some 175, .app 12 128 false (.t 162) (.t 174), none⟩, 0, [0, 1, 2, 3, 4, 5, 6, 7, 8, 9, 10, 11, 12, 13]),
          (⟨some 176, .fa 11 (.t 5), none⟩, 0, [0, 1, 2, 3, 4, 5, 6, 7, 8, 9, 10, 11, 12, 13, 14]),
          (⟨none, .sts (.t 176) (.t 175), none⟩, 0, [0, 1, 2, 3, 4, 5, 6, 7, 8, 9, 10, 11, 12, 13, 14, 15])])))))))
      (.skip))))))))
    (.skip))))
  (.seq (.prune [4, 5]) (.seq (.reg [
      ⟨some 177, .lda 12 (.t 5), none⟩,
      ⟨none, .sta 12 (.t 4) (.t 177), none⟩])
  (.ret))))))))))))))))))))))))))))))),
  [.ca 4 12]⟩
/-- bezel/coerce.Right -/
def a20 : AFunc := ⟨.seq (.reg [
      ⟨some 1, .box (.t 0), none⟩,
      ⟨some 2, .mv (.c (.bool false)), none⟩])
  (.seq (.prune [1]) (.seq (.reg [
      ⟨some 3, .lda 12 (.t 1), none⟩,
      ⟨some 4, .call false 50 [(.t 3), (.c (.int .i64 25))], none⟩,
      ⟨some 2, .mv (.t 4), none⟩])
  (.ret))),
  [.t 2]⟩
/-- bezel/coerce.Height -/
def a21 : AFunc := ⟨.seq (.reg [
      ⟨some 1, .box (.t 0), none⟩,
      ⟨some 2, .mv (.c (.int .i64 0)), none⟩])
  (.seq (.prune [1]) (.seq (.reg [
      ⟨some 3, .mv (.c (.int .i64 0)), none⟩])
  (.seq (.prune [1, 3]) (.seq (.seq (.reg [
        ⟨some 6, .fa 8 (.t 1), none⟩,
        ⟨some 7, .lds (.t 6), none⟩,
        ⟨some 8, .fa 11 (.t 1), none⟩,
        ⟨some 9, .lds (.t 8), none⟩,
        ⟨some 10, .bsl 1 (.lst [] true) 2 [(0, (.t 7)), (1, (.t 9))], none⟩,
        ⟨some 11, .call false 51 [(.t 10)], none⟩,
        ⟨some 12, .len .slice (.t 11), none⟩,
        ⟨some 13, .mv (.c (.int .i64 0)), none⟩])
    (.seq (.prune [3, 11, 12, 13]) (.block 0 (.loop [3, 13, 11, 12] (.seq (.reg [
            ⟨some 14, .bin .lss (.t 13) (.t 12), none⟩])
        (.seq (.prune [3, 11, 12, 13, 14]) (.seq (.cond (.t 14) (.skip)
          (.exit 0))
        (.seq (.prune [3, 11, 12, 13]) (.seq (.block 1 (.seq (.reg [
                ⟨some 15, .ia 12 (.t 11) (.t 13), none⟩,
                ⟨some 16, .lda 12 (.t 15), none⟩,
                ⟨some 5, .alloc [.int .i64 0, .int .i64 0, .int .i64 0, .int .i64 0, .int .i64 0, .int .i64 0, .int .i64 0, .int .i64 0, .lst [] true, .int .i64 0, .int .i64 0, .lst [] true], none⟩,
                ⟨none, .sta 12 (.t 5) (.t 16), none⟩])
            (.seq (.prune [3, 5, 11, 12, 13]) (.reg [
              ⟨some 17, .mv (.t 3), none⟩,
              ⟨some 18, .lda 12 (.t 5), none⟩,
              ⟨some 19, .call false 21 [(.t 18)], none⟩,
              ⟨some 20, .mm true (.t 17) (.t 19), none⟩,
              ⟨some 3, .mv (.t 20), none⟩]))))
        (.seq (.prune [3, 11, 12, 13]) (.reg [
          ⟨some 21, .bin .add (.t 13) (.c (.int .i64 1)), none⟩,
          ⟨some 13, .mv (.t 21), none⟩])))))))))))
  (.seq (.prune [3]) (.seq (.reg [
      ⟨some 22, .mv (.t 3), none⟩,
      ⟨some 23, .bin .add (.t 22) (.c (.int .i64 1)), none⟩,
      ⟨some 2, .mv (.t 23), none⟩])
  (.ret))))))),
  [.t 2]⟩
/-- bezel/coerce.Size -/
def a22 : AFunc := ⟨.seq (.reg [
      ⟨some 1, .box (.t 0), none⟩,
      ⟨some 2, .mv (.c (.int .i64 0)), none⟩])
  (.seq (.prune [1]) (.seq (.reg [
      ⟨some 3, .mv (.c (.int .i64 1)), none⟩])
  (.seq (.prune [1, 3]) (.seq (.seq (.reg [
        ⟨some 6, .fa 8 (.t 1), none⟩,
        ⟨some 7, .lds (.t 6), none⟩,
        ⟨some 8, .fa 11 (.t 1), none⟩,
        ⟨some 9, .lds (.t 8), none⟩,
        ⟨some 10, .bsl 1 (.lst [] true) 2 [(0, (.t 7)), (1, (.t 9))], none⟩,
        ⟨some 11, .call false 51 [(.t 10)], none⟩,
        ⟨some 12, .len .slice (.t 11), none⟩,
        ⟨some 13, .mv (.c (.int .i64 0)), none⟩])
    (.seq (.prune [3, 11, 12, 13]) (.block 0 (.loop [3, 13, 11, 12] (.seq (.reg [
            ⟨some 14, .bin .lss (.t 13) (.t 12), none⟩])
        (.seq (.prune [3, 11, 12, 13, 14]) (.seq (.cond (.t 14) (.skip)
          (.exit 0))
        (.seq (.prune [3, 11, 12, 13]) (.seq (.block 1 (.seq (.reg [
                ⟨some 15, .ia 12 (.t 11) (.t 13), none⟩,
                ⟨some 16, .lda 12 (.t 15), none⟩,
                ⟨some 5, .alloc [.int .i64 0, .int .i64 0, .int .i64 0, .int .i64 0, .int .i64 0, .int .i64 0, .int .i64 0, .int .i64 0, .lst [] true, .int .i64 0, .int .i64 0, .lst [] true], none⟩,
                ⟨none, .sta 12 (.t 5) (.t 16), none⟩])
            (.seq (.prune [3, 5, 11, 12, 13]) (.reg [
              ⟨some 17, .mv (.t 3), none⟩,
              ⟨some 18, .lda 12 (.t 5), none⟩,
              ⟨some 19, .call false 22 [(.t 18)], none⟩,
              ⟨some 20, .bin .add (.t 17) (.t 19), none⟩,
              ⟨some 3, .mv (.t 20), none⟩]))))
        (.seq (.prune [3, 11, 12, 13]) (.reg [
          ⟨some 21, .bin .add (.t 13) (.c (.int .i64 1)), none⟩,
          ⟨some 13, .mv (.t 21), none⟩])))))))))))
  (.seq (.prune [3]) (.seq (.reg [
      ⟨some 22, .mv (.t 3), none⟩,
      ⟨some 2, .mv (.t 22), none⟩])
  (.ret))))))),
  [.t 2]⟩
/-- bezel/bezellaw07.blames -/
def a23 : AFunc := ⟨.seq (.reg [
      ⟨some 2, .box (.t 0), none⟩,
      ⟨some 4, .mv (.c (.bool false)), none⟩])
  (.seq (.prune [1, 2]) (.seq (.seq (.reg [
        ⟨some 5, .mv (.c (.int .i64 0)), none⟩])
    (.seq (.prune [1, 2, 5]) (.block 0 (.loop [5, 1, 2] (.seq (.seq (.reg [
              ⟨some 8, .mv (.t 5), none⟩,
              ⟨some 9, .bin .lss (.t 8) (.c (.int .i64 6)), none⟩])
          (.seq (.prune [1, 2, 5, 9]) (.cond (.t 9) (.skip)
          (.exit 0))))
        (.seq (.prune [1, 2, 5]) (.seq (.block 1 (.seq (.reg [
                ⟨some 12, .mv (.t 5), none⟩,
                ⟨some 13, .fa 0 (.t 2), none⟩,
                ⟨some 14, .iaa 6 1 (.t 13) (.t 12), none⟩,
                ⟨some 15, .lds (.t 14), none⟩,
                ⟨some 16, .bin .neq (.t 15) (.c (.int .i64 0)), none⟩,
                ⟨some 17, .mv (.t 16), none⟩,
                ⟨some 18, .mv (.t 5), some (17, true)⟩,
                ⟨some 19, .fa 0 (.t 2), some (17, true)⟩,
                ⟨some 20, .iaa 6 1 (.t 19) (.t 18), some (17, true)⟩,
                ⟨some 21, .lds (.t 20), some (17, true)⟩,
                ⟨some 22, .mv (.t 1), some (17, true)⟩,
                ⟨some 23, .bin .neq (.t 21) (.t 22), some (17, true)⟩,
                ⟨some 24, .pick (.t 17) (.t 23) (.c (.bool false)), none⟩])
            (.seq (.prune [1, 2, 5, 24]) (.cond (.t 24) (.seq (.reg [
                  ⟨some 4, .mv (.c (.bool false)), none⟩])
              (.ret))
            (.skip)))))
        (.seq (.prune [1, 2, 5]) (.reg [
          ⟨some 10, .mv (.t 5), none⟩,
          ⟨some 11, .bin .add (.t 10) (.c (.int .i64 1)), none⟩,
          ⟨some 5, .mv (.t 11), none⟩])))))))))
  (.seq (.prune [1, 2]) (.seq (.seq (.reg [
        ⟨some 25, .fa 7 (.t 2), none⟩,
        ⟨some 26, .lds (.t 25), none⟩,
        ⟨some 27, .bin .neq (.t 26) (.c (.int .i64 0)), none⟩,
        ⟨some 28, .mv (.t 27), none⟩,
        ⟨some 29, .fa 7 (.t 2), some (28, true)⟩,
        ⟨some 30, .lds (.t 29), some (28, true)⟩,
        ⟨some 31, .mv (.t 1), some (28, true)⟩,
        ⟨some 32, .bin .neq (.t 30) (.t 31), some (28, true)⟩,
        ⟨some 33, .pick (.t 28) (.t 32) (.c (.bool false)), none⟩,
        ⟨some 34, .mv (.t 33), none⟩,
        ⟨some 35, .fa 10 (.t 2), some (34, false)⟩,
        ⟨some 36, .lds (.t 35), some (34, false)⟩,
        ⟨some 37, .bin .neq (.t 36) (.c (.int .i64 0)), some (34, false)⟩,
        ⟨some 38, .mv (.t 37), some (34, false)⟩,
        ⟨some 39, .fa 10 (.t 2), some (38, true)⟩,
        ⟨some 40, .lds (.t 39), some (38, true)⟩,
        ⟨some 41, .mv (.t 1), some (38, true)⟩,
        ⟨some 42, .bin .neq (.t 40) (.t 41), some (38, true)⟩,
        ⟨some 43, .pick (.t 38) (.t 42) (.c (.bool false)), some (34, false)⟩,
        ⟨some 44, .pick (.t 34) (.c (.bool true)) (.t 43), none⟩])
    (.seq (.prune [1, 2, 44]) (.cond (.t 44) (.seq (.reg [
          ⟨some 4, .mv (.c (.bool false)), none⟩])
      (.ret))
    (.skip))))
  (.seq (.prune [1, 2]) (.seq (.seq (.reg [
        ⟨some 6, .mv (.c (.int .i64 0)), none⟩])
    (.seq (.prune [1, 2, 6]) (.block 2 (.loop [6, 1, 2] (.seq (.seq (.reg [
              ⟨some 45, .mv (.t 6), none⟩,
              ⟨some 46, .fa 8 (.t 2), none⟩,
              ⟨some 47, .lds (.t 46), none⟩,
              ⟨some 48, .len .slice (.t 47), none⟩,
              ⟨some 49, .bin .lss (.t 45) (.t 48), none⟩])
          (.seq (.prune [1, 2, 6, 49]) (.cond (.t 49) (.skip)
          (.exit 2))))
        (.seq (.prune [1, 2, 6]) (.seq (.block 3 (.seq (.reg [
                ⟨some 52, .fa 8 (.t 2), none⟩,
                ⟨some 53, .lds (.t 52), none⟩,
                ⟨some 54, .mv (.t 6), none⟩,
                ⟨some 55, .ia 12 (.t 53) (.t 54), none⟩,
                ⟨some 56, .lda 12 (.t 55), none⟩,
                ⟨some 57, .mv (.t 1), none⟩,
                ⟨some 58, .call false 23 [(.t 56), (.t 57)], none⟩,
                ⟨some 59, .un .not (.t 58), none⟩])
            (.seq (.prune [1, 2, 6, 59]) (.cond (.t 59) (.seq (.reg [
                  ⟨some 4, .mv (.c (.bool false)), none⟩])
              (.ret))
            (.skip)))))
        (.seq (.prune [1, 2, 6]) (.reg [
          ⟨some 50, .mv (.t 6), none⟩,
          ⟨some 51, .bin .add (.t 50) (.c (.int .i64 1)), none⟩,
          ⟨some 6, .mv (.t 51), none⟩])))))))))
  (.seq (.prune [1, 2]) (.seq (.seq (.reg [
        ⟨some 7, .mv (.c (.int .i64 0)), none⟩])
    (.seq (.prune [1, 2, 7]) (.block 4 (.loop [7, 1, 2] (.seq (.seq (.reg [
              ⟨some 60, .mv (.t 7), none⟩,
              ⟨some 61, .fa 11 (.t 2), none⟩,
              ⟨some 62, .lds (.t 61), none⟩,
              ⟨some 63, .len .slice (.t 62), none⟩,
              ⟨some 64, .bin .lss (.t 60) (.t 63), none⟩])
          (.seq (.prune [1, 2, 7, 64]) (.cond (.t 64) (.skip)
          (.exit 4))))
        (.seq (.prune [1, 2, 7]) (.seq (.block 5 (.seq (.reg [
                ⟨some 67, .fa 11 (.t 2), none⟩,
                ⟨some 68, .lds (.t 67), none⟩,
                ⟨some 69, .mv (.t 7), none⟩,
                ⟨some 70, .ia 12 (.t 68) (.t 69), none⟩,
                ⟨some 71, .lda 12 (.t 70), none⟩,
                ⟨some 72, .mv (.t 1), none⟩,
                ⟨some 73, .call false 23 [(.t 71), (.t 72)], none⟩,
                ⟨some 74, .un .not (.t 73), none⟩])
            (.seq (.prune [1, 2, 7, 74]) (.cond (.t 74) (.seq (.reg [
                  ⟨some 4, .mv (.c (.bool false)), none⟩])
              (.ret))
            (.skip)))))
        (.seq (.prune [1, 2, 7]) (.reg [
          ⟨some 65, .mv (.t 7), none⟩,
          ⟨some 66, .bin .add (.t 65) (.c (.int .i64 1)), none⟩,
          ⟨some 7, .mv (.t 66), none⟩])))))))))
  (.seq (.prune []) (.seq (.reg [
      ⟨some 4, .mv (.c (.bool true)), none⟩])
  (.ret))))))))))),
  [.t 4]⟩
/-- bezel/coerce.First -/
def a24 : AFunc := ⟨.seq (.reg [
      ⟨some 2, .box (.t 0), none⟩,
      ⟨some 4, .mv (.c (.int .i64 0)), none⟩])
  (.seq (.prune [1, 2]) (.seq (.block 0 (.seq (.reg [
          ⟨some 8, .mv (.t 1), none⟩,
          ⟨some 9, .bin .eql (.t 8) (.c (.int .i64 64)), none⟩,
          ⟨some 10, .mv (.t 9), none⟩,
          ⟨some 11, .fa 6 (.t 2), some (10, true)⟩,
          ⟨some 12, .lds (.t 11), some (10, true)⟩,
          ⟨some 13, .bin .eql (.t 12) (.c (.int .i64 1)), some (10, true)⟩,
          ⟨some 14, .pick (.t 10) (.t 13) (.c (.bool false)), none⟩,
          ⟨some 7, .mv (.t 14), none⟩])
      (.seq (.prune [1, 2, 7]) (.cond (.t 7) (.seq (.reg [
            ⟨some 15, .fa 7 (.t 2), none⟩,
            ⟨some 16, .lds (.t 15), none⟩,
            ⟨some 4, .mv (.t 16), none⟩])
        (.ret))
      (.seq (.reg [
            ⟨some 18, .mv (.t 1), none⟩,
            ⟨some 19, .bin .eql (.t 18) (.c (.int .i64 128)), none⟩,
            ⟨some 20, .mv (.t 19), none⟩,
            ⟨some 21, .fa 9 (.t 2), some (20, true)⟩,
            ⟨some 22, .lds (.t 21), some (20, true)⟩,
            ⟨some 23, .bin .eql (.t 22) (.c (.int .i64 1)), some (20, true)⟩,
            ⟨some 24, .pick (.t 20) (.t 23) (.c (.bool false)), none⟩,
            ⟨some 17, .mv (.t 24), none⟩])
        (.seq (.prune [1, 2, 17]) (.cond (.t 17) (.seq (.reg [
              ⟨some 25, .fa 10 (.t 2), none⟩,
              ⟨some 26, .lds (.t 25), none⟩,
              ⟨some 4, .mv (.t 26), none⟩])
          (.ret))
        (.skip))))))))
  (.seq (.prune [1, 2]) (.seq (.seq (.reg [
        ⟨some 27, .fa 0 (.t 2), none⟩,
        ⟨some 28, .lda 6 (.t 27), none⟩,
        ⟨some 29, .mv (.c (.int .i64 0)), none⟩])
    (.seq (.prune [1, 28, 29]) (.block 1 (.loop [29, 1, 28] (.seq (.reg [
            ⟨some 30, .bin .lss (.t 29) (.c (.int .i64 6)), none⟩])
        (.seq (.prune [1, 28, 29, 30]) (.seq (.cond (.t 30) (.skip)
          (.exit 1))
        (.seq (.prune [1, 28, 29]) (.seq (.block 2 (.seq (.reg [
                ⟨some 31, .mv (.t 29), none⟩,
                ⟨some 32, .ixa 6 1 none (.t 28) (.t 29), none⟩,
                ⟨some 5, .mv (.t 31), none⟩,
                ⟨some 6, .mv (.t 32), none⟩])
            (.seq (.prune [1, 5, 6, 28, 29]) (.seq (.reg [
                ⟨some 33, .mv (.t 1), none⟩,
                ⟨some 34, .mv (.t 5), none⟩,
                ⟨some 35, .bin .shl (.c (.int .i64 1)) (.t 34), none⟩,
                ⟨some 36, .bin .eql (.t 33) (.t 35), none⟩])
            (.seq (.prune [1, 6, 28, 29, 36]) (.cond (.t 36) (.seq (.reg [
                  ⟨some 37, .mv (.t 6), none⟩,
                  ⟨some 4, .mv (.t 37), none⟩])
              (.ret))
            (.skip)))))))
        (.seq (.prune [1, 28, 29]) (.reg [
          ⟨some 38, .bin .add (.t 29) (.c (.int .i64 1)), none⟩,
          ⟨some 29, .mv (.t 38), none⟩])))))))))))
  (.seq (.prune []) (.seq (.reg [
      ⟨some 4, .mv (.c (.int .i64 0)), none⟩])
  (.ret))))))),
  [.t 4]⟩
/-- bezel/coerce.Same -/
def a25 : AFunc := ⟨.seq (.reg [
      ⟨some 2, .box (.t 0), none⟩,
      ⟨some 3, .box (.t 1), none⟩,
      ⟨some 4, .mv (.c (.bool false)), none⟩])
  (.seq (.prune [2, 3]) (.seq (.reg [
      ⟨some 5, .fa 0 (.t 2), none⟩,
      ⟨some 6, .lda 6 (.t 5), none⟩,
      ⟨some 7, .fa 0 (.t 3), none⟩,
      ⟨some 8, .lda 6 (.t 7), none⟩,
      ⟨some 9, .eqv false (.ints [.i, .i, .i, .i, .i, .i]) (.t 6) (.t 8), none⟩,
      ⟨some 10, .mv (.t 9), none⟩,
      ⟨some 11, .fa 6 (.t 2), some (10, true)⟩,
      ⟨some 12, .lds (.t 11), some (10, true)⟩,
      ⟨some 13, .fa 6 (.t 3), some (10, true)⟩,
      ⟨some 14, .lds (.t 13), some (10, true)⟩,
      ⟨some 15, .bin .eql (.t 12) (.t 14), some (10, true)⟩,
      ⟨some 16, .pick (.t 10) (.t 15) (.c (.bool false)), none⟩,
      ⟨some 17, .mv (.t 16), none⟩,
      ⟨some 18, .fa 7 (.t 2), some (17, true)⟩,
      ⟨some 19, .lds (.t 18), some (17, true)⟩,
      ⟨some 20, .fa 7 (.t 3), some (17, true)⟩,
      ⟨some 21, .lds (.t 20), some (17, true)⟩,
      ⟨some 22, .bin .eql (.t 19) (.t 21), some (17, true)⟩,
      ⟨some 23, .pick (.t 17) (.t 22) (.c (.bool false)), none⟩,
      ⟨some 24, .mv (.t 23), none⟩,
      ⟨some 25, .fa 9 (.t 2), some (24, true)⟩,
      ⟨some 26, .lds (.t 25), some (24, true)⟩,
      ⟨some 27, .fa 9 (.t 3), some (24, true)⟩,
      ⟨some 28, .lds (.t 27), some (24, true)⟩,
      ⟨some 29, .bin .eql (.t 26) (.t 28), some (24, true)⟩,
      ⟨some 30, .pick (.t 24) (.t 29) (.c (.bool false)), none⟩,
      ⟨some 31, .mv (.t 30), none⟩,
      ⟨some 32, .fa 10 (.t 2), some (31, true)⟩,
      ⟨some 33, .lds (.t 32), some (31, true)⟩,
      ⟨some 34, .fa 10 (.t 3), some (31, true)⟩,
      ⟨some 35, .lds (.t 34), some (31, true)⟩,
      ⟨some 36, .bin .eql (.t 33) (.t 35), some (31, true)⟩,
      ⟨some 37, .pick (.t 31) (.t 36) (.c (.bool false)), none⟩,
      ⟨some 38, .mv (.t 37), none⟩,
      ⟨some 39, .fa 8 (.t 2), some (38, true)⟩,
      ⟨some 40, .lds (.t 39), some (38, true)⟩,
      ⟨some 41, .fa 8 (.t 3), some (38, true)⟩,
      ⟨some 42, .lds (.t 41), some (38, true)⟩,
      ⟨some 43, .call false 52 [(.t 40), (.t 42), (.c (.fn 25 []))], some (38, true)⟩,
      ⟨some 44, .pick (.t 38) (.t 43) (.c (.bool false)), none⟩,
      ⟨some 45, .mv (.t 44), none⟩,
      ⟨some 46, .fa 11 (.t 2), some (45, true)⟩,
      ⟨some 47, .lds (.t 46), some (45, true)⟩,
      ⟨some 48, .fa 11 (.t 3), some (45, true)⟩,
      ⟨some 49, .lds (.t 48), some (45, true)⟩,
      ⟨some 50, .call false 52 [(.t 47), (.t 49), (.c (.fn 25 []))], some (45, true)⟩,
      ⟨some 51, .pick (.t 45) (.t 50) (.c (.bool false)), none⟩,
      ⟨some 4, .mv (.t 51), none⟩])
  (.ret))),
  [.t 4]⟩
/-- bezel/bezelref07.Same -/
def a26 : AFunc := ⟨.seq (.reg [
      ⟨some 2, .box (.t 0), none⟩,
      ⟨some 3, .box (.t 1), none⟩,
      ⟨some 4, .mv (.c (.bool false)), none⟩])
  (.seq (.prune [2, 3]) (.seq (.seq (.reg [
        ⟨some 7, .fa 0 (.t 2), none⟩,
        ⟨some 8, .lda 6 (.t 7), none⟩,
        ⟨some 9, .fa 0 (.t 3), none⟩,
        ⟨some 10, .lda 6 (.t 9), none⟩,
        ⟨some 11, .eqv true (.ints [.i, .i, .i, .i, .i, .i]) (.t 8) (.t 10), none⟩,
        ⟨some 12, .mv (.t 11), none⟩,
        ⟨some 13, .fa 6 (.t 2), some (12, false)⟩,
        ⟨some 14, .lds (.t 13), some (12, false)⟩,
        ⟨some 15, .fa 6 (.t 3), some (12, false)⟩,
        ⟨some 16, .lds (.t 15), some (12, false)⟩,
        ⟨some 17, .bin .neq (.t 14) (.t 16), some (12, false)⟩,
        ⟨some 18, .pick (.t 12) (.c (.bool true)) (.t 17), none⟩,
        ⟨some 19, .mv (.t 18), none⟩,
        ⟨some 20, .fa 7 (.t 2), some (19, false)⟩,
        ⟨some 21, .lds (.t 20), some (19, false)⟩,
        ⟨some 22, .fa 7 (.t 3), some (19, false)⟩,
        ⟨some 23, .lds (.t 22), some (19, false)⟩,
        ⟨some 24, .bin .neq (.t 21) (.t 23), some (19, false)⟩,
        ⟨some 25, .pick (.t 19) (.c (.bool true)) (.t 24), none⟩,
        ⟨some 26, .mv (.t 25), none⟩,
        ⟨some 27, .fa 9 (.t 2), some (26, false)⟩,
        ⟨some 28, .lds (.t 27), some (26, false)⟩,
        ⟨some 29, .fa 9 (.t 3), some (26, false)⟩,
        ⟨some 30, .lds (.t 29), some (26, false)⟩,
        ⟨some 31, .bin .neq (.t 28) (.t 30), some (26, false)⟩,
        ⟨some 32, .pick (.t 26) (.c (.bool true)) (.t 31), none⟩,
        ⟨some 33, .mv (.t 32), none⟩,
        ⟨some 34, .fa 10 (.t 2), some (33, false)⟩,
        ⟨some 35, .lds (.t 34), some (33, false)⟩,
        ⟨some 36, .fa 10 (.t 3), some (33, false)⟩,
        ⟨some 37, .lds (.t 36), some (33, false)⟩,
        ⟨some 38, .bin .neq (.t 35) (.t 37), some (33, false)⟩,
        ⟨some 39, .pick (.t 33) (.c (.bool true)) (.t 38), none⟩,
        ⟨some 40, .mv (.t 39), none⟩,
        ⟨some 41, .fa 8 (.t 2), some (40, false)⟩,
        ⟨some 42, .lds (.t 41), some (40, false)⟩,
        ⟨some 43, .len .slice (.t 42), some (40, false)⟩,
        ⟨some 44, .fa 8 (.t 3), some (40, false)⟩,
        ⟨some 45, .lds (.t 44), some (40, false)⟩,
        ⟨some 46, .len .slice (.t 45), some (40, false)⟩,
        ⟨some 47, .bin .neq (.t 43) (.t 46), some (40, false)⟩,
        ⟨some 48, .pick (.t 40) (.c (.bool true)) (.t 47), none⟩,
        ⟨some 49, .mv (.t 48), none⟩,
        ⟨some 50, .fa 11 (.t 2), some (49, false)⟩,
        ⟨some 51, .lds (.t 50), some (49, false)⟩,
        ⟨some 52, .len .slice (.t 51), some (49, false)⟩,
        ⟨some 53, .fa 11 (.t 3), some (49, false)⟩,
        ⟨some 54, .lds (.t 53), some (49, false)⟩,
        ⟨some 55, .len .slice (.t 54), some (49, false)⟩,
        ⟨some 56, .bin .neq (.t 52) (.t 55), some (49, false)⟩,
        ⟨some 57, .pick (.t 49) (.c (.bool true)) (.t 56), none⟩])
    (.seq (.prune [2, 3, 57]) (.cond (.t 57) (.seq (.reg [
          ⟨some 4, .mv (.c (.bool false)), none⟩])
      (.ret))
    (.skip))))
  (.seq (.prune [2, 3]) (.seq (.seq (.reg [
        ⟨some 5, .mv (.c (.int .i64 0)), none⟩])
    (.seq (.prune [2, 3, 5]) (.block 0 (.loop [5, 2, 3] (.seq (.seq (.reg [
              ⟨some 58, .mv (.t 5), none⟩,
              ⟨some 59, .fa 8 (.t 2), none⟩,
              ⟨some 60, .lds (.t 59), none⟩,
              ⟨some 61, .len .slice (.t 60), none⟩,
              ⟨some 62, .bin .lss (.t 58) (.t 61), none⟩])
          (.seq (.prune [2, 3, 5, 62]) (.cond (.t 62) (.skip)
          (.exit 0))))
        (.seq (.prune [2, 3, 5]) (.seq (.block 1 (.seq (.draw 0 [
                (⟨some 65, .fa 8 (.t 2), none⟩, 0, []),
                (⟨some 66, .lds (.t 65), none⟩, 0, [0]),
                (⟨some 67, .mv (.t 5), none⟩, 0, []),
                (⟨some 68, .ia 12 (.t 66) (.t 67), none⟩, 0, [0, 1, 2]),
                (⟨some 69, .lda 12 (.t 68), none⟩, 0, [0, 1, 2, 3]),
                (⟨some 70, .fa 8 (.t 3), none⟩, 0, []),
                (⟨some 71, .lds (.t 70), none⟩, 0, [5]),
                (⟨some 72, .mv (.t 5), none⟩, 0, []),
                (⟨some 73, .ia 12 (.t 71) (.t 72), none⟩, 0, [5, 6, 7]),
                (⟨some 74, .lda 12 (.t 73), none⟩, 0, [5, 6, 7, 8]),
                (⟨some 75, .call false 26 [(.t 69), (.t 74)], none⟩, 0, [0, 1, 2, 3, 4, 5, 6, 7, 8, 9]),
                (⟨some 76, .un .not (.t 75), none⟩, 0, [0, 1, 2, 3, 4, 5, 6, 7, 8, 9, 10])])
            (.seq (.prune [2, 3, 5, 76]) (.cond (.t 76) (.seq (.reg [
                  ⟨some 4, .mv (.c (.bool false)), none⟩])
              (.ret))
            (.skip)))))
        (.seq (.prune [2, 3, 5]) (.reg [
          ⟨some 63, .mv (.t 5), none⟩,
          ⟨some 64, .bin .add (.t 63) (.c (.int .i64 1)), none⟩,
          ⟨some 5, .mv (.t 64), none⟩])))))))))
  (.seq (.prune [2, 3]) (.seq (.seq (.reg [
        ⟨some 6, .mv (.c (.int .i64 0)), none⟩])
    (.seq (.prune [2, 3, 6]) (.block 2 (.loop [6, 2, 3] (.seq (.seq (.reg [
              ⟨some 77, .mv (.t 6), none⟩,
              ⟨some 78, .fa 11 (.t 2), none⟩,
              ⟨some 79, .lds (.t 78), none⟩,
              ⟨some 80, .len .slice (.t 79), none⟩,
              ⟨some 81, .bin .lss (.t 77) (.t 80), none⟩])
          (.seq (.prune [2, 3, 6, 81]) (.cond (.t 81) (.skip)
          (.exit 2))))
        (.seq (.prune [2, 3, 6]) (.seq (.block 3 (.seq (.draw 0 [
                (⟨some 84, .fa 11 (.t 2), none⟩, 0, []),
                (⟨some 85, .lds (.t 84), none⟩, 0, [0]),
                (⟨some 86, .mv (.t 6), none⟩, 0, []),
                (⟨some 87, .ia 12 (.t 85) (.t 86), none⟩, 0, [0, 1, 2]),
                (⟨some 88, .lda 12 (.t 87), none⟩, 0, [0, 1, 2, 3]),
                (⟨some 89, .fa 11 (.t 3), none⟩, 0, []),
                (⟨some 90, .lds (.t 89), none⟩, 0, [5]),
                (⟨some 91, .mv (.t 6), none⟩, 0, []),
                (⟨some 92, .ia 12 (.t 90) (.t 91), none⟩, 0, [5, 6, 7]),
                (⟨some 93, .lda 12 (.t 92), none⟩, 0, [5, 6, 7, 8]),
                (⟨some 94, .call false 26 [(.t 88), (.t 93)], none⟩, 0, [0, 1, 2, 3, 4, 5, 6, 7, 8, 9]),
                (⟨some 95, .un .not (.t 94), none⟩, 0, [0, 1, 2, 3, 4, 5, 6, 7, 8, 9, 10])])
            (.seq (.prune [2, 3, 6, 95]) (.cond (.t 95) (.seq (.reg [
                  ⟨some 4, .mv (.c (.bool false)), none⟩])
              (.ret))
            (.skip)))))
        (.seq (.prune [2, 3, 6]) (.reg [
          ⟨some 82, .mv (.t 6), none⟩,
          ⟨some 83, .bin .add (.t 82) (.c (.int .i64 1)), none⟩,
          ⟨some 6, .mv (.t 83), none⟩])))))))))
  (.seq (.prune []) (.seq (.reg [
      ⟨some 4, .mv (.c (.bool true)), none⟩])
  (.ret))))))))),
  [.t 4]⟩
/-- bezel/coerce.Pass -/
def a27 : AFunc := ⟨.seq (.reg [
      ⟨some 1, .box (.t 0), none⟩,
      ⟨some 2, .mv (.c (.bool false)), none⟩])
  (.seq (.prune [1]) (.seq (.reg [
      ⟨some 3, .fa 0 (.t 1), none⟩,
      ⟨some 4, .lda 6 (.t 3), none⟩,
      ⟨some 5, .build [.int .i64 0, .int .i64 0, .int .i64 0, .int .i64 0, .int .i64 0, .int .i64 0] [], none⟩,
      ⟨some 6, .eqv false (.ints [.i, .i, .i, .i, .i, .i]) (.t 4) (.t 5), none⟩,
      ⟨some 7, .mv (.t 6), none⟩,
      ⟨some 8, .fa 6 (.t 1), some (7, true)⟩,
      ⟨some 9, .lds (.t 8), some (7, true)⟩,
      ⟨some 10, .bin .eql (.t 9) (.c (.int .i64 0)), some (7, true)⟩,
      ⟨some 11, .pick (.t 7) (.t 10) (.c (.bool false)), none⟩,
      ⟨some 12, .mv (.t 11), none⟩,
      ⟨some 13, .fa 7 (.t 1), some (12, true)⟩,
      ⟨some 14, .lds (.t 13), some (12, true)⟩,
      ⟨some 15, .bin .eql (.t 14) (.c (.int .i64 0)), some (12, true)⟩,
      ⟨some 16, .pick (.t 12) (.t 15) (.c (.bool false)), none⟩,
      ⟨some 17, .mv (.t 16), none⟩,
      ⟨some 18, .fa 8 (.t 1), some (17, true)⟩,
      ⟨some 19, .lds (.t 18), some (17, true)⟩,
      ⟨some 20, .len .slice (.t 19), some (17, true)⟩,
      ⟨some 21, .bin .eql (.t 20) (.c (.int .i64 0)), some (17, true)⟩,
      ⟨some 22, .pick (.t 17) (.t 21) (.c (.bool false)), none⟩,
      ⟨some 23, .mv (.t 22), none⟩,
      ⟨some 24, .fa 9 (.t 1), some (23, true)⟩,
      ⟨some 25, .lds (.t 24), some (23, true)⟩,
      ⟨some 26, .bin .eql (.t 25) (.c (.int .i64 0)), some (23, true)⟩,
      ⟨some 27, .pick (.t 23) (.t 26) (.c (.bool false)), none⟩,
      ⟨some 28, .mv (.t 27), none⟩,
      ⟨some 29, .fa 10 (.t 1), some (28, true)⟩,
      ⟨some 30, .lds (.t 29), some (28, true)⟩,
      ⟨some 31, .bin .eql (.t 30) (.c (.int .i64 0)), some (28, true)⟩,
      ⟨some 32, .pick (.t 28) (.t 31) (.c (.bool false)), none⟩,
      ⟨some 33, .mv (.t 32), none⟩,
      ⟨some 34, .fa 11 (.t 1), some (33, true)⟩,
      ⟨some 35, .lds (.t 34), some (33, true)⟩,
      ⟨some 36, .len .slice (.t 35), some (33, true)⟩,
      ⟨some 37, .bin .eql (.t 36) (.c (.int .i64 0)), some (33, true)⟩,
      ⟨some 38, .pick (.t 33) (.t 37) (.c (.bool false)), none⟩,
      ⟨some 2, .mv (.t 38), none⟩])
  (.ret))),
  [.t 2]⟩
/-- bezel/bezelref07.Pass -/
def a28 : AFunc := ⟨.seq (.reg [
      ⟨some 1, .box (.t 0), none⟩,
      ⟨some 2, .mv (.c (.bool false)), none⟩])
  (.seq (.prune [1]) (.seq (.reg [
      ⟨some 3, .lda 12 (.t 1), none⟩,
      ⟨some 4, .call false 53 [(.t 3)], none⟩,
      ⟨some 5, .mv (.t 4), none⟩,
      ⟨some 6, .fa 6 (.t 1), some (5, true)⟩,
      ⟨some 7, .lds (.t 6), some (5, true)⟩,
      ⟨some 8, .bin .eql (.t 7) (.c (.int .i64 0)), some (5, true)⟩,
      ⟨some 9, .pick (.t 5) (.t 8) (.c (.bool false)), none⟩,
      ⟨some 10, .mv (.t 9), none⟩,
      ⟨some 11, .fa 7 (.t 1), some (10, true)⟩,
      ⟨some 12, .lds (.t 11), some (10, true)⟩,
      ⟨some 13, .bin .eql (.t 12) (.c (.int .i64 0)), some (10, true)⟩,
      ⟨some 14, .pick (.t 10) (.t 13) (.c (.bool false)), none⟩,
      ⟨some 15, .mv (.t 14), none⟩,
      ⟨some 16, .fa 8 (.t 1), some (15, true)⟩,
      ⟨some 17, .lds (.t 16), some (15, true)⟩,
      ⟨some 18, .len .slice (.t 17), some (15, true)⟩,
      ⟨some 19, .bin .eql (.t 18) (.c (.int .i64 0)), some (15, true)⟩,
      ⟨some 20, .pick (.t 15) (.t 19) (.c (.bool false)), none⟩,
      ⟨some 21, .mv (.t 20), none⟩,
      ⟨some 22, .fa 9 (.t 1), some (21, true)⟩,
      ⟨some 23, .lds (.t 22), some (21, true)⟩,
      ⟨some 24, .bin .eql (.t 23) (.c (.int .i64 0)), some (21, true)⟩,
      ⟨some 25, .pick (.t 21) (.t 24) (.c (.bool false)), none⟩,
      ⟨some 26, .mv (.t 25), none⟩,
      ⟨some 27, .fa 10 (.t 1), some (26, true)⟩,
      ⟨some 28, .lds (.t 27), some (26, true)⟩,
      ⟨some 29, .bin .eql (.t 28) (.c (.int .i64 0)), some (26, true)⟩,
      ⟨some 30, .pick (.t 26) (.t 29) (.c (.bool false)), none⟩,
      ⟨some 31, .mv (.t 30), none⟩,
      ⟨some 32, .fa 11 (.t 1), some (31, true)⟩,
      ⟨some 33, .lds (.t 32), some (31, true)⟩,
      ⟨some 34, .len .slice (.t 33), some (31, true)⟩,
      ⟨some 35, .bin .eql (.t 34) (.c (.int .i64 0)), some (31, true)⟩,
      ⟨some 36, .pick (.t 31) (.t 35) (.c (.bool false)), none⟩,
      ⟨some 2, .mv (.t 36), none⟩])
  (.ret))),
  [.t 2]⟩
/-- bezel/bezelref07.Height -/
def a29 : AFunc := ⟨.seq (.reg [
      ⟨some 1, .box (.t 0), none⟩,
      ⟨some 2, .mv (.c (.int .i64 0)), none⟩])
  (.seq (.prune [1]) (.seq (.reg [
      ⟨some 3, .mv (.c (.int .i64 0)), none⟩])
  (.seq (.prune [1, 3]) (.seq (.seq (.reg [
        ⟨some 4, .mv (.c (.int .i64 0)), none⟩])
    (.seq (.prune [1, 3, 4]) (.block 0 (.loop [3, 4, 1] (.seq (.seq (.reg [
              ⟨some 6, .mv (.t 4), none⟩,
              ⟨some 7, .fa 8 (.t 1), none⟩,
              ⟨some 8, .lds (.t 7), none⟩,
              ⟨some 9, .len .slice (.t 8), none⟩,
              ⟨some 10, .bin .lss (.t 6) (.t 9), none⟩])
          (.seq (.prune [1, 3, 4, 10]) (.cond (.t 10) (.skip)
          (.exit 0))))
        (.seq (.prune [1, 3, 4]) (.seq (.block 1 (.reg [
              ⟨some 13, .mv (.t 3), none⟩,
              ⟨some 14, .fa 8 (.t 1), none⟩,
              ⟨some 15, .lds (.t 14), none⟩,
              ⟨some 16, .mv (.t 4), none⟩,
              ⟨some 17, .ia 12 (.t 15) (.t 16), none⟩,
              ⟨some 18, .lda 12 (.t 17), none⟩,
              ⟨some 19, .call false 29 [(.t 18)], none⟩,
              ⟨some 20, .mm true (.t 13) (.t 19), none⟩,
              ⟨some 3, .mv (.t 20), none⟩]))
        (.seq (.prune [1, 3, 4]) (.reg [
          ⟨some 11, .mv (.t 4), none⟩,
          ⟨some 12, .bin .add (.t 11) (.c (.int .i64 1)), none⟩,
          ⟨some 4, .mv (.t 12), none⟩])))))))))
  (.seq (.prune [1, 3]) (.seq (.seq (.reg [
        ⟨some 5, .mv (.c (.int .i64 0)), none⟩])
    (.seq (.prune [1, 3, 5]) (.block 2 (.loop [3, 5, 1] (.seq (.seq (.reg [
              ⟨some 21, .mv (.t 5), none⟩,
              ⟨some 22, .fa 11 (.t 1), none⟩,
              ⟨some 23, .lds (.t 22), none⟩,
              ⟨some 24, .len .slice (.t 23), none⟩,
              ⟨some 25, .bin .lss (.t 21) (.t 24), none⟩])
          (.seq (.prune [1, 3, 5, 25]) (.cond (.t 25) (.skip)
          (.exit 2))))
        (.seq (.prune [1, 3, 5]) (.seq (.block 3 (.reg [
              ⟨some 28, .mv (.t 3), none⟩,
              ⟨some 29, .fa 11 (.t 1), none⟩,
              ⟨some 30, .lds (.t 29), none⟩,
              ⟨some 31, .mv (.t 5), none⟩,
              ⟨some 32, .ia 12 (.t 30) (.t 31), none⟩,
              ⟨some 33, .lda 12 (.t 32), none⟩,
              ⟨some 34, .call false 29 [(.t 33)], none⟩,
              ⟨some 35, .mm true (.t 28) (.t 34), none⟩,
              ⟨some 3, .mv (.t 35), none⟩]))
        (.seq (.prune [1, 3, 5]) (.reg [
          ⟨some 26, .mv (.t 5), none⟩,
          ⟨some 27, .bin .add (.t 26) (.c (.int .i64 1)), none⟩,
          ⟨some 5, .mv (.t 27), none⟩])))))))))
  (.seq (.prune [3]) (.seq (.reg [
      ⟨some 36, .mv (.t 3), none⟩,
      ⟨some 37, .bin .add (.t 36) (.c (.int .i64 1)), none⟩,
      ⟨some 2, .mv (.t 37), none⟩])
  (.ret))))))))),
  [.t 2]⟩
/-- bezel/bezelref07.Size -/
def a30 : AFunc := ⟨.seq (.reg [
      ⟨some 1, .box (.t 0), none⟩,
      ⟨some 2, .mv (.c (.int .i64 0)), none⟩])
  (.seq (.prune [1]) (.seq (.reg [
      ⟨some 3, .mv (.c (.int .i64 1)), none⟩])
  (.seq (.prune [1, 3]) (.seq (.seq (.reg [
        ⟨some 4, .mv (.c (.int .i64 0)), none⟩])
    (.seq (.prune [1, 3, 4]) (.block 0 (.loop [3, 4, 1] (.seq (.seq (.reg [
              ⟨some 6, .mv (.t 4), none⟩,
              ⟨some 7, .fa 8 (.t 1), none⟩,
              ⟨some 8, .lds (.t 7), none⟩,
              ⟨some 9, .len .slice (.t 8), none⟩,
              ⟨some 10, .bin .lss (.t 6) (.t 9), none⟩])
          (.seq (.prune [1, 3, 4, 10]) (.cond (.t 10) (.skip)
          (.exit 0))))
        (.seq (.prune [1, 3, 4]) (.seq (.block 1 (.reg [
              ⟨some 13, .mv (.t 3), none⟩,
              ⟨some 14, .fa 8 (.t 1), none⟩,
              ⟨some 15, .lds (.t 14), none⟩,
              ⟨some 16, .mv (.t 4), none⟩,
              ⟨some 17, .ia 12 (.t 15) (.t 16), none⟩,
              ⟨some 18, .lda 12 (.t 17), none⟩,
              ⟨some 19, .call false 30 [(.t 18)], none⟩,
              ⟨some 20, .bin .add (.t 13) (.t 19), none⟩,
              ⟨some 3, .mv (.t 20), none⟩]))
        (.seq (.prune [1, 3, 4]) (.reg [
          ⟨some 11, .mv (.t 4), none⟩,
          ⟨some 12, .bin .add (.t 11) (.c (.int .i64 1)), none⟩,
          ⟨some 4, .mv (.t 12), none⟩])))))))))
  (.seq (.prune [1, 3]) (.seq (.seq (.reg [
        ⟨some 5, .mv (.c (.int .i64 0)), none⟩])
    (.seq (.prune [1, 3, 5]) (.block 2 (.loop [3, 5, 1] (.seq (.seq (.reg [
              ⟨some 21, .mv (.t 5), none⟩,
              ⟨some 22, .fa 11 (.t 1), none⟩,
              ⟨some 23, .lds (.t 22), none⟩,
              ⟨some 24, .len .slice (.t 23), none⟩,
              ⟨some 25, .bin .lss (.t 21) (.t 24), none⟩])
          (.seq (.prune [1, 3, 5, 25]) (.cond (.t 25) (.skip)
          (.exit 2))))
        (.seq (.prune [1, 3, 5]) (.seq (.block 3 (.reg [
              ⟨some 28, .mv (.t 3), none⟩,
              ⟨some 29, .fa 11 (.t 1), none⟩,
              ⟨some 30, .lds (.t 29), none⟩,
              ⟨some 31, .mv (.t 5), none⟩,
              ⟨some 32, .ia 12 (.t 30) (.t 31), none⟩,
              ⟨some 33, .lda 12 (.t 32), none⟩,
              ⟨some 34, .call false 30 [(.t 33)], none⟩,
              ⟨some 35, .bin .add (.t 28) (.t 34), none⟩,
              ⟨some 3, .mv (.t 35), none⟩]))
        (.seq (.prune [1, 3, 5]) (.reg [
          ⟨some 26, .mv (.t 5), none⟩,
          ⟨some 27, .bin .add (.t 26) (.c (.int .i64 1)), none⟩,
          ⟨some 5, .mv (.t 27), none⟩])))))))))
  (.seq (.prune [3]) (.seq (.reg [
      ⟨some 36, .mv (.t 3), none⟩,
      ⟨some 2, .mv (.t 36), none⟩])
  (.ret))))))))),
  [.t 2]⟩
/-- bezel/coerce.Car -/
def a31 : AFunc := ⟨.seq (.reg [
      ⟨some 1, .box (.t 0), none⟩,
      ⟨some 2, .alloc [.int .i64 0, .int .i64 0, .int .i64 0, .int .i64 0, .int .i64 0, .int .i64 0, .int .i64 0, .int .i64 0, .lst [] true, .int .i64 0, .int .i64 0, .lst [] true], none⟩])
  (.seq (.prune [1, 2]) (.seq (.seq (.reg [
        ⟨some 3, .fa 6 (.t 1), none⟩,
        ⟨some 4, .lds (.t 3), none⟩,
        ⟨some 5, .bin .lss (.t 4) (.c (.int .i64 2)), none⟩])
    (.seq (.prune [1, 2, 5]) (.cond (.t 5) (.seq (.reg [
          ⟨some 6, .build [.int .i64 0, .int .i64 0, .int .i64 0, .int .i64 0, .int .i64 0, .int .i64 0, .int .i64 0, .int .i64 0, .lst [] true, .int .i64 0, .int .i64 0, .lst [] true] [], none⟩,
          ⟨none, .sta 12 (.t 2) (.t 6), none⟩])
      (.ret))
    (.skip))))
  (.seq (.prune [1, 2]) (.seq (.reg [
      ⟨some 7, .fa 8 (.t 1), none⟩,
      ⟨some 8, .lds (.t 7), none⟩,
      ⟨some 9, .ia 12 (.t 8) (.c (.int .i64 0)), none⟩,
      ⟨some 10, .lda 12 (.t 9), none⟩,
      ⟨none, .sta 12 (.t 2) (.t 10), none⟩])
  (.ret))))),
  [.ca 2 12]⟩
/-- bezel/bezelref07.Car -/
def a32 : AFunc := ⟨.seq (.reg [
      ⟨some 1, .box (.t 0), none⟩,
      ⟨some 2, .alloc [.int .i64 0, .int .i64 0, .int .i64 0, .int .i64 0, .int .i64 0, .int .i64 0, .int .i64 0, .int .i64 0, .lst [] true, .int .i64 0, .int .i64 0, .lst [] true], none⟩])
  (.seq (.prune [1, 2]) (.seq (.seq (.reg [
        ⟨some 3, .fa 6 (.t 1), none⟩,
        ⟨some 4, .lds (.t 3), none⟩,
        ⟨some 5, .bin .lss (.t 4) (.c (.int .i64 2)), none⟩])
    (.seq (.prune [1, 2, 5]) (.cond (.t 5) (.seq (.reg [
          ⟨some 6, .build [.int .i64 0, .int .i64 0, .int .i64 0, .int .i64 0, .int .i64 0, .int .i64 0, .int .i64 0, .int .i64 0, .lst [] true, .int .i64 0, .int .i64 0, .lst [] true] [], none⟩,
          ⟨none, .sta 12 (.t 2) (.t 6), none⟩])
      (.ret))
    (.skip))))
  (.seq (.prune [1, 2]) (.seq (.reg [
      ⟨some 7, .fa 8 (.t 1), none⟩,
      ⟨some 8, .lds (.t 7), none⟩,
      ⟨some 9, .ia 12 (.t 8) (.c (.int .i64 0)), none⟩,
      ⟨some 10, .lda 12 (.t 9), none⟩,
      ⟨none, .sta 12 (.t 2) (.t 10), none⟩])
  (.ret))))),
  [.ca 2 12]⟩
/-- bezel/coerce.Cdr -/
def a33 : AFunc := ⟨.seq (.reg [
      ⟨some 1, .box (.t 0), none⟩,
      ⟨some 2, .alloc [.int .i64 0, .int .i64 0, .int .i64 0, .int .i64 0, .int .i64 0, .int .i64 0, .int .i64 0, .int .i64 0, .lst [] true, .int .i64 0, .int .i64 0, .lst [] true], none⟩])
  (.seq (.prune [1, 2]) (.seq (.seq (.reg [
        ⟨some 5, .fa 6 (.t 1), none⟩,
        ⟨some 6, .lds (.t 5), none⟩])
    (.seq (.prune [1, 2, 6]) (.block 0 (.seq (.reg [
          ⟨some 8, .bin .eql (.t 6) (.c (.int .i64 2)), none⟩,
          ⟨some 7, .mv (.t 8), none⟩])
      (.seq (.prune [1, 2, 6, 7]) (.cond (.t 7) (.seq (.reg [
            ⟨some 9, .fa 8 (.t 1), none⟩,
            ⟨some 10, .lds (.t 9), none⟩,
            ⟨some 11, .ia 12 (.t 10) (.c (.int .i64 1)), none⟩,
            ⟨some 12, .lda 12 (.t 11), none⟩,
            ⟨none, .sta 12 (.t 2) (.t 12), none⟩])
        (.ret))
      (.seq (.reg [
            ⟨some 14, .bin .eql (.t 6) (.c (.int .i64 3)), none⟩,
            ⟨some 13, .mv (.t 14), none⟩])
        (.seq (.prune [1, 2, 13]) (.cond (.t 13) (.seq (.reg [
              ⟨some 15, .fa 7 (.t 1), none⟩,
              ⟨some 16, .lds (.t 15), none⟩,
              ⟨some 3, .mv (.t 16), none⟩])
          (.seq (.prune [1, 2, 3]) (.seq (.reg [
              ⟨some 17, .mv (.t 3), none⟩,
              ⟨some 18, .mv (.t 3), none⟩,
              ⟨some 19, .mv (.t 3), none⟩,
              ⟨some 20, .mv (.t 3), none⟩,
              ⟨some 21, .mv (.t 3), none⟩,
              ⟨some 22, .build [.int .i64 0, .int .i64 0, .int .i64 0, .int .i64 0, .int .i64 0, .int .i64 0] [(0, 1, (.t 17)), (1, 1, (.t 18)), (2, 1, (.t 19)), (3, 1, (.t 20)), (4, 1, (.c (.int .i64 0))), (5, 1, (.t 21))], none⟩,
              ⟨some 23, .mv (.t 3), none⟩,
              ⟨some 24, .fa 8 (.t 1), none⟩,
              ⟨some 25, .lds (.t 24), none⟩,
              ⟨some 26, .build [.int .i64 0, .int .i64 0, .int .i64 0, .int .i64 0, .int .i64 0, .int .i64 0, .int .i64 0, .int .i64 0, .lst [] true, .int .i64 0, .int .i64 0, .lst [] true] [(0, 6, (.t 22)), (6, 1, (.c (.int .i64 3))), (7, 1, (.t 23)), (8, 1, (.t 25))], none⟩,
              ⟨some 4, .alloc [.int .i64 0, .int .i64 0, .int .i64 0, .int .i64 0, .int .i64 0, .int .i64 0, .int .i64 0, .int .i64 0, .lst [] true, .int .i64 0, .int .i64 0, .lst [] true], none⟩,
              ⟨none, .sta 12 (.t 4) (.t 26), none⟩])
          (.seq (.prune [2, 3, 4]) (.seq (.seq (.reg [
                ⟨some 27, .mv (.t 3), none⟩,
                ⟨some 28, .bin .neq (.t 27) (.c (.int .i64 0)), none⟩])
            (.seq (.prune [2, 3, 4, 28]) (.cond (.t 28) (.reg [
                ⟨some 29, .mv (.t 3), none⟩,
                ⟨some 30, .fa 9 (.t 4), none⟩,
                ⟨none, .sts (.t 30) (.c (.int .i64 1)), none⟩,
                ⟨some 31, .fa 10 (.t 4), none⟩,
                ⟨none, .sts (.t 31) (.t 29), none⟩])
            (.skip))))
          (.seq (.prune [2, 4]) (.seq (.reg [
              ⟨some 32, .lda 12 (.t 4), none⟩,
              ⟨none, .sta 12 (.t 2) (.t 32), none⟩])
          (.ret))))))))
        (.skip))))))))))
  (.seq (.prune [2]) (.seq (.reg [
      ⟨some 33, .build [.int .i64 0, .int .i64 0, .int .i64 0, .int .i64 0, .int .i64 0, .int .i64 0, .int .i64 0, .int .i64 0, .lst [] true, .int .i64 0, .int .i64 0, .lst [] true] [], none⟩,
      ⟨none, .sta 12 (.t 2) (.t 33), none⟩])
  (.ret))))),
  [.ca 2 12]⟩
/-- bezel/bezelref07.Cdr -/
def a34 : AFunc := ⟨.seq (.reg [
      ⟨some 1, .box (.t 0), none⟩,
      ⟨some 2, .alloc [.int .i64 0, .int .i64 0, .int .i64 0, .int .i64 0, .int .i64 0, .int .i64 0, .int .i64 0, .int .i64 0, .lst [] true, .int .i64 0, .int .i64 0, .lst [] true], none⟩])
  (.seq (.prune [1, 2]) (.seq (.seq (.reg [
        ⟨some 3, .fa 6 (.t 1), none⟩,
        ⟨some 4, .lds (.t 3), none⟩,
        ⟨some 5, .bin .lss (.t 4) (.c (.int .i64 2)), none⟩])
    (.seq (.prune [1, 2, 5]) (.cond (.t 5) (.seq (.reg [
          ⟨some 6, .build [.int .i64 0, .int .i64 0, .int .i64 0, .int .i64 0, .int .i64 0, .int .i64 0, .int .i64 0, .int .i64 0, .lst [] true, .int .i64 0, .int .i64 0, .lst [] true] [], none⟩,
          ⟨none, .sta 12 (.t 2) (.t 6), none⟩])
      (.ret))
    (.skip))))
  (.seq (.prune [1, 2]) (.seq (.seq (.reg [
        ⟨some 7, .fa 6 (.t 1), none⟩,
        ⟨some 8, .lds (.t 7), none⟩,
        ⟨some 9, .bin .eql (.t 8) (.c (.int .i64 2)), none⟩])
    (.seq (.prune [1, 2, 9]) (.cond (.t 9) (.seq (.reg [
          ⟨some 10, .fa 8 (.t 1), none⟩,
          ⟨some 11, .lds (.t 10), none⟩,
          ⟨some 12, .ia 12 (.t 11) (.c (.int .i64 1)), none⟩,
          ⟨some 13, .lda 12 (.t 12), none⟩,
          ⟨none, .sta 12 (.t 2) (.t 13), none⟩])
      (.ret))
    (.skip))))
  (.seq (.prune [1, 2]) (.seq (.draw 0 [
      (⟨some 14, .fa 8 (.t 1), none⟩, 0, []),
      (⟨some 15, .lds (.t 14), none⟩, 0, [0]),
      (⟨some 16, .ia 12 (.t 15) (.c (.int .i64 0)), none⟩, 0, [0, 1]),
      (⟨some 17, .lda 12 (.t 16), none⟩, 0, [0, 1, 2]),
      (⟨some 18, .fa 7 (.t 1), none⟩, 0, []),
      (⟨some 19, .lds (.t 18), none⟩, 0, [4]),
      (⟨some 20, .call false 54 [(.t 17), (.t 19)], none⟩, 0, [0, 1, 2, 3, 4, 5]),
      (⟨none, .sta 12 (.t 2) (.t 20), none⟩, 0, [0, 1, 2, 3, 4, 5, 6])])
  (.ret))))))),
  [.ca 2 12]⟩
/-- bezel/bezelref07.First -/
def a35 : AFunc := ⟨.seq (.reg [
      ⟨some 2, .box (.t 0), none⟩,
      ⟨some 4, .mv (.c (.int .i64 0)), none⟩])
  (.seq (.prune [1, 2]) (.seq (.reg [
      ⟨some 5, .mv (.c (.int .i64 1)), none⟩])
  (.seq (.prune [1, 2, 5]) (.seq (.seq (.reg [
        ⟨some 6, .mv (.c (.int .i64 0)), none⟩])
    (.seq (.prune [1, 2, 5, 6]) (.block 0 (.loop [5, 6, 1, 2] (.seq (.seq (.reg [
              ⟨some 7, .mv (.t 6), none⟩,
              ⟨some 8, .bin .lss (.t 7) (.c (.int .i64 6)), none⟩])
          (.seq (.prune [1, 2, 5, 6, 8]) (.cond (.t 8) (.skip)
          (.exit 0))))
        (.seq (.prune [1, 2, 5, 6]) (.seq (.block 1 (.seq (.seq (.reg [
                  ⟨some 11, .mv (.t 1), none⟩,
                  ⟨some 12, .mv (.t 5), none⟩,
                  ⟨some 13, .bin .eql (.t 11) (.t 12), none⟩])
              (.seq (.prune [1, 2, 5, 6, 13]) (.cond (.t 13) (.seq (.reg [
                    ⟨some 14, .mv (.t 6), none⟩,
                    ⟨some 15, .fa 0 (.t 2), none⟩,
                    ⟨some 16, .iaa 6 1 (.t 15) (.t 14), none⟩,
                    ⟨some 17, .lds (.t 16), none⟩,
                    ⟨some 4, .mv (.t 17), none⟩])
                (.ret))
              (.skip))))
            (.seq (.prune [1, 2, 5, 6]) (.reg [
              ⟨some 18, .mv (.t 5), none⟩,
              ⟨some 19, .bin .mul (.c (.int .i64 2)) (.t 18), none⟩,
              ⟨some 5, .mv (.t 19), none⟩]))))
        (.seq (.prune [1, 2, 5, 6]) (.reg [
          ⟨some 9, .mv (.t 6), none⟩,
          ⟨some 10, .bin .add (.t 9) (.c (.int .i64 1)), none⟩,
          ⟨some 6, .mv (.t 10), none⟩])))))))))
  (.seq (.prune [1, 2]) (.seq (.seq (.reg [
        ⟨some 20, .mv (.t 1), none⟩,
        ⟨some 21, .bin .eql (.t 20) (.c (.int .i64 64)), none⟩,
        ⟨some 22, .mv (.t 21), none⟩,
        ⟨some 23, .fa 6 (.t 2), some (22, true)⟩,
        ⟨some 24, .lds (.t 23), some (22, true)⟩,
        ⟨some 25, .bin .eql (.t 24) (.c (.int .i64 1)), some (22, true)⟩,
        ⟨some 26, .pick (.t 22) (.t 25) (.c (.bool false)), none⟩])
    (.seq (.prune [1, 2, 26]) (.cond (.t 26) (.seq (.reg [
          ⟨some 27, .fa 7 (.t 2), none⟩,
          ⟨some 28, .lds (.t 27), none⟩,
          ⟨some 4, .mv (.t 28), none⟩])
      (.ret))
    (.skip))))
  (.seq (.prune [1, 2]) (.seq (.seq (.reg [
        ⟨some 29, .mv (.t 1), none⟩,
        ⟨some 30, .bin .eql (.t 29) (.c (.int .i64 128)), none⟩,
        ⟨some 31, .mv (.t 30), none⟩,
        ⟨some 32, .fa 9 (.t 2), some (31, true)⟩,
        ⟨some 33, .lds (.t 32), some (31, true)⟩,
        ⟨some 34, .bin .eql (.t 33) (.c (.int .i64 1)), some (31, true)⟩,
        ⟨some 35, .pick (.t 31) (.t 34) (.c (.bool false)), none⟩])
    (.seq (.prune [2, 35]) (.cond (.t 35) (.seq (.reg [
          ⟨some 36, .fa 10 (.t 2), none⟩,
          ⟨some 37, .lds (.t 36), none⟩,
          ⟨some 4, .mv (.t 37), none⟩])
      (.ret))
    (.skip))))
  (.seq (.prune []) (.seq (.reg [
      ⟨some 4, .mv (.c (.int .i64 0)), none⟩])
  (.ret))))))))))),
  [.t 4]⟩
/-- bezel/coerce.Wraps -/
def a36 : AFunc := ⟨.seq (.reg [
      ⟨some 2, .box (.t 0), none⟩,
      ⟨some 4, .mv (.c (.bool false)), none⟩])
  (.seq (.prune [1, 2]) (.seq (.reg [
      ⟨some 5, .mv (.t 1), none⟩,
      ⟨some 6, .bin .eql (.t 5) (.c (.int .i64 64)), none⟩,
      ⟨some 7, .mv (.t 6), none⟩,
      ⟨some 8, .fa 6 (.t 2), some (7, true)⟩,
      ⟨some 9, .lds (.t 8), some (7, true)⟩,
      ⟨some 10, .bin .geq (.t 9) (.c (.int .i64 2)), some (7, true)⟩,
      ⟨some 11, .pick (.t 7) (.t 10) (.c (.bool false)), none⟩,
      ⟨some 12, .mv (.t 11), none⟩,
      ⟨some 13, .mv (.t 1), some (12, false)⟩,
      ⟨some 14, .bin .eql (.t 13) (.c (.int .i64 128)), some (12, false)⟩,
      ⟨some 15, .mv (.t 14), some (12, false)⟩,
      ⟨some 16, .fa 9 (.t 2), some (15, true)⟩,
      ⟨some 17, .lds (.t 16), some (15, true)⟩,
      ⟨some 18, .bin .geq (.t 17) (.c (.int .i64 2)), some (15, true)⟩,
      ⟨some 19, .pick (.t 15) (.t 18) (.c (.bool false)), some (12, false)⟩,
      ⟨some 20, .pick (.t 12) (.c (.bool true)) (.t 19), none⟩,
      ⟨some 4, .mv (.t 20), none⟩])
  (.ret))),
  [.t 4]⟩
/-- bezel/bezelref07.Wraps -/
def a37 : AFunc := ⟨.seq (.reg [
      ⟨some 2, .box (.t 0), none⟩,
      ⟨some 4, .mv (.c (.bool false)), none⟩])
  (.seq (.prune [1, 2]) (.seq (.reg [
      ⟨some 5, .mv (.t 1), none⟩,
      ⟨some 6, .bin .eql (.t 5) (.c (.int .i64 64)), none⟩,
      ⟨some 7, .mv (.t 6), none⟩,
      ⟨some 8, .fa 6 (.t 2), some (7, true)⟩,
      ⟨some 9, .lds (.t 8), some (7, true)⟩,
      ⟨some 10, .bin .geq (.t 9) (.c (.int .i64 2)), some (7, true)⟩,
      ⟨some 11, .pick (.t 7) (.t 10) (.c (.bool false)), none⟩,
      ⟨some 12, .mv (.t 11), none⟩,
      ⟨some 13, .mv (.t 1), some (12, false)⟩,
      ⟨some 14, .bin .eql (.t 13) (.c (.int .i64 128)), some (12, false)⟩,
      ⟨some 15, .mv (.t 14), some (12, false)⟩,
      ⟨some 16, .fa 9 (.t 2), some (15, true)⟩,
      ⟨some 17, .lds (.t 16), some (15, true)⟩,
      ⟨some 18, .bin .geq (.t 17) (.c (.int .i64 2)), some (15, true)⟩,
      ⟨some 19, .pick (.t 15) (.t 18) (.c (.bool false)), some (12, false)⟩,
      ⟨some 20, .pick (.t 12) (.c (.bool true)) (.t 19), none⟩,
      ⟨some 4, .mv (.t 20), none⟩])
  (.ret))),
  [.t 4]⟩
/-- bezel/bezelref05.Size -/
def a38 : AFunc := ⟨.seq (.reg [
      ⟨some 2, .box (.t 0), none⟩,
      ⟨some 4, .mv (.c (.int .i64 0)), none⟩])
  (.seq (.prune [1, 2]) (.seq (.seq (.reg [
        ⟨some 8, .mv (.t 1), none⟩,
        ⟨some 9, .bin .eql (.t 8) (.c (.int .i64 0)), none⟩])
    (.seq (.prune [1, 2, 9]) (.cond (.t 9) (.seq (.reg [
          ⟨some 4, .mv (.c (.int .i64 1000)), none⟩])
      (.ret))
    (.skip))))
  (.seq (.prune [1, 2]) (.seq (.reg [
      ⟨some 5, .mv (.c (.int .i64 1)), none⟩])
  (.seq (.prune [1, 2, 5]) (.seq (.seq (.reg [
        ⟨some 6, .mv (.c (.int .i64 0)), none⟩])
    (.seq (.prune [1, 2, 5, 6]) (.block 0 (.loop [5, 6, 1, 2] (.seq (.seq (.reg [
              ⟨some 10, .mv (.t 6), none⟩,
              ⟨some 11, .fa 3 (.t 2), none⟩,
              ⟨some 12, .lds (.t 11), none⟩,
              ⟨some 13, .len .slice (.t 12), none⟩,
              ⟨some 14, .bin .lss (.t 10) (.t 13), none⟩,
              ⟨some 15, .mv (.t 14), none⟩,
              ⟨some 16, .mv (.t 5), some (15, true)⟩,
              ⟨some 17, .bin .lss (.t 16) (.c (.int .i64 1000)), some (15, true)⟩,
              ⟨some 18, .pick (.t 15) (.t 17) (.c (.bool false)), none⟩])
          (.seq (.prune [1, 2, 5, 6, 18]) (.cond (.t 18) (.skip)
          (.exit 0))))
        (.seq (.prune [1, 2, 5, 6]) (.seq (.block 1 (.reg [
              ⟨some 21, .mv (.t 5), none⟩,
              ⟨some 22, .fa 3 (.t 2), none⟩,
              ⟨some 23, .lds (.t 22), none⟩,
              ⟨some 24, .mv (.t 6), none⟩,
              ⟨some 25, .ia 6 (.t 23) (.t 24), none⟩,
              ⟨some 26, .lda 6 (.t 25), none⟩,
              ⟨some 27, .mv (.t 1), none⟩,
              ⟨some 28, .bin .sub (.t 27) (.c (.int .i64 1)), none⟩,
              ⟨some 29, .call false 38 [(.t 26), (.t 28)], none⟩,
              ⟨some 30, .bin .add (.t 21) (.t 29), none⟩,
              ⟨some 5, .mv (.t 30), none⟩]))
        (.seq (.prune [1, 2, 5, 6]) (.reg [
          ⟨some 19, .mv (.t 6), none⟩,
          ⟨some 20, .bin .add (.t 19) (.c (.int .i64 1)), none⟩,
          ⟨some 6, .mv (.t 20), none⟩])))))))))
  (.seq (.prune [1, 2, 5]) (.seq (.seq (.reg [
        ⟨some 7, .mv (.c (.int .i64 0)), none⟩])
    (.seq (.prune [1, 2, 5, 7]) (.block 2 (.loop [5, 7, 1, 2] (.seq (.seq (.reg [
              ⟨some 31, .mv (.t 7), none⟩,
              ⟨some 32, .fa 5 (.t 2), none⟩,
              ⟨some 33, .lds (.t 32), none⟩,
              ⟨some 34, .len .slice (.t 33), none⟩,
              ⟨some 35, .bin .lss (.t 31) (.t 34), none⟩,
              ⟨some 36, .mv (.t 35), none⟩,
              ⟨some 37, .mv (.t 5), some (36, true)⟩,
              ⟨some 38, .bin .lss (.t 37) (.c (.int .i64 1000)), some (36, true)⟩,
              ⟨some 39, .pick (.t 36) (.t 38) (.c (.bool false)), none⟩])
          (.seq (.prune [1, 2, 5, 7, 39]) (.cond (.t 39) (.skip)
          (.exit 2))))
        (.seq (.prune [1, 2, 5, 7]) (.seq (.block 3 (.reg [
              ⟨some 42, .mv (.t 5), none⟩,
              ⟨some 43, .fa 5 (.t 2), none⟩,
              ⟨some 44, .lds (.t 43), none⟩,
              ⟨some 45, .mv (.t 7), none⟩,
              ⟨some 46, .ia 6 (.t 44) (.t 45), none⟩,
              ⟨some 47, .lda 6 (.t 46), none⟩,
              ⟨some 48, .mv (.t 1), none⟩,
              ⟨some 49, .bin .sub (.t 48) (.c (.int .i64 1)), none⟩,
              ⟨some 50, .call false 38 [(.t 47), (.t 49)], none⟩,
              ⟨some 51, .bin .add (.t 42) (.t 50), none⟩,
              ⟨some 5, .mv (.t 51), none⟩]))
        (.seq (.prune [1, 2, 5, 7]) (.reg [
          ⟨some 40, .mv (.t 7), none⟩,
          ⟨some 41, .bin .add (.t 40) (.c (.int .i64 1)), none⟩,
          ⟨some 7, .mv (.t 41), none⟩])))))))))
  (.seq (.prune [5]) (.seq (.reg [
      ⟨some 52, .mv (.t 5), none⟩,
      ⟨some 53, .mm false (.t 52) (.c (.int .i64 1000)), none⟩,
      ⟨some 4, .mv (.t 53), none⟩])
  (.ret))))))))))),
  [.t 4]⟩
/-- bezel/bezellaw07.shallow -/
def a39 : AFunc := ⟨.seq (.reg [
      ⟨some 2, .box (.t 0), none⟩,
      ⟨some 4, .mv (.c (.bool false)), none⟩])
  (.seq (.prune [1, 2]) (.seq (.seq (.reg [
        ⟨some 7, .mv (.t 1), none⟩,
        ⟨some 8, .bin .eql (.t 7) (.c (.int .i64 0)), none⟩,
        ⟨some 9, .mv (.t 8), none⟩,
        ⟨some 10, .fa 8 (.t 2), some (9, false)⟩,
        ⟨some 11, .lds (.t 10), some (9, false)⟩,
        ⟨some 12, .len .slice (.t 11), some (9, false)⟩,
        ⟨some 13, .bin .gtr (.t 12) (.c (.int .i64 12)), some (9, false)⟩,
        ⟨some 14, .pick (.t 9) (.c (.bool true)) (.t 13), none⟩,
        ⟨some 15, .mv (.t 14), none⟩,
        ⟨some 16, .fa 11 (.t 2), some (15, false)⟩,
        ⟨some 17, .lds (.t 16), some (15, false)⟩,
        ⟨some 18, .len .slice (.t 17), some (15, false)⟩,
        ⟨some 19, .bin .gtr (.t 18) (.c (.int .i64 12)), some (15, false)⟩,
        ⟨some 20, .pick (.t 15) (.c (.bool true)) (.t 19), none⟩])
    (.seq (.prune [1, 2, 20]) (.cond (.t 20) (.seq (.reg [
          ⟨some 4, .mv (.c (.bool false)), none⟩])
      (.ret))
    (.skip))))
  (.seq (.prune [1, 2]) (.seq (.seq (.reg [
        ⟨some 5, .mv (.c (.int .i64 0)), none⟩])
    (.seq (.prune [1, 2, 5]) (.block 0 (.loop [5, 1, 2] (.seq (.seq (.reg [
              ⟨some 21, .mv (.t 5), none⟩,
              ⟨some 22, .fa 8 (.t 2), none⟩,
              ⟨some 23, .lds (.t 22), none⟩,
              ⟨some 24, .len .slice (.t 23), none⟩,
              ⟨some 25, .bin .lss (.t 21) (.t 24), none⟩])
          (.seq (.prune [1, 2, 5, 25]) (.cond (.t 25) (.skip)
          (.exit 0))))
        (.seq (.prune [1, 2, 5]) (.seq (.block 1 (.seq (.reg [
                ⟨some 28, .fa 8 (.t 2), none⟩,
                ⟨some 29, .lds (.t 28), none⟩,
                ⟨some 30, .mv (.t 5), none⟩,
                ⟨some 31, .ia 12 (.t 29) (.t 30), none⟩,
                ⟨some 32, .lda 12 (.t 31), none⟩,
                ⟨some 33, .mv (.t 1), none⟩,
                ⟨some 34, .bin .sub (.t 33) (.c (.int .i64 1)), none⟩,
                ⟨some 35, .call false 39 [(.t 32), (.t 34)], none⟩,
                ⟨some 36, .un .not (.t 35), none⟩])
            (.seq (.prune [1, 2, 5, 36]) (.cond (.t 36) (.seq (.reg [
                  ⟨some 4, .mv (.c (.bool false)), none⟩])
              (.ret))
            (.skip)))))
        (.seq (.prune [1, 2, 5]) (.reg [
          ⟨some 26, .mv (.t 5), none⟩,
          ⟨some 27, .bin .add (.t 26) (.c (.int .i64 1)), none⟩,
          ⟨some 5, .mv (.t 27), none⟩])))))))))
  (.seq (.prune [1, 2]) (.seq (.seq (.reg [
        ⟨some 6, .mv (.c (.int .i64 0)), none⟩])
    (.seq (.prune [1, 2, 6]) (.block 2 (.loop [6, 1, 2] (.seq (.seq (.reg [
              ⟨some 37, .mv (.t 6), none⟩,
              ⟨some 38, .fa 11 (.t 2), none⟩,
              ⟨some 39, .lds (.t 38), none⟩,
              ⟨some 40, .len .slice (.t 39), none⟩,
              ⟨some 41, .bin .lss (.t 37) (.t 40), none⟩])
          (.seq (.prune [1, 2, 6, 41]) (.cond (.t 41) (.skip)
          (.exit 2))))
        (.seq (.prune [1, 2, 6]) (.seq (.block 3 (.seq (.reg [
                ⟨some 44, .fa 11 (.t 2), none⟩,
                ⟨some 45, .lds (.t 44), none⟩,
                ⟨some 46, .mv (.t 6), none⟩,
                ⟨some 47, .ia 12 (.t 45) (.t 46), none⟩,
                ⟨some 48, .lda 12 (.t 47), none⟩,
                ⟨some 49, .mv (.t 1), none⟩,
                ⟨some 50, .bin .sub (.t 49) (.c (.int .i64 1)), none⟩,
                ⟨some 51, .call false 39 [(.t 48), (.t 50)], none⟩,
                ⟨some 52, .un .not (.t 51), none⟩])
            (.seq (.prune [1, 2, 6, 52]) (.cond (.t 52) (.seq (.reg [
                  ⟨some 4, .mv (.c (.bool false)), none⟩])
              (.ret))
            (.skip)))))
        (.seq (.prune [1, 2, 6]) (.reg [
          ⟨some 42, .mv (.t 6), none⟩,
          ⟨some 43, .bin .add (.t 42) (.c (.int .i64 1)), none⟩,
          ⟨some 6, .mv (.t 43), none⟩])))))))))
  (.seq (.prune []) (.seq (.reg [
      ⟨some 4, .mv (.c (.bool true)), none⟩])
  (.ret))))))))),
  [.t 4]⟩
/-- bezel/bezelref07.Light -/
def a40 : AFunc := ⟨.seq (.reg [
      ⟨some 1, .box (.t 0), none⟩,
      ⟨some 2, .mv (.c (.bool false)), none⟩])
  (.seq (.prune [1]) (.seq (.reg [
      ⟨some 3, .lda 12 (.t 1), none⟩,
      ⟨some 4, .call false 55 [(.t 3), (.c (.int .i64 60))], none⟩,
      ⟨some 5, .bin .lss (.t 4) (.c (.int .i64 150)), none⟩,
      ⟨some 2, .mv (.t 5), none⟩])
  (.ret))),
  [.t 2]⟩
/-- bezel/bezelref05.deep -/
def a41 : AFunc := ⟨.seq (.reg [
      ⟨some 2, .box (.t 0), none⟩,
      ⟨some 4, .mv (.c (.bool false)), none⟩])
  (.seq (.prune [1, 2]) (.seq (.seq (.reg [
        ⟨some 8, .mv (.t 1), none⟩,
        ⟨some 9, .bin .eql (.t 8) (.c (.int .i64 0)), none⟩,
        ⟨some 10, .mv (.t 9), none⟩,
        ⟨some 11, .fa 1 (.t 2), some (10, false)⟩,
        ⟨some 12, .lds (.t 11), some (10, false)⟩,
        ⟨some 13, .bin .lss (.t 12) (.c (.int .i64 0)), some (10, false)⟩,
        ⟨some 14, .pick (.t 10) (.c (.bool true)) (.t 13), none⟩,
        ⟨some 15, .mv (.t 14), none⟩,
        ⟨some 16, .fa 1 (.t 2), some (15, false)⟩,
        ⟨some 17, .lds (.t 16), some (15, false)⟩,
        ⟨some 18, .bin .gtr (.t 17) (.c (.int .i64 63)), some (15, false)⟩,
        ⟨some 19, .pick (.t 15) (.c (.bool true)) (.t 18), none⟩,
        ⟨some 20, .mv (.t 19), none⟩,
        ⟨some 21, .fa 2 (.t 2), some (20, false)⟩,
        ⟨some 22, .lds (.t 21), some (20, false)⟩,
        ⟨some 23, .bin .lss (.t 22) (.c (.int .i64 0)), some (20, false)⟩,
        ⟨some 24, .pick (.t 20) (.c (.bool true)) (.t 23), none⟩,
        ⟨some 25, .mv (.t 24), none⟩,
        ⟨some 26, .fa 2 (.t 2), some (25, false)⟩,
        ⟨some 27, .lds (.t 26), some (25, false)⟩,
        ⟨some 28, .bin .gtr (.t 27) (.c (.int .i64 2)), some (25, false)⟩,
        ⟨some 29, .pick (.t 25) (.c (.bool true)) (.t 28), none⟩,
        ⟨some 30, .mv (.t 29), none⟩,
        ⟨some 31, .fa 4 (.t 2), some (30, false)⟩,
        ⟨some 32, .lds (.t 31), some (30, false)⟩,
        ⟨some 33, .bin .lss (.t 32) (.c (.int .i64 0)), some (30, false)⟩,
        ⟨some 34, .pick (.t 30) (.c (.bool true)) (.t 33), none⟩,
        ⟨some 35, .mv (.t 34), none⟩,
        ⟨some 36, .fa 4 (.t 2), some (35, false)⟩,
        ⟨some 37, .lds (.t 36), some (35, false)⟩,
        ⟨some 38, .bin .gtr (.t 37) (.c (.int .i64 2)), some (35, false)⟩,
        ⟨some 39, .pick (.t 35) (.c (.bool true)) (.t 38), none⟩])
    (.seq (.prune [1, 2, 39]) (.cond (.t 39) (.seq (.reg [
          ⟨some 4, .mv (.c (.bool false)), none⟩])
      (.ret))
    (.skip))))
  (.seq (.prune [1, 2]) (.seq (.seq (.reg [
        ⟨some 40, .fa 0 (.t 2), none⟩,
        ⟨some 41, .lds (.t 40), none⟩,
        ⟨some 42, .mv (.t 41), none⟩,
        ⟨some 43, .fa 1 (.t 2), some (42, true)⟩,
        ⟨some 44, .lds (.t 43), some (42, true)⟩,
        ⟨some 45, .bin .neq (.t 44) (.c (.int .i64 0)), some (42, true)⟩,
        ⟨some 46, .mv (.t 45), some (42, true)⟩,
        ⟨some 47, .fa 2 (.t 2), some (46, false)⟩,
        ⟨some 48, .lds (.t 47), some (46, false)⟩,
        ⟨some 49, .bin .neq (.t 48) (.c (.int .i64 0)), some (46, false)⟩,
        ⟨some 50, .pick (.t 46) (.c (.bool true)) (.t 49), some (42, true)⟩,
        ⟨some 51, .mv (.t 50), some (42, true)⟩,
        ⟨some 52, .fa 4 (.t 2), some (51, false)⟩,
        ⟨some 53, .lds (.t 52), some (51, false)⟩,
        ⟨some 54, .bin .neq (.t 53) (.c (.int .i64 0)), some (51, false)⟩,
        ⟨some 55, .pick (.t 51) (.c (.bool true)) (.t 54), some (42, true)⟩,
        ⟨some 56, .pick (.t 42) (.t 55) (.c (.bool false)), none⟩])
    (.seq (.prune [1, 2, 56]) (.cond (.t 56) (.seq (.reg [
          ⟨some 4, .mv (.c (.bool false)), none⟩])
      (.ret))
    (.skip))))
  (.seq (.prune [1, 2]) (.seq (.reg [
      ⟨some 57, .bsl 1 (.int .i64 0) 3 [(0, (.c (.int .i64 0))), (1, (.c (.int .i64 2))), (2, (.c (.int .i64 1)))], none⟩,
      ⟨some 5, .mv (.t 57), none⟩])
  (.seq (.prune [1, 2, 5]) (.seq (.seq (.draw 0 [
        (⟨some 58, .fa 3 (.t 2), none⟩, 0, []),
        (⟨some 59, .lds (.t 58), none⟩, 0, [0]),
        (⟨some 60, .len .slice (.t 59), none⟩, 0, [0, 1]),
        (⟨some 61, .mv (.t 5), none⟩, 0, []),
        (⟨some 62, .fa 2 (.t 2), none⟩, 0, []),
        (⟨some 63, .lds (.t 62), none⟩, 0, [4]),
        (⟨some 64, .ia 1 (.t 61) (.t 63), none⟩, 0, [3, 4, 5]),
        (⟨some 65, .lds (.t 64), none⟩, 0, [3, 4, 5, 6]),
        (⟨some 66, .bin .neq (.t 60) (.t 65), none⟩, 0, [0, 1, 2, 3, 4, 5, 6, 7]),
        (⟨some 67, .mv (.t 66), none⟩, 0, [0, 1, 2, 3, 4, 5, 6, 7, 8]),
        (⟨some 68, .fa 4 (.t 2), some (67, false)⟩, 0, [0, 1, 2, 3, 4, 5, 6, 7, 8, 9]),
        (⟨some 69, .lds (.t 68), some (67, false)⟩, 0, [0, 1, 2, 3, 4, 5, 6, 7, 8, 9, 10]),
        (⟨some 70, .bin .neq (.t 69) (.c (.int .i64 1)), some (67, false)⟩, 0, [0, 1, 2, 3, 4, 5, 6, 7, 8, 9, 10, 11]),
        (⟨some 71, .mv (.t 70), some (67, false)⟩, 0, [0, 1, 2, 3, 4, 5, 6, 7, 8, 9, 10, 11, 12]),
        (⟨some 72, .fa 5 (.t 2), some (71, true)⟩, 0, [0, 1, 2, 3, 4, 5, 6, 7, 8, 9, 10, 11, 12, 13]),
        (⟨some 73, .lds (.t 72), some (71, true)⟩, 0, [0, 1, 2, 3, 4, 5, 6, 7, 8, 9, 10, 11, 12, 13, 14]),
        (⟨some 74, .len .slice (.t 73), some (71, true)⟩, 0, [0, 1, 2, 3, 4, 5, 6, 7, 8, 9, 10, 11, 12, 13, 14, 15]),
        (⟨some 75, .bin .neq (.t 74) (.c (.int .i64 0)), some (71, true)⟩, 0, [0, 1, 2, 3, 4, 5, 6, 7, 8, 9, 10, 11, 12, 13, 14, 15, 16]),
        (⟨some 76, .pick (.t 71) (.t 75) (.c (.bool false)), some (67, false)⟩, 0, [0, 1, 2, 3, 4, 5, 6, 7, 8, 9, 10, 11, 12, 13, 14, 15, 16, 17]),
        (⟨some 77, .pick (.t 67) (.c (.bool true)) (.t 76), none⟩, 0, [0, 1, 2, 3, 4, 5, 6, 7, 8, 9, 10, 11, 12, 13, 14, 15, 16, 17, 18]),
        (⟨some 78, .mv (.t 77), none⟩, 0, [0, 1, 2, 3, 4, 5, 6, 7, 8, 9, 10, 11, 12, 13, 14, 15, 16, 17, 18, 19]),
        (⟨some 79, .fa 4 (.t 2), some (78, false)⟩, 0, [0, 1, 2, 3, 4, 5, 6, 7, 8, 9, 10, 11, 12, 13, 14, 15, 16, 17, 18, 19, 20]),
        (⟨some 80, .lds (.t 79), some (78, false)⟩, 0, [0, 1, 2, 3, 4, 5, 6, 7, 8, 9, 10, 11, 12, 13, 14, 15, 16, 17, 18, 19, 20, 21]),
        (⟨some 81, .bin .eql (.t 80) (.c (.int .i64 1)), some (78, false)⟩, 0, [0, 1, 2, 3, 4, 5, 6, 7, 8, 9, 10, 11, 12, 13, 14, 15, 16, 17, 18, 19, 20, 21, 22]),
        (⟨some 82, .mv (.t 81), some (78, false)⟩, 0, [0, 1, 2, 3, 4, 5, 6, 7, 8, 9, 10, 11, 12, 13, 14, 15, 16, 17, 18, 19, 20, 21, 22, 23]),
        (⟨some 83, .fa 5 (.t 2), some (82, true)⟩, 0, [0, 1, 2, 3, 4, 5, 6, 7, 8, 9, 10, 11, 12, 13, 14, 15, 16, 17, 18, 19, 20, 21, 22, 23, 24]),
        (⟨some 84, .lds (.t 83), some (82, true)⟩, 0, [0, 1, 2, 3, 4, 5, 6, 7, 8, 9, 10, 11, 12, 13, 14, 15, 16, 17, 18, 19, 20, 21, 22, 23, 24, 25]),
        (⟨some 85, .len .slice (.t 84), some (82, true)⟩, 0, [0, 1, 2, 3, 4, 5, 6, 7, 8, 9, 10, 11, 12, 13, 14, 15, 16, 17, 18, 19, 20, 21, 22, 23, 24, 25, 26]),
        (⟨some 86, .bin .lss (.t 85) (.c (.int .i64 1)), some (82, true)⟩, 0, [0, 1, 2, 3, 4, 5, 6, 7, 8, 9, 10, 11, 12, 13, 14, 15, 16, 17, 18, 19, 20, 21, 22, 23, 24, 25, 26, 27]),
        (⟨some 87, .mv (.t 86), some (82, true)⟩, 0, [0, 1, 2, 3, 4, 5, 6, 7, 8, 9, 10, 11, 12, 13, 14, 15, 16, 17, 18, 19, 20, 21, 22, 23, 24, 25, 26, 27, 28]),
        (⟨some 88, .fa 5 (.t 2), some (87, false)⟩, 0, [0, 1, 2, 3, 4, 5, 6, 7, 8, 9, 10, 11, 12, 13, 14, 15, 16, 17, 18, 19, 20, 21, 22, 23, 24, 25, 26, 27, 28, 29]),
        (⟨some 89, .lds (.t 88), some (87, false)⟩, 0, [0, 1, 2, 3, 4, 5, 6, 7, 8, 9, 10, 11, 12, 13, 14, 15, 16, 17, 18, 19, 20, 21, 22, 23, 24, 25, 26, 27, 28, 29, 30]),
        (⟨some 90, .len .slice (.t 89), some (87, false)⟩, 0, [0, 1, 2, 3, 4, 5, 6, 7, 8, 9, 10, 11, 12, 13, 14, 15, 16, 17, 18, 19, 20, 21, 22, 23, 24, 25, 26, 27, 28, 29, 30, 31]),
        (⟨some 91, .bin .gtr (.t 90) (.c (.int .i64 9)), some (87, false)⟩, 0, [0, 1, 2, 3, 4, 5, 6, 7, 8, 9, 10, 11, 12, 13, 14, 15, 16, 17, 18, 19, 20, 21, 22, 23, 24, 25, 26, 27, 28, 29, 30, 31, 32]),
        (⟨some 92, .pick (.t 87) (.c (.bool true)) (.t 91), some (82, true)⟩, 0, [0, 1, 2, 3, 4, 5, 6, 7, 8, 9, 10, 11, 12, 13, 14, 15, 16, 17, 18, 19, 20, 21, 22, 23, 24, 25, 26, 27, 28, 29, 30, 31, 32, 33]),
        (⟨some 93, .pick (.t 82) (.t 92) (.c (.bool false)), some (78, false)⟩, 0, [0, 1, 2, 3, 4, 5, 6, 7, 8, 9, 10, 11, 12, 13, 14, 15, 16, 17, 18, 19, 20, 21, 22, 23, 24, 25, 26, 27, 28, 29, 30, 31, 32, 33, 34]),
        (⟨some 94, .pick (.t 78) (.c (.bool true)) (.t 93), none⟩, 0, [0, 1, 2, 3, 4, 5, 6, 7, 8, 9, 10, 11, 12, 13, 14, 15, 16, 17, 18, 19, 20, 21, 22, 23, 24, 25, 26, 27, 28, 29, 30, 31, 32, 33, 34, 35])])
    (.seq (.prune [1, 2, 94]) (.cond (.t 94) (.seq (.reg [
          ⟨some 4, .mv (.c (.bool false)), none⟩])
      (.ret))
    (.skip))))
  (.seq (.prune [1, 2]) (.seq (.seq (.reg [
        ⟨some 6, .mv (.c (.int .i64 0)), none⟩])
    (.seq (.prune [1, 2, 6]) (.block 0 (.loop [6, 1, 2] (.seq (.seq (.reg [
              ⟨some 95, .mv (.t 6), none⟩,
              ⟨some 96, .fa 3 (.t 2), none⟩,
              ⟨some 97, .lds (.t 96), none⟩,
              ⟨some 98, .len .slice (.t 97), none⟩,
              ⟨some 99, .bin .lss (.t 95) (.t 98), none⟩])
          (.seq (.prune [1, 2, 6, 99]) (.cond (.t 99) (.skip)
          (.exit 0))))
        (.seq (.prune [1, 2, 6]) (.seq (.block 1 (.seq (.reg [
                ⟨some 102, .fa 3 (.t 2), none⟩,
                ⟨some 103, .lds (.t 102), none⟩,
                ⟨some 104, .mv (.t 6), none⟩,
                ⟨some 105, .ia 6 (.t 103) (.t 104), none⟩,
                ⟨some 106, .lda 6 (.t 105), none⟩,
                ⟨some 107, .mv (.t 1), none⟩,
                ⟨some 108, .bin .sub (.t 107) (.c (.int .i64 1)), none⟩,
                ⟨some 109, .call false 41 [(.t 106), (.t 108)], none⟩,
                ⟨some 110, .un .not (.t 109), none⟩])
            (.seq (.prune [1, 2, 6, 110]) (.cond (.t 110) (.seq (.reg [
                  ⟨some 4, .mv (.c (.bool false)), none⟩])
              (.ret))
            (.skip)))))
        (.seq (.prune [1, 2, 6]) (.reg [
          ⟨some 100, .mv (.t 6), none⟩,
          ⟨some 101, .bin .add (.t 100) (.c (.int .i64 1)), none⟩,
          ⟨some 6, .mv (.t 101), none⟩])))))))))
  (.seq (.prune [1, 2]) (.seq (.seq (.reg [
        ⟨some 7, .mv (.c (.int .i64 0)), none⟩])
    (.seq (.prune [1, 2, 7]) (.block 2 (.loop [7, 1, 2] (.seq (.seq (.reg [
              ⟨some 111, .mv (.t 7), none⟩,
              ⟨some 112, .fa 5 (.t 2), none⟩,
              ⟨some 113, .lds (.t 112), none⟩,
              ⟨some 114, .len .slice (.t 113), none⟩,
              ⟨some 115, .bin .lss (.t 111) (.t 114), none⟩])
          (.seq (.prune [1, 2, 7, 115]) (.cond (.t 115) (.skip)
          (.exit 2))))
        (.seq (.prune [1, 2, 7]) (.seq (.block 3 (.seq (.reg [
                ⟨some 118, .fa 5 (.t 2), none⟩,
                ⟨some 119, .lds (.t 118), none⟩,
                ⟨some 120, .mv (.t 7), none⟩,
                ⟨some 121, .ia 6 (.t 119) (.t 120), none⟩,
                ⟨some 122, .lda 6 (.t 121), none⟩,
                ⟨some 123, .mv (.t 1), none⟩,
                ⟨some 124, .bin .sub (.t 123) (.c (.int .i64 1)), none⟩,
                ⟨some 125, .call false 41 [(.t 122), (.t 124)], none⟩,
                ⟨some 126, .un .not (.t 125), none⟩])
            (.seq (.prune [1, 2, 7, 126]) (.cond (.t 126) (.seq (.reg [
                  ⟨some 4, .mv (.c (.bool false)), none⟩])
              (.ret))
            (.skip)))))
        (.seq (.prune [1, 2, 7]) (.reg [
          ⟨some 116, .mv (.t 7), none⟩,
          ⟨some 117, .bin .add (.t 116) (.c (.int .i64 1)), none⟩,
          ⟨some 7, .mv (.t 117), none⟩])))))))))
  (.seq (.prune []) (.seq (.reg [
      ⟨some 4, .mv (.c (.bool true)), none⟩])
  (.ret))))))))))))))),
  [.t 4]⟩
/-- (*bezel/coerce.C).pairs -/
def a42 : AFunc := ⟨.seq (.reg [
      ⟨some 4, .mv (.t 1), none⟩,
      ⟨some 5, .call false 56 [(.t 4), (.c (.fn 45 []))], none⟩])
  (.seq (.prune [0, 1, 5]) (.cond (.t 5) (.reg [
      ⟨some 6, .mv (.t 0), none⟩,
      ⟨some 7, .mv (.t 0), none⟩,
      ⟨some 8, .mv (.t 1), none⟩,
      ⟨some 9, .nc (.t 6), none⟩,
      ⟨some 10, .fa 6 (.t 9), none⟩,
      ⟨none, .sts (.t 10) (.c (.int .i64 2)), none⟩,
      ⟨some 11, .nc (.t 7), none⟩,
      ⟨some 12, .fa 8 (.t 11), none⟩,
      ⟨none, .sts (.t 12) (.t 8), none⟩])
  (.skip))),
  []⟩
/-- (*bezel/coerce.C).funs -/
def a43 : AFunc := ⟨.seq (.reg [
      ⟨some 10, .mv (.c (.lst [] true)), none⟩])
  (.seq (.prune [0, 1, 2, 3, 4, 10]) (.seq (.seq (.reg [
        ⟨some 14, .mv (.t 1), none⟩,
        ⟨some 15, .len .slice (.t 14), none⟩,
        ⟨some 16, .mv (.c (.int .i64 0)), none⟩])
    (.seq (.prune [0, 1, 2, 3, 4, 10, 14, 15, 16]) (.block 0 (.seq (.own 10 none)
      (.loop [10, 16, 0, 1, 2, 3, 4, 14, 15] (.seq (.reg [
            ⟨some 17, .bin .lss (.t 16) (.t 15), none⟩])
        (.seq (.prune [0, 1, 2, 3, 4, 10, 14, 15, 16, 17]) (.seq (.cond (.t 17) (.skip)
          (.exit 0))
        (.seq (.prune [0, 1, 2, 3, 4, 10, 14, 15, 16]) (.seq (.block 1 (.seq (.reg [
                ⟨some 18, .mv (.t 16), none⟩,
                ⟨some 19, .ia 6 (.t 14) (.t 16), none⟩,
                ⟨some 20, .lda 6 (.t 19), none⟩,
                ⟨some 12, .alloc [.bool false, .int .i64 0, .int .i64 0, .lst [] true, .int .i64 0, .lst [] true], none⟩,
                ⟨some 11, .mv (.t 18), none⟩,
                ⟨none, .sta 6 (.t 12) (.t 20), none⟩])
            (.seq (.prune [0, 1, 2, 3, 4, 10, 11, 12, 14, 15, 16]) (.seq (.reg [
                ⟨some 21, .mv (.t 2), none⟩,
                ⟨some 13, .mv (.t 21), none⟩])
            (.seq (.prune [0, 1, 2, 3, 4, 10, 11, 12, 13, 14, 15, 16]) (.seq (.seq (.reg [
                  ⟨some 22, .mv (.t 11), none⟩,
                  ⟨some 23, .mv (.t 1), none⟩,
                  ⟨some 24, .len .slice (.t 23), none⟩,
                  ⟨some 25, .bin .sub (.t 24) (.c (.int .i64 1)), none⟩,
                  ⟨some 26, .bin .eql (.t 22) (.t 25), none⟩])
              (.seq (.prune [0, 1, 2, 3, 4, 10, 12, 13, 14, 15, 16, 26]) (.cond (.t 26) (.reg [
                  ⟨some 27, .mv (.t 3), none⟩,
                  ⟨some 13, .mv (.t 27), none⟩])
              (.skip))))
            (.seq (.prune [0, 1, 2, 3, 4, 10, 12, 13, 14, 15, 16]) (.reg [
              ⟨some 28, .mv (.t 10), none⟩,
              ⟨some 29, .mv (.t 13), none⟩,
              ⟨some 30, .lda 6 (.t 12), none⟩,
              ⟨some 31, .mv (.t 4), none⟩,
              ⟨some 32, .callv false (.t 29) [(.t 30), (.t 31)], none⟩,
              ⟨some 33, .bsl 12 (.agg [.int .i64 0, .int .i64 0, .int .i64 0, .int .i64 0, .int .i64 0, .int .i64 0, .int .i64 0, .int .i64 0, .lst [] true, .int .i64 0, .int .i64 0, .lst [] true]) 1 [(0, (.t 32))], none⟩,
              ⟨some 34, .app 12 128 false (.t 28) (.t 33), none⟩,
              ⟨some 10, .mv (.t 34), none⟩]))))))))
        (.seq (.prune [0, 1, 2, 3, 4, 10, 14, 15, 16]) (.reg [
          ⟨some 35, .bin .add (.t 16) (.c (.int .i64 1)), none⟩,
          ⟨some 16, .mv (.t 35), none⟩]))))))))))))
  (.seq (.prune [0, 10]) (.seq (.reg [
      ⟨some 36, .mv (.t 10), none⟩,
      ⟨some 37, .call false 56 [(.t 36), (.c (.fn 45 []))], none⟩])
  (.seq (.prune [0, 10, 37]) (.cond (.t 37) (.reg [
      ⟨some 38, .mv (.t 0), none⟩,
      ⟨some 39, .mv (.t 0), none⟩,
      ⟨some 40, .mv (.t 10), none⟩,
      ⟨some 41, .nc (.t 38), none⟩,
      ⟨some 42, .fa 9 (.t 41), none⟩,
      ⟨none, .sts (.t 42) (.c (.int .i64 2)), none⟩,
      ⟨some 43, .nc (.t 39), none⟩,
      ⟨some 44, .fa 11 (.t 43), none⟩,
      ⟨none, .sts (.t 44) (.t 40), none⟩])
  (.skip))))))),
  []⟩
/-- bezel/bezelref07.all -/
def a44 : AFunc := ⟨.seq (.reg [
      ⟨some 2, .mv (.c (.bool false)), none⟩])
  (.seq (.prune [0]) (.seq (.seq (.reg [
        ⟨some 3, .mv (.c (.int .i64 0)), none⟩])
    (.seq (.prune [0, 3]) (.block 0 (.loop [3, 0] (.seq (.seq (.reg [
              ⟨some 4, .mv (.t 3), none⟩,
              ⟨some 5, .mv (.t 0), none⟩,
              ⟨some 6, .len .slice (.t 5), none⟩,
              ⟨some 7, .bin .lss (.t 4) (.t 6), none⟩])
          (.seq (.prune [0, 3, 7]) (.cond (.t 7) (.skip)
          (.exit 0))))
        (.seq (.prune [0, 3]) (.seq (.block 1 (.seq (.reg [
                ⟨some 10, .mv (.t 0), none⟩,
                ⟨some 11, .mv (.t 3), none⟩,
                ⟨some 12, .ia 12 (.t 10) (.t 11), none⟩,
                ⟨some 13, .lda 12 (.t 12), none⟩,
                ⟨some 14, .call false 28 [(.t 13)], none⟩,
                ⟨some 15, .un .not (.t 14), none⟩])
            (.seq (.prune [0, 3, 15]) (.cond (.t 15) (.seq (.reg [
                  ⟨some 2, .mv (.c (.bool false)), none⟩])
              (.ret))
            (.skip)))))
        (.seq (.prune [0, 3]) (.reg [
          ⟨some 8, .mv (.t 3), none⟩,
          ⟨some 9, .bin .add (.t 8) (.c (.int .i64 1)), none⟩,
          ⟨some 3, .mv (.t 9), none⟩])))))))))
  (.seq (.prune []) (.seq (.reg [
      ⟨some 2, .mv (.c (.bool true)), none⟩])
  (.ret))))),
  [.t 2]⟩
/-- bezel/coerce.acts -/
def a45 : AFunc := ⟨.seq (.reg [
      ⟨some 1, .box (.t 0), none⟩,
      ⟨some 2, .mv (.c (.bool false)), none⟩])
  (.seq (.prune [1]) (.seq (.reg [
      ⟨some 3, .lda 12 (.t 1), none⟩,
      ⟨some 4, .call false 27 [(.t 3)], none⟩,
      ⟨some 5, .un .not (.t 4), none⟩,
      ⟨some 2, .mv (.t 5), none⟩])
  (.ret))),
  [.t 2]⟩
/-- bezel/bezelref07.deep -/
def a46 : AFunc := ⟨.seq (.reg [
      ⟨some 2, .box (.t 0), none⟩,
      ⟨some 4, .mv (.c (.bool false)), none⟩])
  (.seq (.prune [1, 2]) (.seq (.seq (.reg [
        ⟨some 9, .mv (.t 1), none⟩,
        ⟨some 10, .bin .eql (.t 9) (.c (.int .i64 0)), none⟩,
        ⟨some 11, .mv (.t 10), none⟩,
        ⟨some 12, .fa 6 (.t 2), some (11, false)⟩,
        ⟨some 13, .lds (.t 12), some (11, false)⟩,
        ⟨some 14, .bin .lss (.t 13) (.c (.int .i64 0)), some (11, false)⟩,
        ⟨some 15, .pick (.t 11) (.c (.bool true)) (.t 14), none⟩,
        ⟨some 16, .mv (.t 15), none⟩,
        ⟨some 17, .fa 6 (.t 2), some (16, false)⟩,
        ⟨some 18, .lds (.t 17), some (16, false)⟩,
        ⟨some 19, .bin .gtr (.t 18) (.c (.int .i64 3)), some (16, false)⟩,
        ⟨some 20, .pick (.t 16) (.c (.bool true)) (.t 19), none⟩,
        ⟨some 21, .mv (.t 20), none⟩,
        ⟨some 22, .fa 9 (.t 2), some (21, false)⟩,
        ⟨some 23, .lds (.t 22), some (21, false)⟩,
        ⟨some 24, .bin .lss (.t 23) (.c (.int .i64 0)), some (21, false)⟩,
        ⟨some 25, .pick (.t 21) (.c (.bool true)) (.t 24), none⟩,
        ⟨some 26, .mv (.t 25), none⟩,
        ⟨some 27, .fa 9 (.t 2), some (26, false)⟩,
        ⟨some 28, .lds (.t 27), some (26, false)⟩,
        ⟨some 29, .bin .gtr (.t 28) (.c (.int .i64 3)), some (26, false)⟩,
        ⟨some 30, .pick (.t 26) (.c (.bool true)) (.t 29), none⟩,
        ⟨some 31, .mv (.t 30), none⟩,
        ⟨some 32, .fa 7 (.t 2), some (31, false)⟩,
        ⟨some 33, .lds (.t 32), some (31, false)⟩,
        ⟨some 34, .bin .lss (.t 33) (.c (.int .i64 0)), some (31, false)⟩,
        ⟨some 35, .pick (.t 31) (.c (.bool true)) (.t 34), none⟩,
        ⟨some 36, .mv (.t 35), none⟩,
        ⟨some 37, .fa 7 (.t 2), some (36, false)⟩,
        ⟨some 38, .lds (.t 37), some (36, false)⟩,
        ⟨some 39, .bin .gtr (.t 38) (.c (.int .i64 99)), some (36, false)⟩,
        ⟨some 40, .pick (.t 36) (.c (.bool true)) (.t 39), none⟩,
        ⟨some 41, .mv (.t 40), none⟩,
        ⟨some 42, .fa 10 (.t 2), some (41, false)⟩,
        ⟨some 43, .lds (.t 42), some (41, false)⟩,
        ⟨some 44, .bin .lss (.t 43) (.c (.int .i64 0)), some (41, false)⟩,
        ⟨some 45, .pick (.t 41) (.c (.bool true)) (.t 44), none⟩,
        ⟨some 46, .mv (.t 45), none⟩,
        ⟨some 47, .fa 10 (.t 2), some (46, false)⟩,
        ⟨some 48, .lds (.t 47), some (46, false)⟩,
        ⟨some 49, .bin .gtr (.t 48) (.c (.int .i64 99)), some (46, false)⟩,
        ⟨some 50, .pick (.t 46) (.c (.bool true)) (.t 49), none⟩])
    (.seq (.prune [1, 2, 50]) (.cond (.t 50) (.seq (.reg [
          ⟨some 4, .mv (.c (.bool false)), none⟩])
      (.ret))
    (.skip))))
  (.seq (.prune [1, 2]) (.seq (.seq (.reg [
        ⟨some 5, .mv (.c (.int .i64 0)), none⟩])
    (.seq (.prune [1, 2, 5]) (.block 0 (.loop [5, 1, 2] (.seq (.seq (.reg [
              ⟨some 51, .mv (.t 5), none⟩,
              ⟨some 52, .bin .lss (.t 51) (.c (.int .i64 6)), none⟩])
          (.seq (.prune [1, 2, 5, 52]) (.cond (.t 52) (.skip)
          (.exit 0))))
        (.seq (.prune [1, 2, 5]) (.seq (.block 1 (.seq (.reg [
                ⟨some 55, .mv (.t 5), none⟩,
                ⟨some 56, .fa 0 (.t 2), none⟩,
                ⟨some 57, .iaa 6 1 (.t 56) (.t 55), none⟩,
                ⟨some 58, .lds (.t 57), none⟩,
                ⟨some 59, .bin .lss (.t 58) (.c (.int .i64 0)), none⟩,
                ⟨some 60, .mv (.t 59), none⟩,
                ⟨some 61, .mv (.t 5), some (60, false)⟩,
                ⟨some 62, .fa 0 (.t 2), some (60, false)⟩,
                ⟨some 63, .iaa 6 1 (.t 62) (.t 61), some (60, false)⟩,
                ⟨some 64, .lds (.t 63), some (60, false)⟩,
                ⟨some 65, .bin .gtr (.t 64) (.c (.int .i64 99)), some (60, false)⟩,
                ⟨some 66, .pick (.t 60) (.c (.bool true)) (.t 65), none⟩])
            (.seq (.prune [1, 2, 5, 66]) (.cond (.t 66) (.seq (.reg [
                  ⟨some 4, .mv (.c (.bool false)), none⟩])
              (.ret))
            (.skip)))))
        (.seq (.prune [1, 2, 5]) (.reg [
          ⟨some 53, .mv (.t 5), none⟩,
          ⟨some 54, .bin .add (.t 53) (.c (.int .i64 1)), none⟩,
          ⟨some 5, .mv (.t 54), none⟩])))))))))
  (.seq (.prune [1, 2]) (.seq (.reg [
      ⟨some 67, .bsl 1 (.int .i64 0) 4 [(0, (.c (.int .i64 0))), (1, (.c (.int .i64 0))), (2, (.c (.int .i64 2))), (3, (.c (.int .i64 1)))], none⟩,
      ⟨some 6, .mv (.t 67), none⟩])
  (.seq (.prune [1, 2, 6]) (.seq (.seq (.draw 0 [
        (⟨some 68, .fa 8 (.t 2), none⟩, 0, []),
        (⟨some 69, .lds (.t 68), none⟩, 0, [0]),
        (⟨some 70, .len .slice (.t 69), none⟩, 0, [0, 1]),
        (⟨some 71, .mv (.t 6), none⟩, 0, []),
        (⟨some 72, .fa 6 (.t 2), none⟩, 0, []),
        (⟨some 73, .lds (.t 72), none⟩, 0, [4]),
        (⟨some 74, .ia 1 (.t 71) (.t 73), none⟩, 0, [3, 4, 5]),
        (⟨some 75, .lds (.t 74), none⟩, 0, [3, 4, 5, 6]),
        (⟨some 76, .bin .neq (.t 70) (.t 75), none⟩, 0, [0, 1, 2, 3, 4, 5, 6, 7]),
        (⟨some 77, .mv (.t 76), none⟩, 0, [0, 1, 2, 3, 4, 5, 6, 7, 8]),
        (⟨some 78, .fa 6 (.t 2), some (77, false)⟩, 0, [0, 1, 2, 3, 4, 5, 6, 7, 8, 9]),
        (⟨some 79, .lds (.t 78), some (77, false)⟩, 0, [0, 1, 2, 3, 4, 5, 6, 7, 8, 9, 10]),
        (⟨some 80, .bin .eql (.t 79) (.c (.int .i64 1)), some (77, false)⟩, 0, [0, 1, 2, 3, 4, 5, 6, 7, 8, 9, 10, 11]),
        (⟨some 81, .mv (.t 80), some (77, false)⟩, 0, [0, 1, 2, 3, 4, 5, 6, 7, 8, 9, 10, 11, 12]),
        (⟨some 82, .fa 7 (.t 2), some (81, true)⟩, 0, [0, 1, 2, 3, 4, 5, 6, 7, 8, 9, 10, 11, 12, 13]),
        (⟨some 83, .lds (.t 82), some (81, true)⟩, 0, [0, 1, 2, 3, 4, 5, 6, 7, 8, 9, 10, 11, 12, 13, 14]),
        (⟨some 84, .bin .eql (.t 83) (.c (.int .i64 0)), some (81, true)⟩, 0, [0, 1, 2, 3, 4, 5, 6, 7, 8, 9, 10, 11, 12, 13, 14, 15]),
        (⟨some 85, .pick (.t 81) (.t 84) (.c (.bool false)), some (77, false)⟩, 0, [0, 1, 2, 3, 4, 5, 6, 7, 8, 9, 10, 11, 12, 13, 14, 15, 16]),
        (⟨some 86, .pick (.t 77) (.c (.bool true)) (.t 85), none⟩, 0, [0, 1, 2, 3, 4, 5, 6, 7, 8, 9, 10, 11, 12, 13, 14, 15, 16, 17]),
        (⟨some 87, .mv (.t 86), none⟩, 0, [0, 1, 2, 3, 4, 5, 6, 7, 8, 9, 10, 11, 12, 13, 14, 15, 16, 17, 18]),
        (⟨some 88, .fa 6 (.t 2), some (87, false)⟩, 0, [0, 1, 2, 3, 4, 5, 6, 7, 8, 9, 10, 11, 12, 13, 14, 15, 16, 17, 18, 19]),
        (⟨some 89, .lds (.t 88), some (87, false)⟩, 0, [0, 1, 2, 3, 4, 5, 6, 7, 8, 9, 10, 11, 12, 13, 14, 15, 16, 17, 18, 19, 20]),
        (⟨some 90, .bin .eql (.t 89) (.c (.int .i64 0)), some (87, false)⟩, 0, [0, 1, 2, 3, 4, 5, 6, 7, 8, 9, 10, 11, 12, 13, 14, 15, 16, 17, 18, 19, 20, 21]),
        (⟨some 91, .mv (.t 90), some (87, false)⟩, 0, [0, 1, 2, 3, 4, 5, 6, 7, 8, 9, 10, 11, 12, 13, 14, 15, 16, 17, 18, 19, 20, 21, 22]),
        (⟨some 92, .fa 6 (.t 2), some (91, false)⟩, 0, [0, 1, 2, 3, 4, 5, 6, 7, 8, 9, 10, 11, 12, 13, 14, 15, 16, 17, 18, 19, 20, 21, 22, 23]),
        (⟨some 93, .lds (.t 92), some (91, false)⟩, 0, [0, 1, 2, 3, 4, 5, 6, 7, 8, 9, 10, 11, 12, 13, 14, 15, 16, 17, 18, 19, 20, 21, 22, 23, 24]),
        (⟨some 94, .bin .eql (.t 93) (.c (.int .i64 2)), some (91, false)⟩, 0, [0, 1, 2, 3, 4, 5, 6, 7, 8, 9, 10, 11, 12, 13, 14, 15, 16, 17, 18, 19, 20, 21, 22, 23, 24, 25]),
        (⟨some 95, .pick (.t 91) (.c (.bool true)) (.t 94), some (87, false)⟩, 0, [0, 1, 2, 3, 4, 5, 6, 7, 8, 9, 10, 11, 12, 13, 14, 15, 16, 17, 18, 19, 20, 21, 22, 23, 24, 25, 26]),
        (⟨some 96, .mv (.t 95), some (87, false)⟩, 0, [0, 1, 2, 3, 4, 5, 6, 7, 8, 9, 10, 11, 12, 13, 14, 15, 16, 17, 18, 19, 20, 21, 22, 23, 24, 25, 26, 27]),
        (⟨some 97, .fa 7 (.t 2), some (96, true)⟩, 0, [0, 1, 2, 3, 4, 5, 6, 7, 8, 9, 10, 11, 12, 13, 14, 15, 16, 17, 18, 19, 20, 21, 22, 23, 24, 25, 26, 27, 28]),
        (⟨some 98, .lds (.t 97), some (96, true)⟩, 0, [0, 1, 2, 3, 4, 5, 6, 7, 8, 9, 10, 11, 12, 13, 14, 15, 16, 17, 18, 19, 20, 21, 22, 23, 24, 25, 26, 27, 28, 29]),
        (⟨some 99, .bin .neq (.t 98) (.c (.int .i64 0)), some (96, true)⟩, 0, [0, 1, 2, 3, 4, 5, 6, 7, 8, 9, 10, 11, 12, 13, 14, 15, 16, 17, 18, 19, 20, 21, 22, 23, 24, 25, 26, 27, 28, 29, 30]),
        (⟨some 100, .pick (.t 96) (.t 99) (.c (.bool false)), some (87, false)⟩, 0, [0, 1, 2, 3, 4, 5, 6, 7, 8, 9, 10, 11, 12, 13, 14, 15, 16, 17, 18, 19, 20, 21, 22, 23, 24, 25, 26, 27, 28, 29, 30, 31]),
        (⟨some 101, .pick (.t 87) (.c (.bool true)) (.t 100), none⟩, 0, [0, 1, 2, 3, 4, 5, 6, 7, 8, 9, 10, 11, 12, 13, 14, 15, 16, 17, 18, 19, 20, 21, 22, 23, 24, 25, 26, 27, 28, 29, 30, 31, 32])])
    (.seq (.prune [1, 2, 101]) (.cond (.t 101) (.seq (.reg [
          ⟨some 4, .mv (.c (.bool false)), none⟩])
      (.ret))
    (.skip))))
  (.seq (.prune [1, 2]) (.seq (.seq (.reg [
        ⟨some 102, .fa 6 (.t 2), none⟩,
        ⟨some 103, .lds (.t 102), none⟩,
        ⟨some 104, .bin .geq (.t 103) (.c (.int .i64 2)), none⟩,
        ⟨some 105, .mv (.t 104), none⟩,
        ⟨some 106, .fa 8 (.t 2), some (105, true)⟩,
        ⟨some 107, .lds (.t 106), some (105, true)⟩,
        ⟨some 108, .call false 44 [(.t 107)], some (105, true)⟩,
        ⟨some 109, .pick (.t 105) (.t 108) (.c (.bool false)), none⟩,
        ⟨some 110, .mv (.t 109), none⟩,
        ⟨some 111, .fa 7 (.t 2), some (110, true)⟩,
        ⟨some 112, .lds (.t 111), some (110, true)⟩,
        ⟨some 113, .bin .eql (.t 112) (.c (.int .i64 0)), some (110, true)⟩,
        ⟨some 114, .pick (.t 110) (.t 113) (.c (.bool false)), none⟩])
    (.seq (.prune [1, 2, 114]) (.cond (.t 114) (.seq (.reg [
          ⟨some 4, .mv (.c (.bool false)), none⟩])
      (.ret))
    (.skip))))
  (.seq (.prune [1, 2]) (.seq (.seq (.reg [
        ⟨some 115, .fa 9 (.t 2), none⟩,
        ⟨some 116, .lds (.t 115), none⟩,
        ⟨some 117, .bin .neq (.t 116) (.c (.int .i64 2)), none⟩,
        ⟨some 118, .mv (.t 117), none⟩,
        ⟨some 119, .fa 11 (.t 2), some (118, true)⟩,
        ⟨some 120, .lds (.t 119), some (118, true)⟩,
        ⟨some 121, .len .slice (.t 120), some (118, true)⟩,
        ⟨some 122, .bin .neq (.t 121) (.c (.int .i64 0)), some (118, true)⟩,
        ⟨some 123, .pick (.t 118) (.t 122) (.c (.bool false)), none⟩,
        ⟨some 124, .mv (.t 123), none⟩,
        ⟨some 125, .fa 9 (.t 2), some (124, false)⟩,
        ⟨some 126, .lds (.t 125), some (124, false)⟩,
        ⟨some 127, .bin .eql (.t 126) (.c (.int .i64 2)), some (124, false)⟩,
        ⟨some 128, .mv (.t 127), some (124, false)⟩,
        ⟨some 129, .fa 11 (.t 2), some (128, true)⟩,
        ⟨some 130, .lds (.t 129), some (128, true)⟩,
        ⟨some 131, .len .slice (.t 130), some (128, true)⟩,
        ⟨some 132, .bin .lss (.t 131) (.c (.int .i64 1)), some (128, true)⟩,
        ⟨some 133, .mv (.t 132), some (128, true)⟩,
        ⟨some 134, .fa 11 (.t 2), some (133, false)⟩,
        ⟨some 135, .lds (.t 134), some (133, false)⟩,
        ⟨some 136, .len .slice (.t 135), some (133, false)⟩,
        ⟨some 137, .bin .gtr (.t 136) (.c (.int .i64 9)), some (133, false)⟩,
        ⟨some 138, .pick (.t 133) (.c (.bool true)) (.t 137), some (128, true)⟩,
        ⟨some 139, .mv (.t 138), some (128, true)⟩,
        ⟨some 140, .fa 11 (.t 2), some (139, false)⟩,
        ⟨some 141, .lds (.t 140), some (139, false)⟩,
        ⟨some 142, .call false 44 [(.t 141)], some (139, false)⟩,
        ⟨some 143, .pick (.t 139) (.c (.bool true)) (.t 142), some (128, true)⟩,
        ⟨some 144, .pick (.t 128) (.t 143) (.c (.bool false)), some (124, false)⟩,
        ⟨some 145, .pick (.t 124) (.c (.bool true)) (.t 144), none⟩,
        ⟨some 146, .mv (.t 145), none⟩,
        ⟨some 147, .fa 9 (.t 2), some (146, false)⟩,
        ⟨some 148, .lds (.t 147), some (146, false)⟩,
        ⟨some 149, .bin .eql (.t 148) (.c (.int .i64 1)), some (146, false)⟩,
        ⟨some 150, .fa 10 (.t 2), some (146, false)⟩,
        ⟨some 151, .lds (.t 150), some (146, false)⟩,
        ⟨some 152, .bin .neq (.t 151) (.c (.int .i64 0)), some (146, false)⟩,
        ⟨some 153, .eqv true .bool (.t 149) (.t 152), some (146, false)⟩,
        ⟨some 154, .pick (.t 146) (.c (.bool true)) (.t 153), none⟩])
    (.seq (.prune [1, 2, 154]) (.cond (.t 154) (.seq (.reg [
          ⟨some 4, .mv (.c (.bool false)), none⟩])
      (.ret))
    (.skip))))
  (.seq (.prune [1, 2]) (.seq (.seq (.reg [
        ⟨some 7, .mv (.c (.int .i64 0)), none⟩])
    (.seq (.prune [1, 2, 7]) (.block 2 (.loop [7, 1, 2] (.seq (.seq (.reg [
              ⟨some 155, .mv (.t 7), none⟩,
              ⟨some 156, .fa 8 (.t 2), none⟩,
              ⟨some 157, .lds (.t 156), none⟩,
              ⟨some 158, .len .slice (.t 157), none⟩,
              ⟨some 159, .bin .lss (.t 155) (.t 158), none⟩])
          (.seq (.prune [1, 2, 7, 159]) (.cond (.t 159) (.skip)
          (.exit 2))))
        (.seq (.prune [1, 2, 7]) (.seq (.block 3 (.seq (.reg [
                ⟨some 162, .fa 8 (.t 2), none⟩,
                ⟨some 163, .lds (.t 162), none⟩,
                ⟨some 164, .mv (.t 7), none⟩,
                ⟨some 165, .ia 12 (.t 163) (.t 164), none⟩,
                ⟨some 166, .lda 12 (.t 165), none⟩,
                ⟨some 167, .mv (.t 1), none⟩,
                ⟨some 168, .bin .sub (.t 167) (.c (.int .i64 1)), none⟩,
                ⟨some 169, .call false 46 [(.t 166), (.t 168)], none⟩,
                ⟨some 170, .un .not (.t 169), none⟩])
            (.seq (.prune [1, 2, 7, 170]) (.cond (.t 170) (.seq (.reg [
                  ⟨some 4, .mv (.c (.bool false)), none⟩])
              (.ret))
            (.skip)))))
        (.seq (.prune [1, 2, 7]) (.reg [
          ⟨some 160, .mv (.t 7), none⟩,
          ⟨some 161, .bin .add (.t 160) (.c (.int .i64 1)), none⟩,
          ⟨some 7, .mv (.t 161), none⟩])))))))))
  (.seq (.prune [1, 2]) (.seq (.seq (.reg [
        ⟨some 8, .mv (.c (.int .i64 0)), none⟩])
    (.seq (.prune [1, 2, 8]) (.block 4 (.loop [8, 1, 2] (.seq (.seq (.reg [
              ⟨some 171, .mv (.t 8), none⟩,
              ⟨some 172, .fa 11 (.t 2), none⟩,
              ⟨some 173, .lds (.t 172), none⟩,
              ⟨some 174, .len .slice (.t 173), none⟩,
              ⟨some 175, .bin .lss (.t 171) (.t 174), none⟩])
          (.seq (.prune [1, 2, 8, 175]) (.cond (.t 175) (.skip)
          (.exit 4))))
        (.seq (.prune [1, 2, 8]) (.seq (.block 5 (.seq (.reg [
                ⟨some 178, .fa 11 (.t 2), none⟩,
                ⟨some 179, .lds (.t 178), none⟩,
                ⟨some 180, .mv (.t 8), none⟩,
                ⟨some 181, .ia 12 (.t 179) (.t 180), none⟩,
                ⟨some 182, .lda 12 (.t 181), none⟩,
                ⟨some 183, .mv (.t 1), none⟩,
                ⟨some 184, .bin .sub (.t 183) (.c (.int .i64 1)), none⟩,
                ⟨some 185, .call false 46 [(.t 182), (.t 184)], none⟩,
                ⟨some 186, .un .not (.t 185), none⟩])
            (.seq (.prune [1, 2, 8, 186]) (.cond (.t 186) (.seq (.reg [
                  ⟨some 4, .mv (.c (.bool false)), none⟩])
              (.ret))
            (.skip)))))
        (.seq (.prune [1, 2, 8]) (.reg [
          ⟨some 176, .mv (.t 8), none⟩,
          ⟨some 177, .bin .add (.t 176) (.c (.int .i64 1)), none⟩,
          ⟨some 8, .mv (.t 177), none⟩])))))))))
  (.seq (.prune []) (.seq (.reg [
      ⟨some 4, .mv (.c (.bool true)), none⟩])
  (.ret))))))))))))))))))),
  [.t 4]⟩
/-- cmp.Or[int] -/
def a47 : AFunc := ⟨.seq (.reg [
      ⟨some 2, .mv (.c (.int .i64 0)), none⟩])
  (.seq (.prune [0]) (.seq (.reg [
      ⟨some 3, .mv (.c (.int .i64 0)), none⟩])
  (.seq (.prune [0, 3]) (.seq (.seq (.reg [
        ⟨some 6, .mv (.t 0), none⟩,
        ⟨some 7, .len .slice (.t 6), none⟩,
        ⟨some 8, .mv (.c (.int .i64 0)), none⟩])
    (.seq (.prune [3, 6, 7, 8]) (.block 0 (.loop [8, 3, 6, 7] (.seq (.reg [
            ⟨some 9, .bin .lss (.t 8) (.t 7), none⟩])
        (.seq (.prune [3, 6, 7, 8, 9]) (.seq (.cond (.t 9) (.skip)
          (.exit 0))
        (.seq (.prune [3, 6, 7, 8]) (.seq (.block 1 (.seq (.reg [
                ⟨some 10, .ia 1 (.t 6) (.t 8), none⟩,
                ⟨some 11, .lds (.t 10), none⟩,
                ⟨some 5, .mv (.t 11), none⟩])
            (.seq (.prune [3, 5, 6, 7, 8]) (.seq (.reg [
                ⟨some 12, .mv (.t 5), none⟩,
                ⟨some 13, .mv (.t 3), none⟩,
                ⟨some 14, .bin .neq (.t 12) (.t 13), none⟩])
            (.seq (.prune [3, 5, 6, 7, 8, 14]) (.cond (.t 14) (.seq (.reg [
                  ⟨some 15, .mv (.t 5), none⟩,
                  ⟨some 2, .mv (.t 15), none⟩])
              (.ret))
            (.skip)))))))
        (.seq (.prune [3, 6, 7, 8]) (.reg [
          ⟨some 16, .bin .add (.t 8) (.c (.int .i64 1)), none⟩,
          ⟨some 8, .mv (.t 16), none⟩])))))))))))
  (.seq (.prune [3]) (.seq (.reg [
      ⟨some 17, .mv (.t 3), none⟩,
      ⟨some 2, .mv (.t 17), none⟩])
  (.ret))))))),
  [.t 2]⟩
/-- bezel/coerce.first -/
def a48 : AFunc := ⟨.seq (.reg [
      ⟨some 4, .mv (.c (.bool false)), none⟩])
  (.seq (.prune [0, 1]) (.seq (.reg [
      ⟨some 5, .mv (.t 0), none⟩,
      ⟨some 6, .bin .eql (.t 5) (.c (.int .i64 1)), none⟩,
      ⟨some 7, .mv (.t 6), none⟩,
      ⟨some 8, .mv (.t 1), some (7, false)⟩,
      ⟨some 9, .bin .eql (.t 8) (.c (.int .i64 0)), some (7, false)⟩,
      ⟨some 10, .pick (.t 7) (.c (.bool true)) (.t 9), none⟩,
      ⟨some 4, .mv (.t 10), none⟩])
  (.ret))),
  [.t 4]⟩
/-- bezel/bezelref07.either -/
def a49 : AFunc := ⟨.seq (.reg [
      ⟨some 4, .mv (.c (.int .i64 0)), none⟩])
  (.seq (.prune [0, 1]) (.seq (.seq (.reg [
        ⟨some 5, .mv (.t 0), none⟩,
        ⟨some 6, .bin .neq (.t 5) (.c (.int .i64 0)), none⟩])
    (.seq (.prune [0, 1, 6]) (.cond (.t 6) (.seq (.reg [
          ⟨some 7, .mv (.t 0), none⟩,
          ⟨some 4, .mv (.t 7), none⟩])
      (.ret))
    (.skip))))
  (.seq (.prune [1]) (.seq (.reg [
      ⟨some 8, .mv (.t 1), none⟩,
      ⟨some 4, .mv (.t 8), none⟩])
  (.ret))))),
  [.t 4]⟩
/-- bezel/coerce.right -/
def a50 : AFunc := ⟨.seq (.reg [
      ⟨some 2, .box (.t 0), none⟩,
      ⟨some 3, .box (.t 1), none⟩,
      ⟨some 4, .mv (.c (.bool false)), none⟩])
  (.seq (.prune [2, 3]) (.seq (.reg [
      ⟨some 8, .mkf 57 [(.t 3)], none⟩,
      ⟨some 5, .mv (.t 8), none⟩])
  (.seq (.prune [2, 3, 5]) (.seq (.reg [
      ⟨some 6, .mv (.c (.fn 58 [])), none⟩])
  (.seq (.prune [2, 3, 5, 6]) (.seq (.reg [
      ⟨some 9, .fa 8 (.t 2), none⟩,
      ⟨some 10, .lds (.t 9), none⟩,
      ⟨some 11, .call false 56 [(.t 10), (.c (.fn 45 []))], none⟩,
      ⟨some 7, .mv (.t 11), none⟩])
  (.seq (.prune [2, 3, 5, 6, 7]) (.seq (.block 0 (.seq (.reg [
          ⟨some 13, .lds (.t 3), none⟩,
          ⟨some 14, .bin .eql (.t 13) (.c (.int .i64 0)), none⟩,
          ⟨some 15, .mv (.t 14), none⟩,
          ⟨some 16, .fa 0 (.t 2), some (15, false)⟩,
          ⟨some 17, .slca 6 1 none (.t 16) none none none, some (15, false)⟩,
          ⟨some 18, .mv (.t 6), some (15, false)⟩,
          ⟨some 19, .call false 60 [(.t 17), (.t 18)], some (15, false)⟩,
          ⟨some 20, .pick (.t 15) (.c (.bool true)) (.t 19), none⟩,
          ⟨some 21, .mv (.t 20), none⟩,
          ⟨some 22, .mv (.t 6), some (21, false)⟩,
          ⟨some 23, .fa 7 (.t 2), some (21, false)⟩,
          ⟨some 24, .lds (.t 23), some (21, false)⟩,
          ⟨some 25, .callv false (.t 22) [(.t 24)], some (21, false)⟩,
          ⟨some 26, .pick (.t 21) (.c (.bool true)) (.t 25), none⟩,
          ⟨some 27, .mv (.t 26), none⟩,
          ⟨some 28, .mv (.t 6), some (27, false)⟩,
          ⟨some 29, .fa 10 (.t 2), some (27, false)⟩,
          ⟨some 30, .lds (.t 29), some (27, false)⟩,
          ⟨some 31, .callv false (.t 28) [(.t 30)], some (27, false)⟩,
          ⟨some 32, .pick (.t 27) (.c (.bool true)) (.t 31), none⟩,
          ⟨some 12, .mv (.t 32), none⟩])
      (.seq (.prune [2, 5, 7, 12]) (.cond (.t 12) (.seq (.reg [
            ⟨some 4, .mv (.c (.bool false)), none⟩])
        (.ret))
      (.seq (.reg [
            ⟨some 34, .fa 6 (.t 2), none⟩,
            ⟨some 35, .lds (.t 34), none⟩,
            ⟨some 36, .bin .lss (.t 35) (.c (.int .i64 0)), none⟩,
            ⟨some 37, .mv (.t 36), none⟩,
            ⟨some 38, .fa 6 (.t 2), some (37, false)⟩,
            ⟨some 39, .lds (.t 38), some (37, false)⟩,
            ⟨some 40, .bin .gtr (.t 39) (.c (.int .i64 3)), some (37, false)⟩,
            ⟨some 41, .pick (.t 37) (.c (.bool true)) (.t 40), none⟩,
            ⟨some 42, .mv (.t 41), none⟩,
            ⟨some 43, .fa 9 (.t 2), some (42, false)⟩,
            ⟨some 44, .lds (.t 43), some (42, false)⟩,
            ⟨some 45, .bin .lss (.t 44) (.c (.int .i64 0)), some (42, false)⟩,
            ⟨some 46, .pick (.t 42) (.c (.bool true)) (.t 45), none⟩,
            ⟨some 47, .mv (.t 46), none⟩,
            ⟨some 48, .fa 9 (.t 2), some (47, false)⟩,
            ⟨some 49, .lds (.t 48), some (47, false)⟩,
            ⟨some 50, .bin .gtr (.t 49) (.c (.int .i64 3)), some (47, false)⟩,
            ⟨some 51, .pick (.t 47) (.c (.bool true)) (.t 50), none⟩,
            ⟨some 33, .mv (.t 51), none⟩])
        (.seq (.prune [2, 5, 7, 33]) (.cond (.t 33) (.seq (.reg [
              ⟨some 4, .mv (.c (.bool false)), none⟩])
          (.ret))
        (.seq (.draw 0 [
              (⟨some 53, .fa 8 (.t 2), none⟩, 0, []),
              (⟨some 54, .lds (.t 53), none⟩, 0, [0]),
              (⟨some 55, .len .slice (.t 54), none⟩, 0, [0, 1]),
              (⟨some 56, .build [.int .i64 0, .int .i64 0, .int .i64 0, .int .i64 0] [(0, 1, (.c (.int .i64 0))), (1, 1, (.c (.int .i64 0))), (2, 1, (.c (.int .i64 2))), (3, 1, (.c (.int .i64 1)))], none⟩, 0, []),
              (⟨some 57, .fa 6 (.t 2), none⟩, 0, []),
              (⟨some 58, .lds (.t 57), none⟩, 0, [4]),
              (⟨some 59, .ixa 4 1 none (.t 56) (.t 58), none⟩, 0, [3, 4, 5]),
              (⟨some 60, .bin .neq (.t 55) (.t 59), none⟩, 0, [0, 1, 2, 3, 4, 5, 6]),
              (⟨some 52, .mv (.t 60), none⟩, 0, [0, 1, 2, 3, 4, 5, 6, 7])])
          (.seq (.prune [2, 5, 7, 52]) (.cond (.t 52) (.seq (.reg [
                ⟨some 4, .mv (.c (.bool false)), none⟩])
            (.ret))
          (.seq (.reg [
                ⟨some 62, .fa 6 (.t 2), none⟩,
                ⟨some 63, .lds (.t 62), none⟩,
                ⟨some 64, .bin .eql (.t 63) (.c (.int .i64 1)), none⟩,
                ⟨some 65, .mv (.t 64), none⟩,
                ⟨some 66, .fa 7 (.t 2), some (65, true)⟩,
                ⟨some 67, .lds (.t 66), some (65, true)⟩,
                ⟨some 68, .bin .eql (.t 67) (.c (.int .i64 0)), some (65, true)⟩,
                ⟨some 69, .pick (.t 65) (.t 68) (.c (.bool false)), none⟩,
                ⟨some 70, .mv (.t 69), none⟩,
                ⟨some 71, .fa 6 (.t 2), some (70, false)⟩,
                ⟨some 72, .lds (.t 71), some (70, false)⟩,
                ⟨some 73, .bin .eql (.t 72) (.c (.int .i64 3)), some (70, false)⟩,
                ⟨some 74, .mv (.t 73), some (70, false)⟩,
                ⟨some 75, .fa 7 (.t 2), some (74, true)⟩,
                ⟨some 76, .lds (.t 75), some (74, true)⟩,
                ⟨some 77, .bin .eql (.t 76) (.c (.int .i64 0)), some (74, true)⟩,
                ⟨some 78, .pick (.t 74) (.t 77) (.c (.bool false)), some (70, false)⟩,
                ⟨some 79, .mv (.t 78), some (70, false)⟩,
                ⟨some 80, .mv (.t 7), some (79, true)⟩,
                ⟨some 81, .un .not (.t 80), some (79, true)⟩,
                ⟨some 82, .pick (.t 79) (.t 81) (.c (.bool false)), some (70, false)⟩,
                ⟨some 83, .pick (.t 70) (.c (.bool true)) (.t 82), none⟩,
                ⟨some 61, .mv (.t 83), none⟩])
            (.seq (.prune [2, 5, 7, 61]) (.cond (.t 61) (.seq (.reg [
                  ⟨some 4, .mv (.c (.bool false)), none⟩])
              (.ret))
            (.seq (.reg [
                  ⟨some 85, .fa 6 (.t 2), none⟩,
                  ⟨some 86, .lds (.t 85), none⟩,
                  ⟨some 87, .bin .eql (.t 86) (.c (.int .i64 2)), none⟩,
                  ⟨some 88, .mv (.t 87), none⟩,
                  ⟨some 89, .mv (.t 7), some (88, true)⟩,
                  ⟨some 90, .un .not (.t 89), some (88, true)⟩,
                  ⟨some 91, .pick (.t 88) (.t 90) (.c (.bool false)), none⟩,
                  ⟨some 92, .mv (.t 91), none⟩,
                  ⟨some 93, .fa 6 (.t 2), some (92, false)⟩,
                  ⟨some 94, .lds (.t 93), some (92, false)⟩,
                  ⟨some 95, .bin .eql (.t 94) (.c (.int .i64 0)), some (92, false)⟩,
                  ⟨some 96, .mv (.t 95), some (92, false)⟩,
                  ⟨some 97, .fa 6 (.t 2), some (96, false)⟩,
                  ⟨some 98, .lds (.t 97), some (96, false)⟩,
                  ⟨some 99, .bin .eql (.t 98) (.c (.int .i64 2)), some (96, false)⟩,
                  ⟨some 100, .pick (.t 96) (.c (.bool true)) (.t 99), some (92, false)⟩,
                  ⟨some 101, .mv (.t 100), some (92, false)⟩,
                  ⟨some 102, .fa 7 (.t 2), some (101, true)⟩,
                  ⟨some 103, .lds (.t 102), some (101, true)⟩,
                  ⟨some 104, .bin .neq (.t 103) (.c (.int .i64 0)), some (101, true)⟩,
                  ⟨some 105, .pick (.t 101) (.t 104) (.c (.bool false)), some (92, false)⟩,
                  ⟨some 106, .pick (.t 92) (.c (.bool true)) (.t 105), none⟩,
                  ⟨some 84, .mv (.t 106), none⟩])
              (.seq (.prune [2, 5, 84]) (.cond (.t 84) (.seq (.reg [
                    ⟨some 4, .mv (.c (.bool false)), none⟩])
                (.ret))
              (.seq (.reg [
                    ⟨some 108, .fa 9 (.t 2), none⟩,
                    ⟨some 109, .lds (.t 108), none⟩,
                    ⟨some 110, .bin .eql (.t 109) (.c (.int .i64 2)), none⟩,
                    ⟨some 111, .mv (.t 110), none⟩,
                    ⟨some 112, .fa 11 (.t 2), some (111, true)⟩,
                    ⟨some 113, .lds (.t 112), some (111, true)⟩,
                    ⟨some 114, .len .slice (.t 113), some (111, true)⟩,
                    ⟨some 115, .bin .gtr (.t 114) (.c (.int .i64 9)), some (111, true)⟩,
                    ⟨some 116, .mv (.t 115), some (111, true)⟩,
                    ⟨some 117, .fa 11 (.t 2), some (116, false)⟩,
                    ⟨some 118, .lds (.t 117), some (116, false)⟩,
                    ⟨some 119, .call false 56 [(.t 118), (.c (.fn 45 []))], some (116, false)⟩,
                    ⟨some 120, .un .not (.t 119), some (116, false)⟩,
                    ⟨some 121, .pick (.t 116) (.c (.bool true)) (.t 120), some (111, true)⟩,
                    ⟨some 122, .pick (.t 111) (.t 121) (.c (.bool false)), none⟩,
                    ⟨some 107, .mv (.t 122), none⟩])
                (.seq (.prune [2, 5, 107]) (.cond (.t 107) (.seq (.reg [
                      ⟨some 4, .mv (.c (.bool false)), none⟩])
                  (.ret))
                (.seq (.reg [
                      ⟨some 124, .fa 9 (.t 2), none⟩,
                      ⟨some 125, .lds (.t 124), none⟩,
                      ⟨some 126, .bin .neq (.t 125) (.c (.int .i64 2)), none⟩,
                      ⟨some 127, .mv (.t 126), none⟩,
                      ⟨some 128, .fa 11 (.t 2), some (127, true)⟩,
                      ⟨some 129, .lds (.t 128), some (127, true)⟩,
                      ⟨some 130, .len .slice (.t 129), some (127, true)⟩,
                      ⟨some 131, .bin .gtr (.t 130) (.c (.int .i64 0)), some (127, true)⟩,
                      ⟨some 132, .pick (.t 127) (.t 131) (.c (.bool false)), none⟩,
                      ⟨some 133, .mv (.t 132), none⟩,
                      ⟨some 134, .fa 9 (.t 2), some (133, false)⟩,
                      ⟨some 135, .lds (.t 134), some (133, false)⟩,
                      ⟨some 136, .bin .eql (.t 135) (.c (.int .i64 1)), some (133, false)⟩,
                      ⟨some 137, .fa 10 (.t 2), some (133, false)⟩,
                      ⟨some 138, .lds (.t 137), some (133, false)⟩,
                      ⟨some 139, .bin .neq (.t 138) (.c (.int .i64 0)), some (133, false)⟩,
                      ⟨some 140, .eqv true .bool (.t 136) (.t 139), some (133, false)⟩,
                      ⟨some 141, .pick (.t 133) (.c (.bool true)) (.t 140), none⟩,
                      ⟨some 123, .mv (.t 141), none⟩])
                  (.seq (.prune [2, 5, 123]) (.cond (.t 123) (.seq (.reg [
                        ⟨some 4, .mv (.c (.bool false)), none⟩])
                    (.ret))
                  (.skip)))))))))))))))))))))))
  (.seq (.prune [2, 5]) (.seq (.reg [
      ⟨some 142, .fa 8 (.t 2), none⟩,
      ⟨some 143, .lds (.t 142), none⟩,
      ⟨some 144, .mv (.t 5), none⟩,
      ⟨some 145, .call false 56 [(.t 143), (.t 144)], none⟩,
      ⟨some 146, .un .not (.t 145), none⟩,
      ⟨some 147, .mv (.t 146), none⟩,
      ⟨some 148, .fa 11 (.t 2), some (147, true)⟩,
      ⟨some 149, .lds (.t 148), some (147, true)⟩,
      ⟨some 150, .mv (.t 5), some (147, true)⟩,
      ⟨some 151, .call false 56 [(.t 149), (.t 150)], some (147, true)⟩,
      ⟨some 152, .un .not (.t 151), some (147, true)⟩,
      ⟨some 153, .pick (.t 147) (.t 152) (.c (.bool false)), none⟩,
      ⟨some 4, .mv (.t 153), none⟩])
  (.ret))))))))))),
  [.t 4]⟩
/-- slices.Concat[[]bezel/coerce.C,bezel/coerce.C] -/
def a51 : AFunc := ⟨.seq (.reg [
      ⟨some 2, .mv (.c (.lst [] true)), none⟩])
  (.seq (.prune [0]) (.seq (.reg [
      ⟨some 3, .mv (.c (.int .i64 0)), none⟩])
  (.seq (.prune [0, 3]) (.seq (.seq (.reg [
        ⟨some 9, .mv (.t 0), none⟩,
        ⟨some 10, .len .slice (.t 9), none⟩,
        ⟨some 11, .mv (.c (.int .i64 0)), none⟩])
    (.seq (.prune [0, 3, 9, 10, 11]) (.block 0 (.loop [3, 11, 0, 9, 10] (.seq (.reg [
            ⟨some 12, .bin .lss (.t 11) (.t 10), none⟩])
        (.seq (.prune [0, 3, 9, 10, 11, 12]) (.seq (.cond (.t 12) (.skip)
          (.exit 0))
        (.seq (.prune [0, 3, 9, 10, 11]) (.seq (.block 1 (.seq (.reg [
                ⟨some 13, .ia 1 (.t 9) (.t 11), none⟩,
                ⟨some 14, .lds (.t 13), none⟩,
                ⟨some 5, .mv (.t 14), none⟩])
            (.seq (.prune [0, 3, 5, 9, 10, 11]) (.seq (.reg [
                ⟨some 15, .mv (.t 3), none⟩,
                ⟨some 16, .mv (.t 5), none⟩,
                ⟨some 17, .len .slice (.t 16), none⟩,
                ⟨some 18, .bin .add (.t 15) (.t 17), none⟩,
                ⟨some 3, .mv (.t 18), none⟩])
            (.seq (.prune [0, 3, 9, 10, 11]) (.seq (.reg [
                ⟨some 19, .mv (.t 3), none⟩,
                ⟨some 20, .bin .lss (.t 19) (.c (.int .i64 0)), none⟩])
            (.seq (.prune [0, 3, 9, 10, 11, 20]) (.cond (.t 20) (.reg [
                ⟨some 21, .mki 9 (.c (.str [108, 101, 110, 32, 111, 117, 116, 32, 111, 102, 32, 114, 97, 110, 103, 101])), none⟩,
                ⟨none, .panic (.t 21), none⟩])
            (.skip)))))))))
        (.seq (.prune [0, 3, 9, 10, 11]) (.reg [
          ⟨some 22, .bin .add (.t 11) (.c (.int .i64 1)), none⟩,
          ⟨some 11, .mv (.t 22), none⟩])))))))))))
  (.seq (.prune [0, 3]) (.seq (.reg [
      ⟨some 23, .mv (.t 3), none⟩,
      ⟨some 24, .call true 61 [(.c (.lst [] true)), (.t 23)], none⟩,
      ⟨some 6, .mv (.t 24), none⟩])
  (.seq (.prune [0, 6]) (.seq (.seq (.reg [
        ⟨some 25, .mv (.t 0), none⟩,
        ⟨some 26, .len .slice (.t 25), none⟩,
        ⟨some 27, .mv (.c (.int .i64 0)), none⟩])
    (.seq (.prune [6, 25, 26, 27]) (.block 2 (.seq (.own 6 none)
      (.loop [6, 27, 25, 26] (.seq (.reg [
            ⟨some 28, .bin .lss (.t 27) (.t 26), none⟩])
        (.seq (.prune [6, 25, 26, 27, 28]) (.seq (.cond (.t 28) (.skip)
          (.exit 2))
        (.seq (.prune [6, 25, 26, 27]) (.seq (.block 3 (.seq (.reg [
                ⟨some 29, .ia 1 (.t 25) (.t 27), none⟩,
                ⟨some 30, .lds (.t 29), none⟩,
                ⟨some 8, .mv (.t 30), none⟩])
            (.seq (.prune [6, 8, 25, 26, 27]) (.reg [
              ⟨some 31, .mv (.t 6), none⟩,
              ⟨some 32, .mv (.t 8), none⟩,
              ⟨some 33, .app 12 128 false (.t 31) (.t 32), none⟩,
              ⟨some 6, .mv (.t 33), none⟩]))))
        (.seq (.prune [6, 25, 26, 27]) (.reg [
          ⟨some 34, .bin .add (.t 27) (.c (.int .i64 1)), none⟩,
          ⟨some 27, .mv (.t 34), none⟩]))))))))))))
  (.seq (.prune [6]) (.seq (.reg [
      ⟨some 35, .mv (.t 6), none⟩,
      ⟨some 2, .mv (.t 35), none⟩])
  (.ret))))))))))),
  [.t 2]⟩
/-- slices.EqualFunc[[]bezel/coerce.C,[]bezel/coerce.C,bezel/coerce.C,bezel/coerce.C] -/
def a52 : AFunc := ⟨.seq (.reg [
      ⟨some 6, .mv (.c (.bool false)), none⟩])
  (.seq (.prune [0, 1, 2]) (.seq (.seq (.reg [
        ⟨some 10, .mv (.t 0), none⟩,
        ⟨some 11, .len .slice (.t 10), none⟩,
        ⟨some 12, .mv (.t 1), none⟩,
        ⟨some 13, .len .slice (.t 12), none⟩,
        ⟨some 14, .bin .neq (.t 11) (.t 13), none⟩])
    (.seq (.prune [0, 1, 2, 14]) (.cond (.t 14) (.seq (.reg [
          ⟨some 6, .mv (.c (.bool false)), none⟩])
      (.ret))
    (.skip))))
  (.seq (.prune [0, 1, 2]) (.seq (.seq (.reg [
        ⟨some 15, .mv (.t 0), none⟩,
        ⟨some 16, .len .slice (.t 15), none⟩,
        ⟨some 17, .mv (.c (.int .i64 0)), none⟩])
    (.seq (.prune [1, 2, 15, 16, 17]) (.block 0 (.loop [17, 1, 2, 15, 16] (.seq (.reg [
            ⟨some 18, .bin .lss (.t 17) (.t 16), none⟩])
        (.seq (.prune [1, 2, 15, 16, 17, 18]) (.seq (.cond (.t 18) (.skip)
          (.exit 0))
        (.seq (.prune [1, 2, 15, 16, 17]) (.seq (.block 1 (.seq (.reg [
                ⟨some 19, .mv (.t 17), none⟩,
                ⟨some 20, .ia 12 (.t 15) (.t 17), none⟩,
                ⟨some 21, .lda 12 (.t 20), none⟩,
                ⟨some 8, .alloc [.int .i64 0, .int .i64 0, .int .i64 0, .int .i64 0, .int .i64 0, .int .i64 0, .int .i64 0, .int .i64 0, .lst [] true, .int .i64 0, .int .i64 0, .lst [] true], none⟩,
                ⟨some 7, .mv (.t 19), none⟩,
                ⟨none, .sta 12 (.t 8) (.t 21), none⟩])
            (.seq (.prune [1, 2, 7, 8, 15, 16, 17]) (.seq (.reg [
                ⟨some 22, .mv (.t 1), none⟩,
                ⟨some 23, .mv (.t 7), none⟩,
                ⟨some 24, .ia 12 (.t 22) (.t 23), none⟩,
                ⟨some 25, .lda 12 (.t 24), none⟩,
                ⟨some 9, .alloc [.int .i64 0, .int .i64 0, .int .i64 0, .int .i64 0, .int .i64 0, .int .i64 0, .int .i64 0, .int .i64 0, .lst [] true, .int .i64 0, .int .i64 0, .lst [] true], none⟩,
                ⟨none, .sta 12 (.t 9) (.t 25), none⟩])
            (.seq (.prune [1, 2, 8, 9, 15, 16, 17]) (.seq (.reg [
                ⟨some 26, .mv (.t 2), none⟩,
                ⟨some 27, .lda 12 (.t 8), none⟩,
                ⟨some 28, .lda 12 (.t 9), none⟩,
                ⟨some 29, .callv false (.t 26) [(.t 27), (.t 28)], none⟩,
                ⟨some 30, .un .not (.t 29), none⟩])
            (.seq (.prune [1, 2, 15, 16, 17, 30]) (.cond (.t 30) (.seq (.reg [
                  ⟨some 6, .mv (.c (.bool false)), none⟩])
              (.ret))
            (.skip)))))))))
        (.seq (.prune [1, 2, 15, 16, 17]) (.reg [
          ⟨some 31, .bin .add (.t 17) (.c (.int .i64 1)), none⟩,
          ⟨some 17, .mv (.t 31), none⟩])))))))))))
  (.seq (.prune []) (.seq (.reg [
      ⟨some 6, .mv (.c (.bool true)), none⟩])
  (.ret))))))),
  [.t 6]⟩
/-- bezel/bezelref07.flats -/
def a53 : AFunc := ⟨.seq (.reg [
      ⟨some 1, .box (.t 0), none⟩,
      ⟨some 2, .mv (.c (.bool false)), none⟩])
  (.seq (.prune [1]) (.seq (.seq (.reg [
        ⟨some 3, .mv (.c (.int .i64 0)), none⟩])
    (.seq (.prune [1, 3]) (.block 0 (.loop [3, 1] (.seq (.seq (.reg [
              ⟨some 4, .mv (.t 3), none⟩,
              ⟨some 5, .bin .lss (.t 4) (.c (.int .i64 6)), none⟩])
          (.seq (.prune [1, 3, 5]) (.cond (.t 5) (.skip)
          (.exit 0))))
        (.seq (.prune [1, 3]) (.seq (.block 1 (.seq (.reg [
                ⟨some 8, .mv (.t 3), none⟩,
                ⟨some 9, .fa 0 (.t 1), none⟩,
                ⟨some 10, .iaa 6 1 (.t 9) (.t 8), none⟩,
                ⟨some 11, .lds (.t 10), none⟩,
                ⟨some 12, .bin .neq (.t 11) (.c (.int .i64 0)), none⟩])
            (.seq (.prune [1, 3, 12]) (.cond (.t 12) (.seq (.reg [
                  ⟨some 2, .mv (.c (.bool false)), none⟩])
              (.ret))
            (.skip)))))
        (.seq (.prune [1, 3]) (.reg [
          ⟨some 6, .mv (.t 3), none⟩,
          ⟨some 7, .bin .add (.t 6) (.c (.int .i64 1)), none⟩,
          ⟨some 3, .mv (.t 7), none⟩])))))))))
  (.seq (.prune []) (.seq (.reg [
      ⟨some 2, .mv (.c (.bool true)), none⟩])
  (.ret))))),
  [.t 2]⟩
/-- bezel/bezelref07.lists -/
def a54 : AFunc := ⟨.seq (.reg [
      ⟨some 2, .box (.t 0), none⟩,
      ⟨some 4, .alloc [.int .i64 0, .int .i64 0, .int .i64 0, .int .i64 0, .int .i64 0, .int .i64 0, .int .i64 0, .int .i64 0, .lst [] true, .int .i64 0, .int .i64 0, .lst [] true], none⟩])
  (.seq (.prune [1, 2, 4]) (.seq (.seq (.reg [
        ⟨some 6, .lda 12 (.t 2), none⟩,
        ⟨some 7, .call false 28 [(.t 6)], none⟩,
        ⟨some 8, .mv (.t 7), none⟩,
        ⟨some 9, .mv (.t 1), some (8, true)⟩,
        ⟨some 10, .bin .eql (.t 9) (.c (.int .i64 0)), some (8, true)⟩,
        ⟨some 11, .pick (.t 8) (.t 10) (.c (.bool false)), none⟩])
    (.seq (.prune [1, 2, 4, 11]) (.cond (.t 11) (.seq (.reg [
          ⟨some 12, .build [.int .i64 0, .int .i64 0, .int .i64 0, .int .i64 0, .int .i64 0, .int .i64 0, .int .i64 0, .int .i64 0, .lst [] true, .int .i64 0, .int .i64 0, .lst [] true] [], none⟩,
          ⟨none, .sta 12 (.t 4) (.t 12), none⟩])
      (.ret))
    (.skip))))
  (.seq (.prune [1, 2, 4]) (.seq (.reg [
      ⟨some 13, .mv (.t 1), none⟩,
      ⟨some 14, .mv (.t 1), none⟩,
      ⟨some 15, .mv (.t 1), none⟩,
      ⟨some 16, .mv (.t 1), none⟩,
      ⟨some 17, .mv (.t 1), none⟩,
      ⟨some 18, .build [.int .i64 0, .int .i64 0, .int .i64 0, .int .i64 0, .int .i64 0, .int .i64 0] [(0, 1, (.t 13)), (1, 1, (.t 14)), (2, 1, (.t 15)), (3, 1, (.t 16)), (4, 1, (.c (.int .i64 0))), (5, 1, (.t 17))], none⟩,
      ⟨some 19, .mv (.t 1), none⟩,
      ⟨some 20, .lda 12 (.t 2), none⟩,
      ⟨some 21, .bsl 12 (.agg [.int .i64 0, .int .i64 0, .int .i64 0, .int .i64 0, .int .i64 0, .int .i64 0, .int .i64 0, .int .i64 0, .lst [] true, .int .i64 0, .int .i64 0, .lst [] true]) 1 [(0, (.t 20))], none⟩,
      ⟨some 22, .build [.int .i64 0, .int .i64 0, .int .i64 0, .int .i64 0, .int .i64 0, .int .i64 0, .int .i64 0, .int .i64 0, .lst [] true, .int .i64 0, .int .i64 0, .lst [] true] [(0, 6, (.t 18)), (6, 1, (.c (.int .i64 3))), (7, 1, (.t 19)), (8, 1, (.t 21))], none⟩,
      ⟨some 5, .alloc [.int .i64 0, .int .i64 0, .int .i64 0, .int .i64 0, .int .i64 0, .int .i64 0, .int .i64 0, .int .i64 0, .lst [] true, .int .i64 0, .int .i64 0, .lst [] true], none⟩,
      ⟨none, .sta 12 (.t 5) (.t 22), none⟩])
  (.seq (.prune [1, 4, 5]) (.seq (.seq (.reg [
        ⟨some 23, .mv (.t 1), none⟩,
        ⟨some 24, .bin .neq (.t 23) (.c (.int .i64 0)), none⟩])
    (.seq (.prune [1, 4, 5, 24]) (.cond (.t 24) (.seq (.reg [
          ⟨some 25, .fa 9 (.t 5), none⟩,
          ⟨none, .sts (.t 25) (.c (.int .i64 1)), none⟩])
      (.seq (.prune [1, 4, 5]) (.reg [
        ⟨some 26, .mv (.t 1), none⟩,
        ⟨some 27, .fa 10 (.t 5), none⟩,
        ⟨none, .sts (.t 27) (.t 26), none⟩])))
    (.skip))))
  (.seq (.prune [4, 5]) (.seq (.reg [
      ⟨some 28, .lda 12 (.t 5), none⟩,
      ⟨none, .sta 12 (.t 4) (.t 28), none⟩])
  (.ret))))))))),
  [.ca 4 12]⟩
/-- bezel/bezelref07.size -/
def a55 : AFunc := ⟨.seq (.reg [
      ⟨some 2, .box (.t 0), none⟩,
      ⟨some 4, .mv (.c (.int .i64 0)), none⟩])
  (.seq (.prune [1, 2]) (.seq (.seq (.reg [
        ⟨some 8, .mv (.t 1), none⟩,
        ⟨some 9, .bin .eql (.t 8) (.c (.int .i64 0)), none⟩])
    (.seq (.prune [1, 2, 9]) (.cond (.t 9) (.seq (.reg [
          ⟨some 4, .mv (.c (.int .i64 1000)), none⟩])
      (.ret))
    (.skip))))
  (.seq (.prune [1, 2]) (.seq (.reg [
      ⟨some 5, .mv (.c (.int .i64 1)), none⟩])
  (.seq (.prune [1, 2, 5]) (.seq (.seq (.reg [
        ⟨some 6, .mv (.c (.int .i64 0)), none⟩])
    (.seq (.prune [1, 2, 5, 6]) (.block 0 (.loop [5, 6, 1, 2] (.seq (.seq (.reg [
              ⟨some 10, .mv (.t 6), none⟩,
              ⟨some 11, .fa 8 (.t 2), none⟩,
              ⟨some 12, .lds (.t 11), none⟩,
              ⟨some 13, .len .slice (.t 12), none⟩,
              ⟨some 14, .bin .lss (.t 10) (.t 13), none⟩,
              ⟨some 15, .mv (.t 14), none⟩,
              ⟨some 16, .mv (.t 5), some (15, true)⟩,
              ⟨some 17, .bin .lss (.t 16) (.c (.int .i64 1000)), some (15, true)⟩,
              ⟨some 18, .pick (.t 15) (.t 17) (.c (.bool false)), none⟩])
          (.seq (.prune [1, 2, 5, 6, 18]) (.cond (.t 18) (.skip)
          (.exit 0))))
        (.seq (.prune [1, 2, 5, 6]) (.seq (.block 1 (.reg [
              ⟨some 21, .mv (.t 5), none⟩,
              ⟨some 22, .fa 8 (.t 2), none⟩,
              ⟨some 23, .lds (.t 22), none⟩,
              ⟨some 24, .mv (.t 6), none⟩,
              ⟨some 25, .ia 12 (.t 23) (.t 24), none⟩,
              ⟨some 26, .lda 12 (.t 25), none⟩,
              ⟨some 27, .mv (.t 1), none⟩,
              ⟨some 28, .bin .sub (.t 27) (.c (.int .i64 1)), none⟩,
              ⟨some 29, .call false 55 [(.t 26), (.t 28)], none⟩,
              ⟨some 30, .bin .add (.t 21) (.t 29), none⟩,
              ⟨some 5, .mv (.t 30), none⟩]))
        (.seq (.prune [1, 2, 5, 6]) (.reg [
          ⟨some 19, .mv (.t 6), none⟩,
          ⟨some 20, .bin .add (.t 19) (.c (.int .i64 1)), none⟩,
          ⟨some 6, .mv (.t 20), none⟩])))))))))
  (.seq (.prune [1, 2, 5]) (.seq (.seq (.reg [
        ⟨some 7, .mv (.c (.int .i64 0)), none⟩])
    (.seq (.prune [1, 2, 5, 7]) (.block 2 (.loop [5, 7, 1, 2] (.seq (.seq (.reg [
              ⟨some 31, .mv (.t 7), none⟩,
              ⟨some 32, .fa 11 (.t 2), none⟩,
              ⟨some 33, .lds (.t 32), none⟩,
              ⟨some 34, .len .slice (.t 33), none⟩,
              ⟨some 35, .bin .lss (.t 31) (.t 34), none⟩,
              ⟨some 36, .mv (.t 35), none⟩,
              ⟨some 37, .mv (.t 5), some (36, true)⟩,
              ⟨some 38, .bin .lss (.t 37) (.c (.int .i64 1000)), some (36, true)⟩,
              ⟨some 39, .pick (.t 36) (.t 38) (.c (.bool false)), none⟩])
          (.seq (.prune [1, 2, 5, 7, 39]) (.cond (.t 39) (.skip)
          (.exit 2))))
        (.seq (.prune [1, 2, 5, 7]) (.seq (.block 3 (.reg [
              ⟨some 42, .mv (.t 5), none⟩,
              ⟨some 43, .fa 11 (.t 2), none⟩,
              ⟨some 44, .lds (.t 43), none⟩,
              ⟨some 45, .mv (.t 7), none⟩,
              ⟨some 46, .ia 12 (.t 44) (.t 45), none⟩,
              ⟨some 47, .lda 12 (.t 46), none⟩,
              ⟨some 48, .mv (.t 1), none⟩,
              ⟨some 49, .bin .sub (.t 48) (.c (.int .i64 1)), none⟩,
              ⟨some 50, .call false 55 [(.t 47), (.t 49)], none⟩,
              ⟨some 51, .bin .add (.t 42) (.t 50), none⟩,
              ⟨some 5, .mv (.t 51), none⟩]))
        (.seq (.prune [1, 2, 5, 7]) (.reg [
          ⟨some 40, .mv (.t 7), none⟩,
          ⟨some 41, .bin .add (.t 40) (.c (.int .i64 1)), none⟩,
          ⟨some 7, .mv (.t 41), none⟩])))))))))
  (.seq (.prune [5]) (.seq (.reg [
      ⟨some 52, .mv (.t 5), none⟩,
      ⟨some 53, .mm false (.t 52) (.c (.int .i64 1000)), none⟩,
      ⟨some 4, .mv (.t 53), none⟩])
  (.ret))))))))))),
  [.t 4]⟩
/-- slices.ContainsFunc[[]bezel/coerce.C,bezel/coerce.C] -/
def a56 : AFunc := ⟨.seq (.reg [
      ⟨some 4, .mv (.c (.bool false)), none⟩])
  (.seq (.prune [0, 1]) (.seq (.reg [
      ⟨some 5, .mv (.t 0), none⟩,
      ⟨some 6, .mv (.t 1), none⟩,
      ⟨some 7, .call false 62 [(.t 5), (.t 6)], none⟩,
      ⟨some 8, .bin .geq (.t 7) (.c (.int .i64 0)), none⟩,
      ⟨some 4, .mv (.t 8), none⟩])
  (.ret))),
  [.t 4]⟩
/-- bezel/coerce.right$1 -/
def a57 : AFunc := ⟨.seq (.reg [
      ⟨some 2, .box (.t 0), none⟩,
      ⟨some 3, .mv (.c (.bool false)), none⟩])
  (.seq (.prune [1, 2]) (.seq (.reg [
      ⟨some 4, .lda 12 (.t 2), none⟩,
      ⟨some 5, .lds (.t 1), none⟩,
      ⟨some 6, .bin .sub (.t 5) (.c (.int .i64 1)), none⟩,
      ⟨some 7, .call false 50 [(.t 4), (.t 6)], none⟩,
      ⟨some 8, .un .not (.t 7), none⟩,
      ⟨some 3, .mv (.t 8), none⟩])
  (.ret))),
  [.t 3]⟩
/-- bezel/coerce.right$2 -/
def a58 : AFunc := ⟨.seq (.reg [
      ⟨some 2, .mv (.c (.bool false)), none⟩])
  (.seq (.prune [0]) (.seq (.reg [
      ⟨some 3, .mv (.t 0), none⟩,
      ⟨some 4, .call false 59 [(.t 3)], none⟩,
      ⟨some 5, .un .not (.t 4), none⟩,
      ⟨some 2, .mv (.t 5), none⟩])
  (.ret))),
  [.t 2]⟩
/-- bezel/coerce.labelled -/
def a59 : AFunc := ⟨.seq (.reg [
      ⟨some 2, .mv (.c (.bool false)), none⟩])
  (.seq (.prune [0]) (.seq (.reg [
      ⟨some 3, .mv (.t 0), none⟩,
      ⟨some 4, .bin .geq (.t 3) (.c (.int .i64 0)), none⟩,
      ⟨some 5, .mv (.t 4), none⟩,
      ⟨some 6, .mv (.t 0), some (5, true)⟩,
      ⟨some 7, .bin .leq (.t 6) (.c (.int .i64 99)), some (5, true)⟩,
      ⟨some 8, .pick (.t 5) (.t 7) (.c (.bool false)), none⟩,
      ⟨some 2, .mv (.t 8), none⟩])
  (.ret))),
  [.t 2]⟩
/-- slices.ContainsFunc[[]int,int] -/
def a60 : AFunc := ⟨.seq (.reg [
      ⟨some 4, .mv (.c (.bool false)), none⟩])
  (.seq (.prune [0, 1]) (.seq (.reg [
      ⟨some 5, .mv (.t 0), none⟩,
      ⟨some 6, .mv (.t 1), none⟩,
      ⟨some 7, .call false 63 [(.t 5), (.t 6)], none⟩,
      ⟨some 8, .bin .geq (.t 7) (.c (.int .i64 0)), none⟩,
      ⟨some 4, .mv (.t 8), none⟩])
  (.ret))),
  [.t 4]⟩
/-- slices.Grow[[]bezel/coerce.C,bezel/coerce.C] -/
def a61 : AFunc := ⟨.seq (.reg [
      ⟨some 4, .mv (.c (.lst [] true)), none⟩])
  (.seq (.prune [0, 1]) (.seq (.seq (.reg [
        ⟨some 5, .mv (.t 1), none⟩,
        ⟨some 6, .bin .lss (.t 5) (.c (.int .i64 0)), none⟩])
    (.seq (.prune [0, 1, 6]) (.cond (.t 6) (.reg [
        ⟨some 7, .mki 9 (.c (.str [99, 97, 110, 110, 111, 116, 32, 98, 101, 32, 110, 101, 103, 97, 116, 105, 118, 101])), none⟩,
        ⟨none, .panic (.t 7), none⟩])
    (.skip))))
  (.seq (.prune [0, 1]) (.seq (.seq (.reg [
        ⟨some 8, .mv (.t 1), none⟩,
        ⟨some 9, .mv (.t 0), none⟩,
        ⟨some 10, .cap (.t 9), none⟩,
        ⟨some 11, .mv (.t 0), none⟩,
        ⟨some 12, .len .slice (.t 11), none⟩,
        ⟨some 13, .bin .sub (.t 10) (.t 12), none⟩,
        ⟨some 14, .bin .sub (.t 8) (.t 13), none⟩,
        ⟨some 1, .mv (.t 14), none⟩])
    (.seq (.prune [0, 1]) (.seq (.reg [
        ⟨some 15, .mv (.t 1), none⟩,
        ⟨some 16, .bin .gtr (.t 15) (.c (.int .i64 0)), none⟩])
    (.seq (.prune [0, 1, 16]) (.cond (.t 16) (.reg [
        ⟨some 17, .mv (.t 0), none⟩,
        ⟨some 18, .mv (.t 0), none⟩,
        ⟨some 19, .cap (.t 18), none⟩,
        ⟨some 20, .slc 12 (.t 17) none (some (.t 19)) none, none⟩,
        ⟨some 21, .mv (.t 1), none⟩,
        ⟨some 22, .appz 12 128 (.agg [.int .i64 0, .int .i64 0, .int .i64 0, .int .i64 0, .int .i64 0, .int .i64 0, .int .i64 0, .int .i64 0, .lst [] true, .int .i64 0, .int .i64 0, .lst [] true]) (.t 20) (.t 21), none⟩,
        ⟨some 23, .mv (.t 0), none⟩,
        ⟨some 24, .len .slice (.t 23), none⟩,
        ⟨some 25, .slc 12 (.t 22) none (some (.t 24)) none, none⟩,
        ⟨some 0, .mv (.t 25), none⟩])
    (.skip))))))
  (.seq (.prune [0]) (.seq (.reg [
      ⟨some 26, .mv (.t 0), none⟩,
      ⟨some 4, .mv (.t 26), none⟩])
  (.ret))))))),
  [.t 4]⟩
/-- slices.IndexFunc[[]bezel/coerce.C,bezel/coerce.C] -/
def a62 : AFunc := ⟨.seq (.reg [
      ⟨some 4, .mv (.c (.int .i64 0)), none⟩])
  (.seq (.prune [0, 1]) (.seq (.seq (.reg [
        ⟨some 6, .mv (.t 0), none⟩,
        ⟨some 7, .len .slice (.t 6), none⟩,
        ⟨some 8, .mv (.c (.int .i64 0)), none⟩])
    (.seq (.prune [0, 1, 7, 8]) (.block 0 (.loop [8, 0, 1, 7] (.seq (.reg [
            ⟨some 9, .bin .lss (.t 8) (.t 7), none⟩])
        (.seq (.prune [0, 1, 7, 8, 9]) (.seq (.cond (.t 9) (.skip)
          (.exit 0))
        (.seq (.prune [0, 1, 7, 8]) (.seq (.block 1 (.seq (.reg [
                ⟨some 10, .mv (.t 8), none⟩,
                ⟨some 5, .mv (.t 10), none⟩])
            (.seq (.prune [0, 1, 5, 7, 8]) (.seq (.reg [
                ⟨some 11, .mv (.t 1), none⟩,
                ⟨some 12, .mv (.t 0), none⟩,
                ⟨some 13, .mv (.t 5), none⟩,
                ⟨some 14, .ia 12 (.t 12) (.t 13), none⟩,
                ⟨some 15, .lda 12 (.t 14), none⟩,
                ⟨some 16, .callv false (.t 11) [(.t 15)], none⟩])
            (.seq (.prune [0, 1, 5, 7, 8, 16]) (.cond (.t 16) (.seq (.reg [
                  ⟨some 17, .mv (.t 5), none⟩,
                  ⟨some 4, .mv (.t 17), none⟩])
              (.ret))
            (.skip)))))))
        (.seq (.prune [0, 1, 7, 8]) (.reg [
          ⟨some 18, .bin .add (.t 8) (.c (.int .i64 1)), none⟩,
          ⟨some 8, .mv (.t 18), none⟩])))))))))))
  (.seq (.prune []) (.seq (.reg [
      ⟨some 4, .mv (.c (.int .i64 (-1))), none⟩])
  (.ret))))),
  [.t 4]⟩
/-- slices.IndexFunc[[]int,int] -/
def a63 : AFunc := ⟨.seq (.reg [
      ⟨some 4, .mv (.c (.int .i64 0)), none⟩])
  (.seq (.prune [0, 1]) (.seq (.seq (.reg [
        ⟨some 6, .mv (.t 0), none⟩,
        ⟨some 7, .len .slice (.t 6), none⟩,
        ⟨some 8, .mv (.c (.int .i64 0)), none⟩])
    (.seq (.prune [0, 1, 7, 8]) (.block 0 (.loop [8, 0, 1, 7] (.seq (.reg [
            ⟨some 9, .bin .lss (.t 8) (.t 7), none⟩])
        (.seq (.prune [0, 1, 7, 8, 9]) (.seq (.cond (.t 9) (.skip)
          (.exit 0))
        (.seq (.prune [0, 1, 7, 8]) (.seq (.block 1 (.seq (.reg [
                ⟨some 10, .mv (.t 8), none⟩,
                ⟨some 5, .mv (.t 10), none⟩])
            (.seq (.prune [0, 1, 5, 7, 8]) (.seq (.reg [
                ⟨some 11, .mv (.t 1), none⟩,
                ⟨some 12, .mv (.t 0), none⟩,
                ⟨some 13, .mv (.t 5), none⟩,
                ⟨some 14, .ia 1 (.t 12) (.t 13), none⟩,
                ⟨some 15, .lds (.t 14), none⟩,
                ⟨some 16, .callv false (.t 11) [(.t 15)], none⟩])
            (.seq (.prune [0, 1, 5, 7, 8, 16]) (.cond (.t 16) (.seq (.reg [
                  ⟨some 17, .mv (.t 5), none⟩,
                  ⟨some 4, .mv (.t 17), none⟩])
              (.ret))
            (.skip)))))))
        (.seq (.prune [0, 1, 7, 8]) (.reg [
          ⟨some 18, .bin .add (.t 8) (.c (.int .i64 1)), none⟩,
          ⟨some 8, .mv (.t 18), none⟩])))))))))))
  (.seq (.prune []) (.seq (.reg [
      ⟨some 4, .mv (.c (.int .i64 (-1))), none⟩])
  (.ret))))),
  [.t 4]⟩
def tabL : List (Option AFunc) := [none, none, none, some a3, some a4, some a5, some a6, some a7, some a8, some a9, some a10, some a11, some a12, some a13, some a14, some a15, some a16, some a17, some a18, some a19, some a20, some a21, some a22, some a23, some a24, some a25, some a26, some a27, some a28, some a29, some a30, some a31, some a32, some a33, some a34, some a35, some a36, some a37, some a38, some a39, some a40, some a41, some a42, some a43, some a44, some a45, some a46, some a47, some a48, some a49, some a50, some a51, some a52, some a53, some a54, some a55, some a56, some a57, some a58, some a59, some a60, some a61, some a62, some a63]
def tab (f : Nat) : Option AFunc := (tabL[f]?).join
end Go.Ev.Seat
