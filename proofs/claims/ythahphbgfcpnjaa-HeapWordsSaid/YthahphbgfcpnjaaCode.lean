/-
  The functions of the seat as the evaluator reads them: printed by a program of this session out of the loaded program.
-/
import Derived.Test.YthahphbgfcpnjaaEvA
set_option maxRecDepth 100000
namespace Go.Ev.Seat
open Go Go.Ev
/-- bezel/bezellaw08.HeapPlays -/
def a3 : AFunc := ⟨.seq (.reg [
      ⟨some 4, .mv (.c (.bool false)), none⟩])
  (.seq (.prune [0, 1]) (.seq (.reg [
      ⟨some 39, .call false 7 [], none⟩,
      ⟨some 5, .mv (.t 39), none⟩])
  (.seq (.prune [0, 1, 5]) (.seq (.reg [
      ⟨some 41, .mv (.t 0), none⟩,
      ⟨some 42, .call true 8 [(.t 41)], none⟩,
      ⟨some 40, .mv (.t 42), none⟩,
      ⟨some 43, .ext 0 (.t 40), none⟩,
      ⟨some 44, .ext 1 (.t 40), none⟩,
      ⟨some 6, .mv (.t 43), none⟩,
      ⟨some 7, .mv (.t 44), none⟩])
  (.seq (.prune [0, 1, 5, 6, 7]) (.seq (.reg [
      ⟨some 46, .mv (.t 0), none⟩,
      ⟨some 47, .call true 9 [(.t 46)], none⟩,
      ⟨some 45, .mv (.t 47), none⟩,
      ⟨some 48, .ext 0 (.t 45), none⟩,
      ⟨some 49, .ext 1 (.t 45), none⟩,
      ⟨some 8, .mv (.t 48), none⟩,
      ⟨some 9, .mv (.t 49), none⟩])
  (.seq (.prune [1, 5, 6, 7, 8, 9]) (.seq (.seq (.reg [
        ⟨some 50, .mv (.t 7), none⟩,
        ⟨some 51, .mv (.t 9), none⟩,
        ⟨some 52, .bin .neq (.t 50) (.t 51), none⟩,
        ⟨some 53, .mv (.t 52), none⟩,
        ⟨some 54, .mv (.t 6), some (53, false)⟩,
        ⟨some 55, .isnil .ptr false (.t 54), some (53, false)⟩,
        ⟨some 56, .mv (.t 8), some (53, false)⟩,
        ⟨some 57, .isnil .ptr false (.t 56), some (53, false)⟩,
        ⟨some 58, .eqv true .bool (.t 55) (.t 57), some (53, false)⟩,
        ⟨some 59, .pick (.t 53) (.c (.bool true)) (.t 58), none⟩])
    (.seq (.prune [1, 5, 6, 8, 59]) (.cond (.t 59) (.seq (.reg [
          ⟨some 4, .mv (.c (.bool false)), none⟩])
      (.ret))
    (.skip))))
  (.seq (.prune [1, 5, 6, 8]) (.seq (.reg [
      ⟨some 10, .mv (.c (.lst [] true)), none⟩])
  (.seq (.prune [1, 5, 6, 8, 10]) (.seq (.seq (.reg [
        ⟨some 11, .mv (.c (.int .i64 0)), none⟩])
    (.seq (.prune [1, 5, 6, 8, 10, 11]) (.block 0 (.seq (.own 10 none)
      (.loop [1, 5, 6, 8, 10, 11] (.seq (.seq (.reg [
              ⟨some 60, .mv (.t 11), none⟩,
              ⟨some 61, .mv (.t 1), none⟩,
              ⟨some 62, .len .slice (.t 61), none⟩,
              ⟨some 63, .bin .lss (.t 60) (.t 62), none⟩,
              ⟨some 64, .mv (.t 63), none⟩,
              ⟨some 65, .mv (.t 11), some (64, true)⟩,
              ⟨some 66, .bin .lss (.t 65) (.c (.int .i64 60)), some (64, true)⟩,
              ⟨some 67, .pick (.t 64) (.t 66) (.c (.bool false)), none⟩,
              ⟨some 68, .mv (.t 67), none⟩,
              ⟨some 69, .mv (.t 6), some (68, true)⟩,
              ⟨some 70, .isnil .ptr true (.t 69), some (68, true)⟩,
              ⟨some 71, .pick (.t 68) (.t 70) (.c (.bool false)), none⟩])
          (.seq (.prune [1, 5, 6, 8, 10, 11, 71]) (.cond (.t 71) (.skip)
          (.exit 0))))
        (.seq (.prune [1, 5, 6, 8, 10, 11]) (.seq (.block 1 (.seq (.reg [
                ⟨some 74, .mv (.t 1), none⟩,
                ⟨some 75, .mv (.t 11), none⟩,
                ⟨some 76, .ia 7 (.t 74) (.t 75), none⟩,
                ⟨some 77, .lda 7 (.t 76), none⟩,
                ⟨some 12, .alloc [.int .i64 0, .int .i64 0, .int .i64 0, .int .u64 0, .int .u64 0, .int .u64 0, .lst [] true], none⟩,
                ⟨none, .sta 7 (.t 12) (.t 77), none⟩])
            (.seq (.prune [1, 5, 6, 8, 10, 11, 12]) (.seq (.seq (.reg [
                  ⟨some 78, .fa 6 (.t 12), none⟩,
                  ⟨some 79, .lds (.t 78), none⟩,
                  ⟨some 80, .len .slice (.t 79), none⟩,
                  ⟨some 81, .bin .gtr (.t 80) (.c (.int .i64 40)), none⟩])
              (.seq (.prune [1, 5, 6, 8, 10, 11, 12, 81]) (.cond (.t 81) (.seq (.reg [
                    ⟨some 82, .mv (.t 5), none⟩,
                    ⟨some 4, .mv (.t 82), none⟩])
                (.ret))
              (.skip))))
            (.seq (.prune [1, 5, 6, 8, 10, 11, 12]) (.seq (.reg [
                ⟨some 83, .fa 3 (.t 12), none⟩,
                ⟨some 84, .lds (.t 83), none⟩,
                ⟨some 85, .fa 5 (.t 12), none⟩,
                ⟨some 86, .lds (.t 85), none⟩,
                ⟨some 87, .mv (.t 10), none⟩,
                ⟨some 88, .call false 10 [(.t 84), (.t 86), (.t 87)], none⟩,
                ⟨some 13, .mv (.t 88), none⟩])
            (.seq (.prune [1, 5, 6, 8, 10, 11, 12, 13]) (.seq (.reg [
                ⟨some 89, .fa 6 (.t 12), none⟩,
                ⟨some 90, .lds (.t 89), none⟩,
                ⟨some 91, .fa 5 (.t 12), none⟩,
                ⟨some 92, .lds (.t 91), none⟩,
                ⟨some 93, .mv (.t 10), none⟩,
                ⟨some 94, .call false 11 [(.t 90), (.t 92), (.t 93)], none⟩,
                ⟨some 14, .mv (.t 94), none⟩])
            (.seq (.prune [1, 5, 6, 8, 10, 11, 12, 13, 14]) (.seq (.reg [
                ⟨some 15, .mv (.c (.bool true)), none⟩])
            (.seq (.prune [1, 5, 6, 8, 10, 11, 12, 13, 14, 15]) (.seq (.seq (.reg [
                  ⟨some 95, .fa 0 (.t 12), none⟩,
                  ⟨some 96, .lds (.t 95), none⟩])
              (.seq (.prune [1, 5, 6, 8, 10, 11, 12, 13, 14, 15, 96]) (.block 2 (.seq (.seq (.reg [
                      ⟨some 98, .bin .eql (.t 96) (.c (.int .i64 0)), none⟩,
                      ⟨some 97, .mv (.t 98), none⟩])
                  (.seq (.prune [1, 5, 6, 8, 10, 11, 12, 13, 14, 15, 96, 97]) (.cond (.t 97) (.skip)
                  (.seq (.reg [
                        ⟨some 99, .bin .eql (.t 96) (.c (.int .i64 1)), none⟩,
                        ⟨some 97, .mv (.t 99), none⟩])
                    (.seq (.prune [1, 5, 6, 8, 10, 11, 12, 13, 14, 15, 96, 97]) (.cond (.t 97) (.skip)
                    (.seq (.reg [
                          ⟨some 100, .bin .eql (.t 96) (.c (.int .i64 2)), none⟩,
                          ⟨some 97, .mv (.t 100), none⟩])
                      (.seq (.prune [1, 5, 6, 8, 10, 11, 12, 13, 14, 15, 96, 97]) (.cond (.t 97) (.skip)
                      (.reg [
                          ⟨some 101, .bin .eql (.t 96) (.c (.int .i64 3)), none⟩,
                          ⟨some 97, .mv (.t 101), none⟩]))))))))))
                (.seq (.prune [1, 5, 6, 8, 10, 11, 12, 13, 14, 15, 96, 97]) (.cond (.t 97) (.seq (.reg [
                      ⟨some 103, .mv (.t 6), none⟩,
                      ⟨some 104, .fa 1 (.t 12), none⟩,
                      ⟨some 105, .lds (.t 104), none⟩,
                      ⟨some 106, .mv (.t 14), none⟩,
                      ⟨some 107, .call false 12 [(.t 103), (.t 105), (.t 106)], none⟩,
                      ⟨some 102, .mv (.t 107), none⟩,
                      ⟨some 108, .ext 0 (.t 102), none⟩,
                      ⟨some 109, .ext 1 (.t 102), none⟩,
                      ⟨some 16, .mv (.t 108), none⟩,
                      ⟨some 17, .mv (.t 109), none⟩])
                  (.seq (.prune [1, 5, 6, 8, 10, 11, 12, 13, 14, 16, 17]) (.seq (.reg [
                      ⟨some 111, .mv (.t 8), none⟩,
                      ⟨some 112, .fa 1 (.t 12), none⟩,
                      ⟨some 113, .lds (.t 112), none⟩,
                      ⟨some 114, .mv (.t 14), none⟩,
                      ⟨some 115, .call false 13 [(.t 111), (.t 113), (.t 114)], none⟩,
                      ⟨some 110, .mv (.t 115), none⟩,
                      ⟨some 116, .ext 0 (.t 110), none⟩,
                      ⟨some 117, .ext 1 (.t 110), none⟩,
                      ⟨some 18, .mv (.t 116), none⟩,
                      ⟨some 19, .mv (.t 117), none⟩])
                  (.seq (.prune [1, 5, 6, 8, 10, 11, 12, 13, 16, 17, 18, 19]) (.seq (.reg [
                      ⟨some 118, .mv (.t 16), none⟩,
                      ⟨some 119, .mv (.t 18), none⟩,
                      ⟨some 120, .bin .eql (.t 118) (.t 119), none⟩,
                      ⟨some 121, .mv (.t 120), none⟩,
                      ⟨some 122, .mv (.t 17), some (121, true)⟩,
                      ⟨some 123, .mv (.t 19), some (121, true)⟩,
                      ⟨some 124, .bin .eql (.t 122) (.t 123), some (121, true)⟩,
                      ⟨some 125, .pick (.t 121) (.t 124) (.c (.bool false)), none⟩,
                      ⟨some 15, .mv (.t 125), none⟩])
                  (.seq (.prune [1, 5, 6, 8, 10, 11, 12, 13, 15, 18, 19]) (.seq (.reg [
                      ⟨some 126, .mv (.t 19), none⟩,
                      ⟨some 127, .bin .eql (.t 126) (.c (.int .i64 0)), none⟩])
                  (.seq (.prune [1, 5, 6, 8, 10, 11, 12, 13, 15, 18, 127]) (.cond (.t 127) (.reg [
                      ⟨some 128, .mv (.t 10), none⟩,
                      ⟨some 129, .mv (.t 18), none⟩,
                      ⟨some 130, .bsl 1 (.int .u64 0) 1 [(0, (.t 129))], none⟩,
                      ⟨some 131, .app 1 8 false (.t 128) (.t 130), none⟩,
                      ⟨some 10, .mv (.t 131), none⟩])
                  (.skip))))))))))
                (.seq (.reg [
                      ⟨some 133, .bin .eql (.t 96) (.c (.int .i64 4)), none⟩,
                      ⟨some 132, .mv (.t 133), none⟩])
                  (.seq (.prune [1, 5, 6, 8, 10, 11, 12, 13, 14, 15, 96, 132]) (.cond (.t 132) (.seq (.reg [
                        ⟨some 134, .fa 4 (.t 12), none⟩,
                        ⟨some 135, .lds (.t 134), none⟩,
                        ⟨some 136, .fa 5 (.t 12), none⟩,
                        ⟨some 137, .lds (.t 136), none⟩,
                        ⟨some 138, .mv (.t 10), none⟩,
                        ⟨some 139, .call false 10 [(.t 135), (.t 137), (.t 138)], none⟩,
                        ⟨some 20, .mv (.t 139), none⟩])
                    (.seq (.prune [1, 5, 6, 8, 10, 11, 12, 13, 20]) (.draw 0 [
                      (⟨some 140, .mv (.t 6), none⟩, 0, []),
                      (⟨some 141, .mv (.t 13), none⟩, 0, []),
                      (⟨some 142, .fa 2 (.t 12), none⟩, 0, []),
                      (⟨some 143, .lds (.t 142), none⟩, 0, [2]),
                      (⟨some 144, .mv (.t 20), none⟩, 0, []),
                      (⟨some 145, .call false 14 [(.t 140), (.t 141), (.t 143), (.t 144)], none⟩, 0, [0, 1, 2, 3, 4]),
                      (⟨some 146, .mv (.t 8), none⟩, 0, []),
                      (⟨some 147, .mv (.t 13), none⟩, 0, []),
                      (⟨some 148, .fa 2 (.t 12), none⟩, 0, []),
                      (⟨some 149, .lds (.t 148), none⟩, 0, [8]),
                      (⟨some 150, .mv (.t 20), none⟩, 0, []),
                      (⟨some 151, .call false 15 [(.t 146), (.t 147), (.t 149), (.t 150)], none⟩, 0, [0, 1, 2, 3, 4, 5, 6, 7, 8, 9, 10]),
                      (⟨some 152, .bin .eql (.t 145) (.t 151), none⟩, 0, [0, 1, 2, 3, 4, 5, 6, 7, 8, 9, 10, 11]),
                      (⟨some 15, .mv (.t 152), none⟩, 0, [0, 1, 2, 3, 4, 5, 6, 7, 8, 9, 10, 11, 12])])))
                  (.seq (.reg [
                        ⟨some 154, .bin .eql (.t 96) (.c (.int .i64 5)), none⟩,
                        ⟨some 153, .mv (.t 154), none⟩])
                    (.seq (.prune [1, 5, 6, 8, 10, 11, 12, 13, 14, 15, 153]) (.cond (.t 153) (.seq (.reg [
                          ⟨some 155, .mv (.t 6), none⟩,
                          ⟨some 156, .mv (.t 14), none⟩,
                          ⟨some 157, .call false 16 [(.t 155), (.t 156)], none⟩,
                          ⟨some 21, .mv (.t 157), none⟩])
                      (.seq (.prune [1, 5, 6, 8, 11, 12, 13, 14, 21]) (.seq (.reg [
                          ⟨some 158, .mv (.t 8), none⟩,
                          ⟨some 159, .mv (.t 14), none⟩,
                          ⟨some 160, .call false 17 [(.t 158), (.t 159)], none⟩,
                          ⟨some 22, .mv (.t 160), none⟩])
                      (.seq (.prune [1, 5, 6, 8, 11, 12, 13, 21, 22]) (.seq (.reg [
                          ⟨some 161, .mv (.t 21), none⟩,
                          ⟨some 162, .mv (.t 22), none⟩,
                          ⟨some 163, .call false 18 [(.t 161), (.t 162)], none⟩,
                          ⟨some 15, .mv (.t 163), none⟩])
                      (.seq (.prune [1, 5, 6, 8, 11, 12, 13, 15]) (.seq (.reg [
                          ⟨some 10, .mv (.c (.lst [] true)), none⟩])
                      (.seq (.prune [1, 5, 6, 8, 10, 11, 12, 13, 15]) (.seq (.reg [
                          ⟨some 23, .mv (.c (.int .i64 0)), none⟩])
                      (.seq (.prune [1, 5, 6, 8, 10, 11, 12, 13, 15, 23]) (.block 3 (.seq (.own 10 none)
                        (.loop [1, 5, 6, 8, 10, 11, 12, 13, 15, 23] (.seq (.seq (.reg [
                                ⟨some 164, .mv (.t 23), none⟩,
                                ⟨some 165, .mv (.t 8), none⟩,
                                ⟨some 166, .nc (.t 165), none⟩,
                                ⟨some 167, .fa 1 (.t 166), none⟩,
                                ⟨some 168, .lds (.t 167), none⟩,
                                ⟨some 169, .len .slice (.t 168), none⟩,
                                ⟨some 170, .bin .lss (.t 164) (.t 169), none⟩])
                            (.seq (.prune [1, 5, 6, 8, 10, 11, 12, 13, 15, 23, 170]) (.cond (.t 170) (.skip)
                            (.exit 3))))
                          (.seq (.prune [1, 5, 6, 8, 10, 11, 12, 13, 15, 23]) (.seq (.block 4 (.reg [
                                ⟨some 173, .mv (.t 10), none⟩,
                                ⟨some 174, .mv (.t 8), none⟩,
                                ⟨some 175, .nc (.t 174), none⟩,
                                ⟨some 176, .fa 1 (.t 175), none⟩,
                                ⟨some 177, .lds (.t 176), none⟩,
                                ⟨some 178, .mv (.t 23), none⟩,
                                ⟨some 179, .ia 3 (.t 177) (.t 178), none⟩,
                                ⟨some 180, .fa 0 (.t 179), none⟩,
                                ⟨some 181, .lds (.t 180), none⟩,
                                ⟨some 182, .cvi .u64 (.t 181), none⟩,
                                ⟨some 183, .bin .mul (.c (.int .u64 4)) (.t 182), none⟩,
                                ⟨some 184, .bsl 1 (.int .u64 0) 1 [(0, (.t 183))], none⟩,
                                ⟨some 185, .app 1 8 false (.t 173) (.t 184), none⟩,
                                ⟨some 10, .mv (.t 185), none⟩]))
                          (.seq (.prune [1, 5, 6, 8, 10, 11, 12, 13, 15, 23]) (.reg [
                            ⟨some 171, .mv (.t 23), none⟩,
                            ⟨some 172, .bin .add (.t 171) (.c (.int .i64 1)), none⟩,
                            ⟨some 23, .mv (.t 172), none⟩]))))))))))))))))))
                    (.skip)))))))))))))
            (.seq (.prune [1, 5, 6, 8, 10, 11, 12, 13, 15]) (.seq (.seq (.draw 0 [
                  (⟨some 186, .mv (.t 15), none⟩, 0, []),
                  (⟨some 187, .un .not (.t 186), none⟩, 0, [0]),
                  (⟨some 188, .mv (.t 187), none⟩, 0, [0, 1]),
                  (⟨some 189, .mv (.t 6), some (188, false)⟩, 0, [0, 1, 2]),
                  (⟨some 190, .call false 19 [(.t 189)], some (188, false)⟩, 0, [0, 1, 2, 3]),
                  (⟨some 191, .mv (.t 8), some (188, false)⟩, 0, [0, 1, 2]),
                  (⟨some 192, .call false 20 [(.t 191)], some (188, false)⟩, 0, [0, 1, 2, 3, 4, 5]),
                  (⟨some 193, .bin .neq (.t 190) (.t 192), some (188, false)⟩, 0, [0, 1, 2, 3, 4, 5, 6]),
                  (⟨some 194, .pick (.t 188) (.c (.bool true)) (.t 193), none⟩, 0, [0, 1, 2, 3, 4, 5, 6, 7]),
                  (⟨some 195, .mv (.t 194), none⟩, 0, [0, 1, 2, 3, 4, 5, 6, 7, 8]),
                  (⟨some 196, .mv (.t 6), some (195, false)⟩, 0, [0, 1, 2, 3, 4, 5, 6, 7, 8, 9]),
                  (⟨some 197, .call false 21 [(.t 196)], some (195, false)⟩, 0, [0, 1, 2, 3, 4, 5, 6, 7, 8, 9, 10]),
                  (⟨some 198, .mv (.t 8), some (195, false)⟩, 0, [0, 1, 2, 3, 4, 5, 6, 7, 8, 9]),
                  (⟨some 199, .nc (.t 198), some (195, false)⟩, 0, [0, 1, 2, 3, 4, 5, 6, 7, 8, 9, 12]),
                  (⟨some 200, .fa 0 (.t 199), some (195, false)⟩, 0, [0, 1, 2, 3, 4, 5, 6, 7, 8, 9, 12, 13]),
                  (⟨some 201, .lds (.t 200), some (195, false)⟩, 0, [0, 1, 2, 3, 4, 5, 6, 7, 8, 9, 12, 13, 14]),
                  (⟨some 202, .mv (.t 8), some (195, false)⟩, 0, [0, 1, 2, 3, 4, 5, 6, 7, 8, 9]),
                  (⟨some 203, .call false 20 [(.t 202)], some (195, false)⟩, 0, [0, 1, 2, 3, 4, 5, 6, 7, 8, 9, 10, 11, 16]),
                  (⟨some 204, .bin .sub (.t 201) (.t 203), some (195, false)⟩, 0, [0, 1, 2, 3, 4, 5, 6, 7, 8, 9, 10, 11, 12, 13, 14, 15, 16, 17]),
                  (⟨some 205, .bin .neq (.t 197) (.t 204), some (195, false)⟩, 0, [0, 1, 2, 3, 4, 5, 6, 7, 8, 9, 10, 11, 12, 13, 14, 15, 16, 17, 18]),
                  (⟨some 206, .pick (.t 195) (.c (.bool true)) (.t 205), none⟩, 0, [0, 1, 2, 3, 4, 5, 6, 7, 8, 9, 10, 11, 12, 13, 14, 15, 16, 17, 18, 19])])
              (.seq (.prune [1, 5, 6, 8, 10, 11, 12, 13, 206]) (.cond (.t 206) (.seq (.reg [
                    ⟨some 4, .mv (.c (.bool false)), none⟩])
                (.ret))
              (.skip))))
            (.seq (.prune [1, 5, 6, 8, 10, 11, 12, 13]) (.seq (.reg [
                ⟨some 208, .mv (.t 6), none⟩,
                ⟨some 209, .mv (.t 13), none⟩,
                ⟨some 210, .call false 22 [(.t 208), (.t 209)], none⟩,
                ⟨some 207, .mv (.t 210), none⟩,
                ⟨some 211, .ext 0 (.t 207), none⟩,
                ⟨some 212, .ext 1 (.t 207), none⟩,
                ⟨some 24, .mv (.t 211), none⟩,
                ⟨some 25, .mv (.t 212), none⟩])
            (.seq (.prune [1, 5, 6, 8, 10, 11, 12, 13, 24, 25]) (.seq (.reg [
                ⟨some 214, .mv (.t 8), none⟩,
                ⟨some 215, .mv (.t 13), none⟩,
                ⟨some 216, .call false 23 [(.t 214), (.t 215)], none⟩,
                ⟨some 213, .mv (.t 216), none⟩,
                ⟨some 217, .ext 0 (.t 213), none⟩,
                ⟨some 218, .ext 1 (.t 213), none⟩,
                ⟨some 26, .mv (.t 217), none⟩,
                ⟨some 27, .mv (.t 218), none⟩])
            (.seq (.prune [1, 5, 6, 8, 10, 11, 12, 13, 24, 25, 26, 27]) (.seq (.reg [
                ⟨some 220, .mv (.t 6), none⟩,
                ⟨some 221, .mv (.t 13), none⟩,
                ⟨some 222, .fa 2 (.t 12), none⟩,
                ⟨some 223, .lds (.t 222), none⟩,
                ⟨some 224, .call false 24 [(.t 220), (.t 221), (.t 223)], none⟩,
                ⟨some 219, .mv (.t 224), none⟩,
                ⟨some 225, .ext 0 (.t 219), none⟩,
                ⟨some 226, .ext 1 (.t 219), none⟩,
                ⟨some 28, .mv (.t 225), none⟩,
                ⟨some 29, .mv (.t 226), none⟩])
            (.seq (.prune [1, 5, 6, 8, 10, 11, 12, 13, 24, 25, 26, 27, 28, 29]) (.seq (.reg [
                ⟨some 228, .mv (.t 8), none⟩,
                ⟨some 229, .mv (.t 13), none⟩,
                ⟨some 230, .fa 2 (.t 12), none⟩,
                ⟨some 231, .lds (.t 230), none⟩,
                ⟨some 232, .call false 25 [(.t 228), (.t 229), (.t 231)], none⟩,
                ⟨some 227, .mv (.t 232), none⟩,
                ⟨some 233, .ext 0 (.t 227), none⟩,
                ⟨some 234, .ext 1 (.t 227), none⟩,
                ⟨some 30, .mv (.t 233), none⟩,
                ⟨some 31, .mv (.t 234), none⟩])
            (.seq (.prune [1, 5, 6, 8, 10, 11, 13, 24, 25, 26, 27, 28, 29, 30, 31]) (.seq (.seq (.reg [
                  ⟨some 235, .mv (.t 24), none⟩,
                  ⟨some 236, .mv (.t 26), none⟩,
                  ⟨some 237, .bin .neq (.t 235) (.t 236), none⟩,
                  ⟨some 238, .mv (.t 237), none⟩,
                  ⟨some 239, .mv (.t 25), some (238, false)⟩,
                  ⟨some 240, .mv (.t 27), some (238, false)⟩,
                  ⟨some 241, .eqv true .bool (.t 239) (.t 240), some (238, false)⟩,
                  ⟨some 242, .pick (.t 238) (.c (.bool true)) (.t 241), none⟩,
                  ⟨some 243, .mv (.t 242), none⟩,
                  ⟨some 244, .mv (.t 28), some (243, false)⟩,
                  ⟨some 245, .mv (.t 30), some (243, false)⟩,
                  ⟨some 246, .bin .neq (.t 244) (.t 245), some (243, false)⟩,
                  ⟨some 247, .pick (.t 243) (.c (.bool true)) (.t 246), none⟩,
                  ⟨some 248, .mv (.t 247), none⟩,
                  ⟨some 249, .mv (.t 29), some (248, false)⟩,
                  ⟨some 250, .mv (.t 31), some (248, false)⟩,
                  ⟨some 251, .eqv true .bool (.t 249) (.t 250), some (248, false)⟩,
                  ⟨some 252, .pick (.t 248) (.c (.bool true)) (.t 251), none⟩,
                  ⟨some 253, .mv (.t 252), none⟩,
                  ⟨some 254, .mv (.t 6), some (253, false)⟩,
                  ⟨some 255, .mv (.t 13), some (253, false)⟩,
                  ⟨some 256, .call false 26 [(.t 254), (.t 255)], some (253, false)⟩,
                  ⟨some 257, .mv (.t 8), some (253, false)⟩,
                  ⟨some 258, .mv (.t 13), some (253, false)⟩,
                  ⟨some 259, .call false 27 [(.t 257), (.t 258)], some (253, false)⟩,
                  ⟨some 260, .bin .neq (.t 256) (.t 259), some (253, false)⟩,
                  ⟨some 261, .pick (.t 253) (.c (.bool true)) (.t 260), none⟩])
              (.seq (.prune [1, 5, 6, 8, 10, 11, 261]) (.cond (.t 261) (.seq (.reg [
                    ⟨some 4, .mv (.c (.bool false)), none⟩])
                (.ret))
              (.skip))))
            (.seq (.prune [1, 5, 6, 8, 10, 11]) (.seq (.reg [
                ⟨some 32, .mv (.c (.int .i64 0)), none⟩])
            (.seq (.prune [1, 5, 6, 8, 10, 11, 32]) (.block 5 (.loop [1, 5, 6, 8, 10, 11, 32] (.seq (.seq (.reg [
                      ⟨some 262, .mv (.t 32), none⟩,
                      ⟨some 263, .mv (.t 8), none⟩,
                      ⟨some 264, .nc (.t 263), none⟩,
                      ⟨some 265, .fa 1 (.t 264), none⟩,
                      ⟨some 266, .lds (.t 265), none⟩,
                      ⟨some 267, .len .slice (.t 266), none⟩,
                      ⟨some 268, .bin .lss (.t 262) (.t 267), none⟩])
                  (.seq (.prune [1, 5, 6, 8, 10, 11, 32, 268]) (.cond (.t 268) (.skip)
                  (.exit 5))))
                (.seq (.prune [1, 5, 6, 8, 10, 11, 32]) (.seq (.block 6 (.seq (.reg [
                        ⟨some 271, .mv (.t 8), none⟩,
                        ⟨some 272, .nc (.t 271), none⟩,
                        ⟨some 273, .fa 1 (.t 272), none⟩,
                        ⟨some 274, .lds (.t 273), none⟩,
                        ⟨some 275, .mv (.t 32), none⟩,
                        ⟨some 276, .ia 3 (.t 274) (.t 275), none⟩,
                        ⟨some 277, .fa 0 (.t 276), none⟩,
                        ⟨some 278, .lds (.t 277), none⟩,
                        ⟨some 279, .call false 28 [(.t 278)], none⟩,
                        ⟨some 33, .mv (.t 279), none⟩])
                    (.seq (.prune [1, 5, 6, 8, 10, 11, 32, 33]) (.seq (.reg [
                        ⟨some 281, .mv (.t 6), none⟩,
                        ⟨some 282, .mv (.t 33), none⟩,
                        ⟨some 283, .call false 22 [(.t 281), (.t 282)], none⟩,
                        ⟨some 280, .mv (.t 283), none⟩,
                        ⟨some 284, .ext 0 (.t 280), none⟩,
                        ⟨some 285, .ext 1 (.t 280), none⟩,
                        ⟨some 34, .mv (.t 284), none⟩,
                        ⟨some 35, .mv (.t 285), none⟩])
                    (.seq (.prune [1, 5, 6, 8, 10, 11, 32, 33, 34, 35]) (.seq (.seq (.draw 0 [
                          (⟨some 286, .mv (.t 34), none⟩, 0, []),
                          (⟨some 287, .mv (.t 8), none⟩, 0, []),
                          (⟨some 288, .nc (.t 287), none⟩, 0, [1]),
                          (⟨some 289, .fa 1 (.t 288), none⟩, 0, [1, 2]),
                          (⟨some 290, .lds (.t 289), none⟩, 0, [1, 2, 3]),
                          (⟨some 291, .mv (.t 32), none⟩, 0, []),
                          (⟨some 292, .ia 3 (.t 290) (.t 291), none⟩, 0, [1, 2, 3, 4, 5]),
                          (⟨some 293, .fa 1 (.t 292), none⟩, 0, [1, 2, 3, 4, 5, 6]),
                          (⟨some 294, .lds (.t 293), none⟩, 0, [1, 2, 3, 4, 5, 6, 7]),
                          (⟨some 295, .bin .neq (.t 286) (.t 294), none⟩, 0, [0, 1, 2, 3, 4, 5, 6, 7, 8]),
                          (⟨some 296, .mv (.t 295), none⟩, 0, [0, 1, 2, 3, 4, 5, 6, 7, 8, 9]),
                          (⟨some 297, .mv (.t 35), some (296, false)⟩, 0, [0, 1, 2, 3, 4, 5, 6, 7, 8, 9, 10]),
                          (⟨some 298, .un .not (.t 297), some (296, false)⟩, 0, [0, 1, 2, 3, 4, 5, 6, 7, 8, 9, 10, 11]),
                          (⟨some 299, .pick (.t 296) (.c (.bool true)) (.t 298), none⟩, 0, [0, 1, 2, 3, 4, 5, 6, 7, 8, 9, 10, 11, 12]),
                          (⟨some 300, .mv (.t 299), none⟩, 0, [0, 1, 2, 3, 4, 5, 6, 7, 8, 9, 10, 11, 12, 13]),
                          (⟨some 301, .mv (.t 6), some (300, false)⟩, 0, [0, 1, 2, 3, 4, 5, 6, 7, 8, 9, 10, 11, 12, 13, 14]),
                          (⟨some 302, .mv (.t 33), some (300, false)⟩, 0, [0, 1, 2, 3, 4, 5, 6, 7, 8, 9, 10, 11, 12, 13, 14]),
                          (⟨some 303, .call false 26 [(.t 301), (.t 302)], some (300, false)⟩, 0, [0, 1, 2, 3, 4, 5, 6, 7, 8, 9, 10, 11, 12, 13, 14, 15, 16]),
                          (⟨some 304, .mv (.t 8), some (300, false)⟩, 0, [0, 1, 2, 3, 4, 5, 6, 7, 8, 9, 10, 11, 12, 13, 14]),
                          (⟨some 305, .nc (.t 304), some (300, false)⟩, 0, [0, 1, 2, 3, 4, 5, 6, 7, 8, 9, 10, 11, 12, 13, 14, 18]),
                          (⟨some 306, .fa 1 (.t 305), some (300, false)⟩, 0, [0, 1, 2, 3, 4, 5, 6, 7, 8, 9, 10, 11, 12, 13, 14, 18, 19]),
                          (⟨some 307, .lds (.t 306), some (300, false)⟩, 0, [0, 1, 2, 3, 4, 5, 6, 7, 8, 9, 10, 11, 12, 13, 14, 18, 19, 20]),
                          (⟨some 308, .mv (.t 32), some (300, false)⟩, 0, [0, 1, 2, 3, 4, 5, 6, 7, 8, 9, 10, 11, 12, 13, 14]),
                          (⟨some 309, .ia 3 (.t 307) (.t 308), some (300, false)⟩, 0, [0, 1, 2, 3, 4, 5, 6, 7, 8, 9, 10, 11, 12, 13, 14, 18, 19, 20, 21, 22]),
                          (⟨some 310, .fa 2 (.t 309), some (300, false)⟩, 0, [0, 1, 2, 3, 4, 5, 6, 7, 8, 9, 10, 11, 12, 13, 14, 18, 19, 20, 21, 22, 23]),
                          (⟨some 311, .lds (.t 310), some (300, false)⟩, 0, [0, 1, 2, 3, 4, 5, 6, 7, 8, 9, 10, 11, 12, 13, 14, 18, 19, 20, 21, 22, 23, 24]),
                          (⟨some 312, .len .slice (.t 311), some (300, false)⟩, 0, [0, 1, 2, 3, 4, 5, 6, 7, 8, 9, 10, 11, 12, 13, 14, 18, 19, 20, 21, 22, 23, 24, 25]),
                          (⟨some 313, .bin .neq (.t 303) (.t 312), some (300, false)⟩, 0, [0, 1, 2, 3, 4, 5, 6, 7, 8, 9, 10, 11, 12, 13, 14, 15, 16, 17, 18, 19, 20, 21, 22, 23, 24, 25, 26]),
                          (⟨some 314, .pick (.t 300) (.c (.bool true)) (.t 313), none⟩, 0, [0, 1, 2, 3, 4, 5, 6, 7, 8, 9, 10, 11, 12, 13, 14, 15, 16, 17, 18, 19, 20, 21, 22, 23, 24, 25, 26, 27])])
                      (.seq (.prune [1, 5, 6, 8, 10, 11, 32, 33, 314]) (.cond (.t 314) (.seq (.reg [
                            ⟨some 4, .mv (.c (.bool false)), none⟩])
                        (.ret))
                      (.skip))))
                    (.seq (.prune [1, 5, 6, 8, 10, 11, 32, 33]) (.seq (.reg [
                        ⟨some 36, .mv (.c (.int .i64 0)), none⟩])
                    (.seq (.prune [1, 5, 6, 8, 10, 11, 32, 33, 36]) (.block 7 (.loop [1, 5, 6, 8, 10, 11, 32, 33, 36] (.seq (.seq (.reg [
                              ⟨some 315, .mv (.t 36), none⟩,
                              ⟨some 316, .mv (.t 8), none⟩,
                              ⟨some 317, .nc (.t 316), none⟩,
                              ⟨some 318, .fa 1 (.t 317), none⟩,
                              ⟨some 319, .lds (.t 318), none⟩,
                              ⟨some 320, .mv (.t 32), none⟩,
                              ⟨some 321, .ia 3 (.t 319) (.t 320), none⟩,
                              ⟨some 322, .fa 2 (.t 321), none⟩,
                              ⟨some 323, .lds (.t 322), none⟩,
                              ⟨some 324, .len .slice (.t 323), none⟩,
                              ⟨some 325, .bin .lss (.t 315) (.t 324), none⟩])
                          (.seq (.prune [1, 5, 6, 8, 10, 11, 32, 33, 36, 325]) (.cond (.t 325) (.skip)
                          (.exit 7))))
                        (.seq (.prune [1, 5, 6, 8, 10, 11, 32, 33, 36]) (.seq (.block 8 (.seq (.reg [
                                ⟨some 329, .mv (.t 6), none⟩,
                                ⟨some 330, .mv (.t 33), none⟩,
                                ⟨some 331, .mv (.t 36), none⟩,
                                ⟨some 332, .call false 24 [(.t 329), (.t 330), (.t 331)], none⟩,
                                ⟨some 328, .mv (.t 332), none⟩,
                                ⟨some 333, .ext 0 (.t 328), none⟩,
                                ⟨some 334, .ext 1 (.t 328), none⟩,
                                ⟨some 37, .mv (.t 333), none⟩,
                                ⟨some 38, .mv (.t 334), none⟩])
                            (.seq (.prune [1, 5, 6, 8, 10, 11, 32, 33, 36, 37, 38]) (.seq (.reg [
                                ⟨some 335, .mv (.t 37), none⟩,
                                ⟨some 336, .mv (.t 8), none⟩,
                                ⟨some 337, .nc (.t 336), none⟩,
                                ⟨some 338, .fa 1 (.t 337), none⟩,
                                ⟨some 339, .lds (.t 338), none⟩,
                                ⟨some 340, .mv (.t 32), none⟩,
                                ⟨some 341, .ia 3 (.t 339) (.t 340), none⟩,
                                ⟨some 342, .fa 2 (.t 341), none⟩,
                                ⟨some 343, .lds (.t 342), none⟩,
                                ⟨some 344, .mv (.t 36), none⟩,
                                ⟨some 345, .ia 1 (.t 343) (.t 344), none⟩,
                                ⟨some 346, .lds (.t 345), none⟩,
                                ⟨some 347, .bin .neq (.t 335) (.t 346), none⟩,
                                ⟨some 348, .mv (.t 347), none⟩,
                                ⟨some 349, .mv (.t 38), some (348, false)⟩,
                                ⟨some 350, .un .not (.t 349), some (348, false)⟩,
                                ⟨some 351, .pick (.t 348) (.c (.bool true)) (.t 350), none⟩])
                            (.seq (.prune [1, 5, 6, 8, 10, 11, 32, 33, 36, 351]) (.cond (.t 351) (.seq (.reg [
                                  ⟨some 4, .mv (.c (.bool false)), none⟩])
                              (.ret))
                            (.skip)))))))
                        (.seq (.prune [1, 5, 6, 8, 10, 11, 32, 33, 36]) (.reg [
                          ⟨some 326, .mv (.t 36), none⟩,
                          ⟨some 327, .bin .add (.t 326) (.c (.int .i64 1)), none⟩,
                          ⟨some 36, .mv (.t 327), none⟩]))))))))))))))))
                (.seq (.prune [1, 5, 6, 8, 10, 11, 32]) (.reg [
                  ⟨some 269, .mv (.t 32), none⟩,
                  ⟨some 270, .bin .add (.t 269) (.c (.int .i64 1)), none⟩,
                  ⟨some 32, .mv (.t 270), none⟩]))))))))))))))))))))))))))))))))))
        (.seq (.prune [1, 5, 6, 8, 10, 11]) (.reg [
          ⟨some 72, .mv (.t 11), none⟩,
          ⟨some 73, .bin .add (.t 72) (.c (.int .i64 1)), none⟩,
          ⟨some 11, .mv (.t 73), none⟩]))))))))))
  (.seq (.prune [5]) (.seq (.reg [
      ⟨some 352, .mv (.t 5), none⟩,
      ⟨some 4, .mv (.t 352), none⟩])
  (.ret))))))))))))))),
  [.t 4]⟩
/-- bezel/bezellaw08.HeapGraph -/
def a4 : AFunc := ⟨.seq (.reg [
      ⟨some 6, .mv (.c (.bool false)), none⟩])
  (.seq (.prune [0, 1, 2]) (.seq (.reg [
      ⟨some 23, .call false 7 [], none⟩,
      ⟨some 7, .mv (.t 23), none⟩])
  (.seq (.prune [0, 1, 2, 7]) (.seq (.reg [
      ⟨some 25, .mv (.t 0), none⟩,
      ⟨some 26, .call true 29 [(.t 25)], none⟩,
      ⟨some 24, .mv (.t 26), none⟩,
      ⟨some 27, .ext 0 (.t 24), none⟩,
      ⟨some 28, .ext 1 (.t 24), none⟩,
      ⟨some 29, .ext 2 (.t 24), none⟩,
      ⟨some 8, .mv (.t 27), none⟩,
      ⟨some 9, .mv (.t 28), none⟩,
      ⟨some 10, .mv (.t 29), none⟩])
  (.seq (.prune [1, 2, 7, 8, 9, 10]) (.seq (.seq (.reg [
        ⟨some 30, .mv (.t 8), none⟩,
        ⟨some 31, .isnil .ptr false (.t 30), none⟩,
        ⟨some 32, .mv (.t 31), none⟩,
        ⟨some 33, .mv (.t 10), some (32, false)⟩,
        ⟨some 34, .un .not (.t 33), some (32, false)⟩,
        ⟨some 35, .pick (.t 32) (.c (.bool true)) (.t 34), none⟩,
        ⟨some 36, .mv (.t 35), none⟩,
        ⟨some 37, .mv (.t 1), some (36, false)⟩,
        ⟨some 38, .len .slice (.t 37), some (36, false)⟩,
        ⟨some 39, .bin .gtr (.t 38) (.c (.int .i64 20)), some (36, false)⟩,
        ⟨some 40, .pick (.t 36) (.c (.bool true)) (.t 39), none⟩])
    (.seq (.prune [1, 2, 7, 8, 9, 40]) (.cond (.t 40) (.seq (.reg [
          ⟨some 41, .mv (.t 7), none⟩,
          ⟨some 42, .mv (.t 41), none⟩,
          ⟨some 43, .mv (.t 8), some (42, true)⟩,
          ⟨some 44, .isnil .ptr true (.t 43), some (42, true)⟩,
          ⟨some 45, .pick (.t 42) (.t 44) (.c (.bool false)), none⟩,
          ⟨some 6, .mv (.t 45), none⟩])
      (.ret))
    (.skip))))
  (.seq (.prune [1, 2, 7, 8, 9]) (.seq (.reg [
      ⟨some 46, .mv (.t 1), none⟩,
      ⟨some 47, .mv (.t 2), none⟩,
      ⟨some 48, .mv (.t 9), none⟩,
      ⟨some 49, .call false 11 [(.t 46), (.t 47), (.t 48)], none⟩,
      ⟨some 11, .mv (.t 49), none⟩])
  (.seq (.prune [7, 8, 9, 11]) (.seq (.seq (.reg [
        ⟨some 12, .mv (.c (.int .i64 0)), none⟩])
    (.seq (.prune [7, 8, 9, 11, 12]) (.block 0 (.loop [7, 8, 9, 11, 12] (.seq (.seq (.reg [
              ⟨some 50, .mv (.t 12), none⟩,
              ⟨some 51, .mv (.t 11), none⟩,
              ⟨some 52, .len .slice (.t 51), none⟩,
              ⟨some 53, .bin .lss (.t 50) (.t 52), none⟩])
          (.seq (.prune [7, 8, 9, 11, 12, 53]) (.cond (.t 53) (.skip)
          (.exit 0))))
        (.seq (.prune [7, 8, 9, 11, 12]) (.seq (.block 1 (.seq (.reg [
                ⟨some 57, .mv (.t 8), none⟩,
                ⟨some 58, .mv (.t 11), none⟩,
                ⟨some 59, .mv (.t 12), none⟩,
                ⟨some 60, .ia 1 (.t 58) (.t 59), none⟩,
                ⟨some 61, .lds (.t 60), none⟩,
                ⟨some 62, .call false 22 [(.t 57), (.t 61)], none⟩,
                ⟨some 56, .mv (.t 62), none⟩,
                ⟨some 63, .ext 0 (.t 56), none⟩,
                ⟨some 64, .ext 1 (.t 56), none⟩,
                ⟨some 13, .mv (.t 63), none⟩,
                ⟨some 14, .mv (.t 64), none⟩])
            (.seq (.prune [7, 8, 9, 11, 12, 14]) (.seq (.reg [
                ⟨some 66, .mv (.t 11), none⟩,
                ⟨some 67, .mv (.t 12), none⟩,
                ⟨some 68, .ia 1 (.t 66) (.t 67), none⟩,
                ⟨some 69, .lds (.t 68), none⟩,
                ⟨some 70, .call false 30 [(.t 69)], none⟩,
                ⟨some 65, .mv (.t 70), none⟩,
                ⟨some 71, .ext 0 (.t 65), none⟩,
                ⟨some 72, .ext 1 (.t 65), none⟩,
                ⟨some 15, .mv (.t 71), none⟩,
                ⟨some 16, .mv (.t 72), none⟩])
            (.seq (.prune [7, 8, 9, 11, 12, 14, 15, 16]) (.seq (.reg [
                ⟨some 73, .mv (.t 14), none⟩,
                ⟨some 74, .un .not (.t 73), none⟩,
                ⟨some 75, .mv (.t 74), none⟩,
                ⟨some 76, .mv (.t 16), some (75, true)⟩,
                ⟨some 77, .pick (.t 75) (.t 76) (.c (.bool false)), none⟩,
                ⟨some 78, .mv (.t 77), none⟩,
                ⟨some 79, .mv (.t 15), some (78, true)⟩,
                ⟨some 80, .bin .gtr (.t 79) (.c (.int .i64 0)), some (78, true)⟩,
                ⟨some 81, .pick (.t 78) (.t 80) (.c (.bool false)), none⟩])
            (.seq (.prune [7, 8, 9, 11, 12, 81]) (.cond (.t 81) (.seq (.reg [
                  ⟨some 82, .mv (.t 7), none⟩,
                  ⟨some 6, .mv (.t 82), none⟩])
              (.ret))
            (.skip)))))))))
        (.seq (.prune [7, 8, 9, 11, 12]) (.reg [
          ⟨some 54, .mv (.t 12), none⟩,
          ⟨some 55, .bin .add (.t 54) (.c (.int .i64 1)), none⟩,
          ⟨some 12, .mv (.t 55), none⟩])))))))))
  (.seq (.prune [7, 8, 9, 11]) (.seq (.seq (.reg [
        ⟨some 83, .mv (.t 8), none⟩,
        ⟨some 84, .mv (.t 9), none⟩,
        ⟨some 85, .call false 31 [(.t 83), (.t 84)], none⟩])
    (.seq (.prune [7, 8, 11, 85]) (.cond (.t 85) (.seq (.reg [
          ⟨some 86, .mv (.t 7), none⟩,
          ⟨some 6, .mv (.t 86), none⟩])
      (.ret))
    (.skip))))
  (.seq (.prune [7, 8, 11]) (.seq (.reg [
      ⟨some 87, .mv (.t 8), none⟩,
      ⟨some 88, .mv (.t 11), none⟩,
      ⟨some 89, .call false 32 [(.t 87), (.t 88)], none⟩,
      ⟨some 17, .mv (.t 89), none⟩])
  (.seq (.prune [7, 8, 11, 17]) (.seq (.reg [
      ⟨some 90, .mv (.t 8), none⟩,
      ⟨some 91, .mv (.t 11), none⟩,
      ⟨some 92, .call false 16 [(.t 90), (.t 91)], none⟩,
      ⟨some 18, .mv (.t 92), none⟩])
  (.seq (.prune [7, 8, 17, 18]) (.seq (.reg [
      ⟨some 93, .mv (.t 8), none⟩,
      ⟨some 94, .mv (.t 18), none⟩,
      ⟨some 95, .call false 32 [(.t 93), (.t 94)], none⟩,
      ⟨some 19, .mv (.t 95), none⟩])
  (.seq (.prune [7, 8, 17, 19]) (.seq (.reg [
      ⟨some 96, .mv (.t 17), none⟩,
      ⟨some 97, .mv (.t 19), none⟩,
      ⟨some 98, .call false 18 [(.t 96), (.t 97)], none⟩,
      ⟨some 20, .mv (.t 98), none⟩])
  (.seq (.prune [7, 8, 19, 20]) (.seq (.reg [
      ⟨some 21, .mv (.c (.int .i64 0)), none⟩])
  (.seq (.prune [7, 8, 19, 20, 21]) (.seq (.reg [
      ⟨some 22, .mv (.c (.int .i64 0)), none⟩])
  (.seq (.prune [7, 8, 19, 20, 21, 22]) (.seq (.block 2 (.loop [7, 8, 19, 20, 21, 22] (.seq (.seq (.reg [
              ⟨some 99, .mv (.t 22), none⟩,
              ⟨some 100, .mv (.t 19), none⟩,
              ⟨some 101, .len .slice (.t 100), none⟩,
              ⟨some 102, .bin .lss (.t 99) (.t 101), none⟩])
          (.seq (.prune [7, 8, 19, 20, 21, 22, 102]) (.cond (.t 102) (.skip)
          (.exit 2))))
        (.seq (.prune [7, 8, 19, 20, 21, 22]) (.block 3 (.seq (.reg [
              ⟨some 103, .mv (.t 19), none⟩,
              ⟨some 104, .mv (.t 22), none⟩,
              ⟨some 105, .ia 1 (.t 103) (.t 104), none⟩,
              ⟨some 106, .lds (.t 105), none⟩,
              ⟨some 107, .bin .eql (.t 106) (.c (.int .u64 2)), none⟩])
          (.seq (.prune [7, 8, 19, 20, 21, 22, 107]) (.cond (.t 107) (.seq (.reg [
                ⟨some 108, .mv (.t 21), none⟩,
                ⟨some 109, .mv (.t 19), none⟩,
                ⟨some 110, .mv (.t 22), none⟩,
                ⟨some 111, .bin .add (.t 110) (.c (.int .i64 2)), none⟩,
                ⟨some 112, .ia 1 (.t 109) (.t 111), none⟩,
                ⟨some 113, .lds (.t 112), none⟩,
                ⟨some 114, .cvi .i64 (.t 113), none⟩,
                ⟨some 115, .bin .add (.t 108) (.t 114), none⟩,
                ⟨some 116, .bin .add (.t 115) (.c (.int .i64 1)), none⟩,
                ⟨some 21, .mv (.t 116), none⟩])
            (.seq (.prune [7, 8, 19, 20, 21, 22]) (.seq (.seq (.reg [
                  ⟨some 117, .mv (.t 19), none⟩,
                  ⟨some 118, .mv (.t 22), none⟩,
                  ⟨some 119, .bin .add (.t 118) (.c (.int .i64 1)), none⟩,
                  ⟨some 120, .ia 1 (.t 117) (.t 119), none⟩,
                  ⟨some 121, .lds (.t 120), none⟩,
                  ⟨some 122, .bin .geq (.t 121) (.c (.int .u64 64)), none⟩])
              (.seq (.prune [7, 8, 19, 20, 21, 22, 122]) (.cond (.t 122) (.reg [
                  ⟨some 123, .mv (.t 22), none⟩,
                  ⟨some 124, .mv (.t 19), none⟩,
                  ⟨some 125, .mv (.t 22), none⟩,
                  ⟨some 126, .bin .add (.t 125) (.c (.int .i64 2)), none⟩,
                  ⟨some 127, .ia 1 (.t 124) (.t 126), none⟩,
                  ⟨some 128, .lds (.t 127), none⟩,
                  ⟨some 129, .cvi .i64 (.t 128), none⟩,
                  ⟨some 130, .bin .add (.t 123) (.t 129), none⟩,
                  ⟨some 22, .mv (.t 130), none⟩])
              (.skip))))
            (.seq (.prune [7, 8, 19, 20, 21, 22]) (.reg [
              ⟨some 131, .mv (.t 22), none⟩,
              ⟨some 132, .bin .add (.t 131) (.c (.int .i64 3)), none⟩,
              ⟨some 22, .mv (.t 132), none⟩])))))
          (.reg [
              ⟨some 133, .mv (.t 22), none⟩,
              ⟨some 134, .bin .add (.t 133) (.c (.int .i64 2)), none⟩,
              ⟨some 22, .mv (.t 134), none⟩])))))))))
  (.seq (.prune [7, 8, 20, 21]) (.seq (.reg [
      ⟨some 135, .mv (.t 7), none⟩,
      ⟨some 136, .mv (.t 135), none⟩,
      ⟨some 137, .mv (.t 20), some (136, true)⟩,
      ⟨some 138, .pick (.t 136) (.t 137) (.c (.bool false)), none⟩,
      ⟨some 139, .mv (.t 138), none⟩,
      ⟨some 140, .mv (.t 8), some (139, true)⟩,
      ⟨some 141, .call false 19 [(.t 140)], some (139, true)⟩,
      ⟨some 142, .mv (.t 21), some (139, true)⟩,
      ⟨some 143, .bin .eql (.t 141) (.t 142), some (139, true)⟩,
      ⟨some 144, .pick (.t 139) (.t 143) (.c (.bool false)), none⟩,
      ⟨some 6, .mv (.t 144), none⟩])
  (.ret))))))))))))))))))))))))))))),
  [.t 6]⟩
/-- bezel/bezellaw08.HeapAgain -/
def a5 : AFunc := ⟨.seq (.reg [
      ⟨some 6, .mv (.c (.bool false)), none⟩])
  (.seq (.prune [0, 1, 2]) (.seq (.reg [
      ⟨some 22, .call false 7 [], none⟩,
      ⟨some 7, .mv (.t 22), none⟩])
  (.seq (.prune [0, 1, 2, 7]) (.seq (.reg [
      ⟨some 24, .mv (.t 0), none⟩,
      ⟨some 25, .call true 29 [(.t 24)], none⟩,
      ⟨some 23, .mv (.t 25), none⟩,
      ⟨some 26, .ext 0 (.t 23), none⟩,
      ⟨some 27, .ext 1 (.t 23), none⟩,
      ⟨some 28, .ext 2 (.t 23), none⟩,
      ⟨some 8, .mv (.t 26), none⟩,
      ⟨some 9, .mv (.t 27), none⟩,
      ⟨some 10, .mv (.t 28), none⟩])
  (.seq (.prune [1, 2, 7, 8, 9, 10]) (.seq (.seq (.reg [
        ⟨some 29, .mv (.t 8), none⟩,
        ⟨some 30, .isnil .ptr false (.t 29), none⟩,
        ⟨some 31, .mv (.t 30), none⟩,
        ⟨some 32, .mv (.t 10), some (31, false)⟩,
        ⟨some 33, .un .not (.t 32), some (31, false)⟩,
        ⟨some 34, .pick (.t 31) (.c (.bool true)) (.t 33), none⟩,
        ⟨some 35, .mv (.t 34), none⟩,
        ⟨some 36, .mv (.t 1), some (35, false)⟩,
        ⟨some 37, .len .slice (.t 36), some (35, false)⟩,
        ⟨some 38, .bin .gtr (.t 37) (.c (.int .i64 20)), some (35, false)⟩,
        ⟨some 39, .pick (.t 35) (.c (.bool true)) (.t 38), none⟩,
        ⟨some 40, .mv (.t 39), none⟩,
        ⟨some 41, .mv (.t 8), some (40, false)⟩,
        ⟨some 42, .mv (.t 9), some (40, false)⟩,
        ⟨some 43, .call false 31 [(.t 41), (.t 42)], some (40, false)⟩,
        ⟨some 44, .pick (.t 40) (.c (.bool true)) (.t 43), none⟩])
    (.seq (.prune [1, 2, 7, 8, 9, 44]) (.cond (.t 44) (.seq (.reg [
          ⟨some 45, .mv (.t 7), none⟩,
          ⟨some 46, .mv (.t 45), none⟩,
          ⟨some 47, .mv (.t 8), some (46, true)⟩,
          ⟨some 48, .isnil .ptr true (.t 47), some (46, true)⟩,
          ⟨some 49, .pick (.t 46) (.t 48) (.c (.bool false)), none⟩,
          ⟨some 6, .mv (.t 49), none⟩])
      (.ret))
    (.skip))))
  (.seq (.prune [1, 2, 7, 8, 9]) (.seq (.reg [
      ⟨some 50, .mv (.t 8), none⟩,
      ⟨some 51, .call false 19 [(.t 50)], none⟩,
      ⟨some 11, .mv (.t 51), none⟩])
  (.seq (.prune [1, 2, 7, 8, 9, 11]) (.seq (.reg [
      ⟨some 52, .mv (.t 1), none⟩,
      ⟨some 53, .mv (.t 2), none⟩,
      ⟨some 54, .mv (.t 9), none⟩,
      ⟨some 55, .call false 11 [(.t 52), (.t 53), (.t 54)], none⟩,
      ⟨some 12, .mv (.t 55), none⟩])
  (.seq (.prune [7, 8, 11, 12]) (.seq (.seq (.reg [
        ⟨some 13, .mv (.c (.int .i64 0)), none⟩])
    (.seq (.prune [7, 8, 11, 12, 13]) (.block 0 (.loop [7, 8, 11, 12, 13] (.seq (.seq (.reg [
              ⟨some 56, .mv (.t 13), none⟩,
              ⟨some 57, .mv (.t 12), none⟩,
              ⟨some 58, .len .slice (.t 57), none⟩,
              ⟨some 59, .bin .lss (.t 56) (.t 58), none⟩])
          (.seq (.prune [7, 8, 11, 12, 13, 59]) (.cond (.t 59) (.skip)
          (.exit 0))))
        (.seq (.prune [7, 8, 11, 12, 13]) (.seq (.block 1 (.seq (.reg [
                ⟨some 63, .mv (.t 8), none⟩,
                ⟨some 64, .mv (.t 12), none⟩,
                ⟨some 65, .mv (.t 13), none⟩,
                ⟨some 66, .ia 1 (.t 64) (.t 65), none⟩,
                ⟨some 67, .lds (.t 66), none⟩,
                ⟨some 68, .call false 22 [(.t 63), (.t 67)], none⟩,
                ⟨some 62, .mv (.t 68), none⟩,
                ⟨some 69, .ext 0 (.t 62), none⟩,
                ⟨some 70, .ext 1 (.t 62), none⟩,
                ⟨some 14, .mv (.t 69), none⟩,
                ⟨some 15, .mv (.t 70), none⟩])
            (.seq (.prune [7, 8, 11, 12, 13, 15]) (.seq (.reg [
                ⟨some 72, .mv (.t 12), none⟩,
                ⟨some 73, .mv (.t 13), none⟩,
                ⟨some 74, .ia 1 (.t 72) (.t 73), none⟩,
                ⟨some 75, .lds (.t 74), none⟩,
                ⟨some 76, .call false 30 [(.t 75)], none⟩,
                ⟨some 71, .mv (.t 76), none⟩,
                ⟨some 77, .ext 0 (.t 71), none⟩,
                ⟨some 78, .ext 1 (.t 71), none⟩,
                ⟨some 16, .mv (.t 77), none⟩,
                ⟨some 17, .mv (.t 78), none⟩])
            (.seq (.prune [7, 8, 11, 12, 13, 15, 16, 17]) (.seq (.reg [
                ⟨some 79, .mv (.t 15), none⟩,
                ⟨some 80, .un .not (.t 79), none⟩,
                ⟨some 81, .mv (.t 80), none⟩,
                ⟨some 82, .mv (.t 17), some (81, true)⟩,
                ⟨some 83, .pick (.t 81) (.t 82) (.c (.bool false)), none⟩,
                ⟨some 84, .mv (.t 83), none⟩,
                ⟨some 85, .mv (.t 16), some (84, true)⟩,
                ⟨some 86, .bin .gtr (.t 85) (.c (.int .i64 0)), some (84, true)⟩,
                ⟨some 87, .pick (.t 84) (.t 86) (.c (.bool false)), none⟩])
            (.seq (.prune [7, 8, 11, 12, 13, 87]) (.cond (.t 87) (.seq (.reg [
                  ⟨some 88, .mv (.t 7), none⟩,
                  ⟨some 6, .mv (.t 88), none⟩])
              (.ret))
            (.skip)))))))))
        (.seq (.prune [7, 8, 11, 12, 13]) (.reg [
          ⟨some 60, .mv (.t 13), none⟩,
          ⟨some 61, .bin .add (.t 60) (.c (.int .i64 1)), none⟩,
          ⟨some 13, .mv (.t 61), none⟩])))))))))
  (.seq (.prune [7, 8, 11, 12]) (.seq (.reg [
      ⟨some 89, .mv (.t 8), none⟩,
      ⟨some 90, .mv (.t 12), none⟩,
      ⟨some 91, .call false 16 [(.t 89), (.t 90)], none⟩,
      ⟨some 18, .mv (.t 91), none⟩])
  (.seq (.prune [7, 8, 11, 18]) (.seq (.reg [
      ⟨some 92, .mv (.t 8), none⟩,
      ⟨some 93, .call false 19 [(.t 92)], none⟩,
      ⟨some 19, .mv (.t 93), none⟩])
  (.seq (.prune [7, 8, 11, 18, 19]) (.seq (.reg [
      ⟨some 94, .mv (.t 8), none⟩,
      ⟨some 95, .mv (.t 18), none⟩,
      ⟨some 96, .call false 16 [(.t 94), (.t 95)], none⟩,
      ⟨some 20, .mv (.t 96), none⟩])
  (.seq (.prune [7, 8, 11, 18, 19, 20]) (.seq (.reg [
      ⟨some 97, .mv (.t 18), none⟩,
      ⟨some 98, .mv (.t 20), none⟩,
      ⟨some 99, .call false 18 [(.t 97), (.t 98)], none⟩,
      ⟨some 21, .mv (.t 99), none⟩])
  (.seq (.prune [7, 8, 11, 19, 21]) (.seq (.seq (.reg [
        ⟨some 100, .mv (.t 21), none⟩,
        ⟨some 101, .un .not (.t 100), none⟩,
        ⟨some 102, .mv (.t 101), none⟩,
        ⟨some 103, .mv (.t 8), some (102, false)⟩,
        ⟨some 104, .call false 19 [(.t 103)], some (102, false)⟩,
        ⟨some 105, .mv (.t 19), some (102, false)⟩,
        ⟨some 106, .bin .neq (.t 104) (.t 105), some (102, false)⟩,
        ⟨some 107, .pick (.t 102) (.c (.bool true)) (.t 106), none⟩,
        ⟨some 108, .mv (.t 107), none⟩,
        ⟨some 109, .mv (.t 19), some (108, false)⟩,
        ⟨some 110, .mv (.t 11), some (108, false)⟩,
        ⟨some 111, .bin .gtr (.t 109) (.t 110), some (108, false)⟩,
        ⟨some 112, .pick (.t 108) (.c (.bool true)) (.t 111), none⟩,
        ⟨some 113, .mv (.t 112), none⟩,
        ⟨some 114, .mv (.t 8), some (113, false)⟩,
        ⟨some 115, .call false 21 [(.t 114)], some (113, false)⟩,
        ⟨some 116, .mv (.t 19), some (113, false)⟩,
        ⟨some 117, .bin .add (.t 115) (.t 116), some (113, false)⟩,
        ⟨some 118, .bin .neq (.t 117) (.c (.int .i64 16384)), some (113, false)⟩,
        ⟨some 119, .pick (.t 113) (.c (.bool true)) (.t 118), none⟩])
    (.seq (.prune [7, 8, 119]) (.cond (.t 119) (.seq (.reg [
          ⟨some 6, .mv (.c (.bool false)), none⟩])
      (.ret))
    (.skip))))
  (.seq (.prune [7, 8]) (.seq (.reg [
      ⟨some 120, .mv (.t 8), none⟩,
      ⟨some 121, .call false 16 [(.t 120), (.c (.lst [] true))], none⟩])
  (.seq (.prune [7, 8]) (.seq (.reg [
      ⟨some 122, .mv (.t 7), none⟩,
      ⟨some 123, .mv (.t 122), none⟩,
      ⟨some 124, .mv (.t 8), some (123, true)⟩,
      ⟨some 125, .call false 19 [(.t 124)], some (123, true)⟩,
      ⟨some 126, .bin .eql (.t 125) (.c (.int .i64 0)), some (123, true)⟩,
      ⟨some 127, .pick (.t 123) (.t 126) (.c (.bool false)), none⟩,
      ⟨some 128, .mv (.t 127), none⟩,
      ⟨some 129, .mv (.t 8), some (128, true)⟩,
      ⟨some 130, .call false 21 [(.t 129)], some (128, true)⟩,
      ⟨some 131, .bin .eql (.t 130) (.c (.int .i64 16384)), some (128, true)⟩,
      ⟨some 132, .pick (.t 128) (.t 131) (.c (.bool false)), none⟩,
      ⟨some 6, .mv (.t 132), none⟩])
  (.ret))))))))))))))))))))))))))),
  [.t 6]⟩
/-- bezel/bezellaw08.HeapWords -/
def a6 : AFunc := ⟨.seq (.reg [
      ⟨some 4, .mv (.c (.bool false)), none⟩])
  (.seq (.prune [0, 1]) (.seq (.reg [
      ⟨some 21, .call false 7 [], none⟩,
      ⟨some 5, .mv (.t 21), none⟩])
  (.seq (.prune [0, 1, 5]) (.seq (.reg [
      ⟨some 23, .mv (.t 0), none⟩,
      ⟨some 24, .call false 33 [(.t 23)], none⟩,
      ⟨some 22, .mv (.t 24), none⟩,
      ⟨some 25, .ext 0 (.t 22), none⟩,
      ⟨some 26, .ext 1 (.t 22), none⟩,
      ⟨some 6, .mv (.t 25), none⟩,
      ⟨some 7, .mv (.t 26), none⟩])
  (.seq (.prune [0, 1, 5, 6, 7]) (.seq (.reg [
      ⟨some 28, .mv (.t 0), none⟩,
      ⟨some 29, .call false 34 [(.t 28)], none⟩,
      ⟨some 27, .mv (.t 29), none⟩,
      ⟨some 30, .ext 0 (.t 27), none⟩,
      ⟨some 31, .ext 1 (.t 27), none⟩,
      ⟨some 8, .mv (.t 30), none⟩,
      ⟨some 9, .mv (.t 31), none⟩])
  (.seq (.prune [0, 1, 5, 6, 7, 8, 9]) (.seq (.reg [
      ⟨some 33, .mv (.t 0), none⟩,
      ⟨some 34, .call false 35 [(.t 33)], none⟩,
      ⟨some 32, .mv (.t 34), none⟩,
      ⟨some 35, .ext 0 (.t 32), none⟩,
      ⟨some 36, .ext 1 (.t 32), none⟩,
      ⟨some 10, .mv (.t 35), none⟩,
      ⟨some 11, .mv (.t 36), none⟩])
  (.seq (.prune [0, 1, 5, 6, 7, 8, 9, 10, 11]) (.seq (.reg [
      ⟨some 38, .mv (.t 0), none⟩,
      ⟨some 39, .call false 36 [(.t 38), (.c (.int .u64 2))], none⟩,
      ⟨some 37, .mv (.t 39), none⟩,
      ⟨some 40, .ext 0 (.t 37), none⟩,
      ⟨some 41, .ext 1 (.t 37), none⟩,
      ⟨some 12, .mv (.t 40), none⟩,
      ⟨some 13, .mv (.t 41), none⟩])
  (.seq (.prune [0, 1, 5, 6, 7, 8, 9, 10, 11, 12, 13]) (.seq (.reg [
      ⟨some 43, .mv (.t 0), none⟩,
      ⟨some 44, .call false 30 [(.t 43)], none⟩,
      ⟨some 42, .mv (.t 44), none⟩,
      ⟨some 45, .ext 0 (.t 42), none⟩,
      ⟨some 46, .ext 1 (.t 42), none⟩,
      ⟨some 14, .mv (.t 45), none⟩,
      ⟨some 15, .mv (.t 46), none⟩])
  (.seq (.prune [0, 1, 5, 6, 7, 8, 9, 10, 11, 12, 13, 14, 15]) (.seq (.reg [
      ⟨some 48, .mv (.t 0), none⟩,
      ⟨some 49, .call false 36 [(.t 48), (.c (.int .u64 0))], none⟩,
      ⟨some 47, .mv (.t 49), none⟩,
      ⟨some 50, .ext 0 (.t 47), none⟩,
      ⟨some 51, .ext 1 (.t 47), none⟩,
      ⟨some 16, .mv (.t 50), none⟩,
      ⟨some 17, .mv (.t 51), none⟩])
  (.seq (.prune [1, 5, 6, 7, 8, 9, 10, 11, 12, 13, 14, 15, 16, 17]) (.seq (.reg [
      ⟨some 53, .mv (.t 1), none⟩,
      ⟨some 54, .call false 37 [(.t 53)], none⟩,
      ⟨some 55, .call false 33 [(.t 54)], none⟩,
      ⟨some 52, .mv (.t 55), none⟩,
      ⟨some 56, .ext 0 (.t 52), none⟩,
      ⟨some 57, .ext 1 (.t 52), none⟩,
      ⟨some 18, .mv (.t 56), none⟩,
      ⟨some 19, .mv (.t 57), none⟩])
  (.seq (.prune [1, 5, 6, 7, 8, 9, 10, 11, 12, 13, 14, 15, 16, 17, 18, 19]) (.seq (.reg [
      ⟨some 58, .mv (.t 1), none⟩,
      ⟨some 59, .bin .geq (.t 58) (.c (.int .i64 (-2305843009213693952))), none⟩,
      ⟨some 60, .mv (.t 59), none⟩,
      ⟨some 61, .mv (.t 1), some (60, true)⟩,
      ⟨some 62, .bin .leq (.t 61) (.c (.int .i64 2305843009213693951)), some (60, true)⟩,
      ⟨some 63, .pick (.t 60) (.t 62) (.c (.bool false)), none⟩,
      ⟨some 20, .mv (.t 63), none⟩])
  (.seq (.prune [1, 5, 6, 7, 8, 9, 10, 11, 12, 13, 14, 15, 16, 17, 18, 19, 20]) (.seq (.reg [
      ⟨some 64, .mv (.t 5), none⟩,
      ⟨some 65, .mv (.t 64), none⟩,
      ⟨some 66, .mv (.t 6), some (65, true)⟩,
      ⟨some 67, .mv (.t 8), some (65, true)⟩,
      ⟨some 68, .bin .eql (.t 66) (.t 67), some (65, true)⟩,
      ⟨some 69, .pick (.t 65) (.t 68) (.c (.bool false)), none⟩,
      ⟨some 70, .mv (.t 69), none⟩,
      ⟨some 71, .mv (.t 7), some (70, true)⟩,
      ⟨some 72, .mv (.t 9), some (70, true)⟩,
      ⟨some 73, .eqv false .bool (.t 71) (.t 72), some (70, true)⟩,
      ⟨some 74, .pick (.t 70) (.t 73) (.c (.bool false)), none⟩,
      ⟨some 75, .mv (.t 74), none⟩,
      ⟨some 76, .mv (.t 10), some (75, true)⟩,
      ⟨some 77, .mv (.t 12), some (75, true)⟩,
      ⟨some 78, .bin .eql (.t 76) (.t 77), some (75, true)⟩,
      ⟨some 79, .pick (.t 75) (.t 78) (.c (.bool false)), none⟩,
      ⟨some 80, .mv (.t 79), none⟩,
      ⟨some 81, .mv (.t 11), some (80, true)⟩,
      ⟨some 82, .mv (.t 13), some (80, true)⟩,
      ⟨some 83, .eqv false .bool (.t 81) (.t 82), some (80, true)⟩,
      ⟨some 84, .pick (.t 80) (.t 83) (.c (.bool false)), none⟩,
      ⟨some 85, .mv (.t 84), none⟩,
      ⟨some 86, .mv (.t 14), some (85, true)⟩,
      ⟨some 87, .mv (.t 16), some (85, true)⟩,
      ⟨some 88, .bin .eql (.t 86) (.t 87), some (85, true)⟩,
      ⟨some 89, .pick (.t 85) (.t 88) (.c (.bool false)), none⟩,
      ⟨some 90, .mv (.t 89), none⟩,
      ⟨some 91, .mv (.t 15), some (90, true)⟩,
      ⟨some 92, .mv (.t 17), some (90, true)⟩,
      ⟨some 93, .eqv false .bool (.t 91) (.t 92), some (90, true)⟩,
      ⟨some 94, .pick (.t 90) (.t 93) (.c (.bool false)), none⟩,
      ⟨some 95, .mv (.t 94), none⟩,
      ⟨some 96, .mv (.t 1), some (95, true)⟩,
      ⟨some 97, .call false 37 [(.t 96)], some (95, true)⟩,
      ⟨some 98, .mv (.t 1), some (95, true)⟩,
      ⟨some 99, .call false 38 [(.t 98)], some (95, true)⟩,
      ⟨some 100, .bin .eql (.t 97) (.t 99), some (95, true)⟩,
      ⟨some 101, .pick (.t 95) (.t 100) (.c (.bool false)), none⟩,
      ⟨some 102, .mv (.t 101), none⟩,
      ⟨some 103, .mv (.t 1), some (102, true)⟩,
      ⟨some 104, .call false 39 [(.t 103)], some (102, true)⟩,
      ⟨some 105, .mv (.t 1), some (102, true)⟩,
      ⟨some 106, .call false 38 [(.t 105)], some (102, true)⟩,
      ⟨some 107, .bin .add (.t 106) (.c (.int .u64 1)), some (102, true)⟩,
      ⟨some 108, .bin .eql (.t 104) (.t 107), some (102, true)⟩,
      ⟨some 109, .pick (.t 102) (.t 108) (.c (.bool false)), none⟩,
      ⟨some 110, .mv (.t 109), none⟩,
      ⟨some 111, .mv (.t 1), some (110, true)⟩,
      ⟨some 112, .call false 28 [(.t 111)], some (110, true)⟩,
      ⟨some 113, .mv (.t 1), some (110, true)⟩,
      ⟨some 114, .call false 38 [(.t 113)], some (110, true)⟩,
      ⟨some 115, .bin .sub (.t 114) (.c (.int .u64 1)), some (110, true)⟩,
      ⟨some 116, .bin .eql (.t 112) (.t 115), some (110, true)⟩,
      ⟨some 117, .pick (.t 110) (.t 116) (.c (.bool false)), none⟩,
      ⟨some 118, .mv (.t 117), none⟩,
      ⟨some 119, .mv (.t 19), some (118, true)⟩,
      ⟨some 120, .pick (.t 118) (.t 119) (.c (.bool false)), none⟩,
      ⟨some 121, .mv (.t 120), none⟩,
      ⟨some 122, .mv (.t 18), some (121, true)⟩,
      ⟨some 123, .mv (.t 1), some (121, true)⟩,
      ⟨some 124, .bin .eql (.t 122) (.t 123), some (121, true)⟩,
      ⟨some 125, .mv (.t 20), some (121, true)⟩,
      ⟨some 126, .eqv false .bool (.t 124) (.t 125), some (121, true)⟩,
      ⟨some 127, .pick (.t 121) (.t 126) (.c (.bool false)), none⟩,
      ⟨some 4, .mv (.t 127), none⟩])
  (.ret))))))))))))))))))))),
  [.t 4]⟩
/-- bezel/bezellaw08.awake -/
def a7 : AFunc := ⟨.seq (.reg [
      ⟨some 0, .mv (.c (.bool false)), none⟩])
  (.seq (.prune []) (.seq (.reg [
      ⟨some 15, .call true 8 [(.c (.int .i64 16))], none⟩,
      ⟨some 14, .mv (.t 15), none⟩,
      ⟨some 16, .ext 0 (.t 14), none⟩,
      ⟨some 17, .ext 1 (.t 14), none⟩,
      ⟨some 1, .mv (.t 16), none⟩,
      ⟨some 2, .mv (.t 17), none⟩])
  (.seq (.prune [1, 2]) (.seq (.seq (.reg [
        ⟨some 18, .mv (.t 1), none⟩,
        ⟨some 19, .isnil .ptr false (.t 18), none⟩,
        ⟨some 20, .mv (.t 19), none⟩,
        ⟨some 21, .mv (.t 2), some (20, false)⟩,
        ⟨some 22, .bin .neq (.t 21) (.c (.int .i64 0)), some (20, false)⟩,
        ⟨some 23, .pick (.t 20) (.c (.bool true)) (.t 22), none⟩])
    (.seq (.prune [1, 23]) (.cond (.t 23) (.seq (.reg [
          ⟨some 0, .mv (.c (.bool false)), none⟩])
      (.ret))
    (.skip))))
  (.seq (.prune [1]) (.seq (.reg [
      ⟨some 25, .mv (.t 1), none⟩,
      ⟨some 26, .call false 37 [(.c (.int .i64 1))], none⟩,
      ⟨some 27, .call false 37 [(.c (.int .i64 2))], none⟩,
      ⟨some 28, .bsl 1 (.int .u64 0) 2 [(0, (.t 26)), (1, (.t 27))], none⟩,
      ⟨some 29, .call false 12 [(.t 25), (.c (.int .i64 1)), (.t 28)], none⟩,
      ⟨some 24, .mv (.t 29), none⟩,
      ⟨some 30, .ext 0 (.t 24), none⟩,
      ⟨some 31, .ext 1 (.t 24), none⟩,
      ⟨some 3, .mv (.t 30), none⟩,
      ⟨some 4, .mv (.t 31), none⟩])
  (.seq (.prune [1, 4]) (.seq (.reg [
      ⟨some 33, .mv (.t 1), none⟩,
      ⟨some 34, .call false 37 [(.c (.int .i64 (-3)))], none⟩,
      ⟨some 35, .bsl 1 (.int .u64 0) 1 [(0, (.t 34))], none⟩,
      ⟨some 36, .call false 12 [(.t 33), (.c (.int .i64 2)), (.t 35)], none⟩,
      ⟨some 32, .mv (.t 36), none⟩,
      ⟨some 37, .ext 0 (.t 32), none⟩,
      ⟨some 38, .ext 1 (.t 32), none⟩,
      ⟨some 5, .mv (.t 37), none⟩,
      ⟨some 6, .mv (.t 38), none⟩])
  (.seq (.prune [1, 4, 5, 6]) (.seq (.reg [
      ⟨some 39, .mv (.t 1), none⟩,
      ⟨some 40, .mv (.t 5), none⟩,
      ⟨some 41, .mv (.t 5), none⟩,
      ⟨some 42, .call false 14 [(.t 39), (.t 40), (.c (.int .i64 0)), (.t 41)], none⟩])
  (.seq (.prune [1, 4, 5, 6]) (.seq (.reg [
      ⟨some 43, .mv (.t 1), none⟩,
      ⟨some 44, .call false 39 [(.c (.int .i64 5))], none⟩,
      ⟨some 45, .mv (.t 5), none⟩,
      ⟨some 46, .bsl 1 (.int .u64 0) 2 [(0, (.t 44)), (1, (.t 45))], none⟩,
      ⟨some 47, .call false 16 [(.t 43), (.t 46)], none⟩,
      ⟨some 7, .mv (.t 47), none⟩])
  (.seq (.prune [1, 4, 6, 7]) (.seq (.seq (.reg [
        ⟨some 48, .mv (.t 7), none⟩,
        ⟨some 49, .len .slice (.t 48), none⟩,
        ⟨some 50, .bin .neq (.t 49) (.c (.int .i64 2)), none⟩])
    (.seq (.prune [1, 4, 6, 7, 50]) (.cond (.t 50) (.seq (.reg [
          ⟨some 0, .mv (.c (.bool false)), none⟩])
      (.ret))
    (.skip))))
  (.seq (.prune [1, 4, 6, 7]) (.seq (.reg [
      ⟨some 52, .mv (.t 1), none⟩,
      ⟨some 53, .mv (.t 7), none⟩,
      ⟨some 54, .ia 1 (.t 53) (.c (.int .i64 1)), none⟩,
      ⟨some 55, .lds (.t 54), none⟩,
      ⟨some 56, .call false 22 [(.t 52), (.t 55)], none⟩,
      ⟨some 51, .mv (.t 56), none⟩,
      ⟨some 57, .ext 0 (.t 51), none⟩,
      ⟨some 58, .ext 1 (.t 51), none⟩,
      ⟨some 8, .mv (.t 57), none⟩,
      ⟨some 9, .mv (.t 58), none⟩])
  (.seq (.prune [1, 4, 6, 7, 8, 9]) (.seq (.reg [
      ⟨some 60, .mv (.t 1), none⟩,
      ⟨some 61, .mv (.t 7), none⟩,
      ⟨some 62, .ia 1 (.t 61) (.c (.int .i64 1)), none⟩,
      ⟨some 63, .lds (.t 62), none⟩,
      ⟨some 64, .call false 24 [(.t 60), (.t 63), (.c (.int .i64 0))], none⟩,
      ⟨some 59, .mv (.t 64), none⟩,
      ⟨some 65, .ext 0 (.t 59), none⟩,
      ⟨some 66, .ext 1 (.t 59), none⟩,
      ⟨some 10, .mv (.t 65), none⟩,
      ⟨some 11, .mv (.t 66), none⟩])
  (.seq (.prune [1, 4, 6, 7, 8, 9, 10, 11]) (.seq (.reg [
      ⟨some 68, .call false 37 [(.c (.int .i64 (-3)))], none⟩,
      ⟨some 69, .call false 33 [(.t 68)], none⟩,
      ⟨some 67, .mv (.t 69), none⟩,
      ⟨some 70, .ext 0 (.t 67), none⟩,
      ⟨some 71, .ext 1 (.t 67), none⟩,
      ⟨some 12, .mv (.t 70), none⟩,
      ⟨some 13, .mv (.t 71), none⟩])
  (.seq (.prune [1, 4, 6, 7, 8, 9, 10, 11, 12, 13]) (.seq (.draw 0 [
      (⟨some 72, .mv (.t 4), none⟩, 0, []),
      (⟨some 73, .bin .eql (.t 72) (.c (.int .i64 0)), none⟩, 0, [0]),
      (⟨some 74, .mv (.t 73), none⟩, 0, [0, 1]),
      (⟨some 75, .mv (.t 6), some (74, true)⟩, 0, [0, 1, 2]),
      (⟨some 76, .bin .eql (.t 75) (.c (.int .i64 0)), some (74, true)⟩, 0, [0, 1, 2, 3]),
      (⟨some 77, .pick (.t 74) (.t 76) (.c (.bool false)), none⟩, 0, [0, 1, 2, 3, 4]),
      (⟨some 78, .mv (.t 77), none⟩, 0, [0, 1, 2, 3, 4, 5]),
      (⟨some 79, .mv (.t 7), some (78, true)⟩, 0, [0, 1, 2, 3, 4, 5, 6]),
      (⟨some 80, .ia 1 (.t 79) (.c (.int .i64 0)), some (78, true)⟩, 0, [0, 1, 2, 3, 4, 5, 6, 7]),
      (⟨some 81, .lds (.t 80), some (78, true)⟩, 0, [0, 1, 2, 3, 4, 5, 6, 7, 8]),
      (⟨some 82, .call false 39 [(.c (.int .i64 5))], some (78, true)⟩, 0, [0, 1, 2, 3, 4, 5, 6]),
      (⟨some 83, .bin .eql (.t 81) (.t 82), some (78, true)⟩, 0, [0, 1, 2, 3, 4, 5, 6, 7, 8, 9, 10]),
      (⟨some 84, .pick (.t 78) (.t 83) (.c (.bool false)), none⟩, 0, [0, 1, 2, 3, 4, 5, 6, 7, 8, 9, 10, 11]),
      (⟨some 85, .mv (.t 84), none⟩, 0, [0, 1, 2, 3, 4, 5, 6, 7, 8, 9, 10, 11, 12]),
      (⟨some 86, .mv (.t 7), some (85, true)⟩, 0, [0, 1, 2, 3, 4, 5, 6, 7, 8, 9, 10, 11, 12, 13]),
      (⟨some 87, .ia 1 (.t 86) (.c (.int .i64 1)), some (85, true)⟩, 0, [0, 1, 2, 3, 4, 5, 6, 7, 8, 9, 10, 11, 12, 13, 14]),
      (⟨some 88, .lds (.t 87), some (85, true)⟩, 0, [0, 1, 2, 3, 4, 5, 6, 7, 8, 9, 10, 11, 12, 13, 14, 15]),
      (⟨some 89, .call false 28 [(.c (.int .i64 1))], some (85, true)⟩, 0, [0, 1, 2, 3, 4, 5, 6, 7, 8, 9, 10, 11, 12, 13]),
      (⟨some 90, .bin .eql (.t 88) (.t 89), some (85, true)⟩, 0, [0, 1, 2, 3, 4, 5, 6, 7, 8, 9, 10, 11, 12, 13, 14, 15, 16, 17]),
      (⟨some 91, .pick (.t 85) (.t 90) (.c (.bool false)), none⟩, 0, [0, 1, 2, 3, 4, 5, 6, 7, 8, 9, 10, 11, 12, 13, 14, 15, 16, 17, 18]),
      (⟨some 92, .mv (.t 91), none⟩, 0, [0, 1, 2, 3, 4, 5, 6, 7, 8, 9, 10, 11, 12, 13, 14, 15, 16, 17, 18, 19]),
      (⟨some 93, .mv (.t 8), some (92, true)⟩, 0, [0, 1, 2, 3, 4, 5, 6, 7, 8, 9, 10, 11, 12, 13, 14, 15, 16, 17, 18, 19, 20]),
      (⟨some 94, .bin .eql (.t 93) (.c (.int .i64 2)), some (92, true)⟩, 0, [0, 1, 2, 3, 4, 5, 6, 7, 8, 9, 10, 11, 12, 13, 14, 15, 16, 17, 18, 19, 20, 21]),
      (⟨some 95, .pick (.t 92) (.t 94) (.c (.bool false)), none⟩, 0, [0, 1, 2, 3, 4, 5, 6, 7, 8, 9, 10, 11, 12, 13, 14, 15, 16, 17, 18, 19, 20, 21, 22]),
      (⟨some 96, .mv (.t 95), none⟩, 0, [0, 1, 2, 3, 4, 5, 6, 7, 8, 9, 10, 11, 12, 13, 14, 15, 16, 17, 18, 19, 20, 21, 22, 23]),
      (⟨some 97, .mv (.t 9), some (96, true)⟩, 0, [0, 1, 2, 3, 4, 5, 6, 7, 8, 9, 10, 11, 12, 13, 14, 15, 16, 17, 18, 19, 20, 21, 22, 23, 24]),
      (⟨some 98, .pick (.t 96) (.t 97) (.c (.bool false)), none⟩, 0, [0, 1, 2, 3, 4, 5, 6, 7, 8, 9, 10, 11, 12, 13, 14, 15, 16, 17, 18, 19, 20, 21, 22, 23, 24, 25]),
      (⟨some 99, .mv (.t 98), none⟩, 0, [0, 1, 2, 3, 4, 5, 6, 7, 8, 9, 10, 11, 12, 13, 14, 15, 16, 17, 18, 19, 20, 21, 22, 23, 24, 25, 26]),
      (⟨some 100, .mv (.t 10), some (99, true)⟩, 0, [0, 1, 2, 3, 4, 5, 6, 7, 8, 9, 10, 11, 12, 13, 14, 15, 16, 17, 18, 19, 20, 21, 22, 23, 24, 25, 26, 27]),
      (⟨some 101, .mv (.t 7), some (99, true)⟩, 0, [0, 1, 2, 3, 4, 5, 6, 7, 8, 9, 10, 11, 12, 13, 14, 15, 16, 17, 18, 19, 20, 21, 22, 23, 24, 25, 26, 27]),
      (⟨some 102, .ia 1 (.t 101) (.c (.int .i64 1)), some (99, true)⟩, 0, [0, 1, 2, 3, 4, 5, 6, 7, 8, 9, 10, 11, 12, 13, 14, 15, 16, 17, 18, 19, 20, 21, 22, 23, 24, 25, 26, 27, 29]),
      (⟨some 103, .lds (.t 102), some (99, true)⟩, 0, [0, 1, 2, 3, 4, 5, 6, 7, 8, 9, 10, 11, 12, 13, 14, 15, 16, 17, 18, 19, 20, 21, 22, 23, 24, 25, 26, 27, 29, 30]),
      (⟨some 104, .bin .eql (.t 100) (.t 103), some (99, true)⟩, 0, [0, 1, 2, 3, 4, 5, 6, 7, 8, 9, 10, 11, 12, 13, 14, 15, 16, 17, 18, 19, 20, 21, 22, 23, 24, 25, 26, 27, 28, 29, 30, 31]),
      (⟨some 105, .pick (.t 99) (.t 104) (.c (.bool false)), none⟩, 0, [0, 1, 2, 3, 4, 5, 6, 7, 8, 9, 10, 11, 12, 13, 14, 15, 16, 17, 18, 19, 20, 21, 22, 23, 24, 25, 26, 27, 28, 29, 30, 31, 32]),
      (⟨some 106, .mv (.t 105), none⟩, 0, [0, 1, 2, 3, 4, 5, 6, 7, 8, 9, 10, 11, 12, 13, 14, 15, 16, 17, 18, 19, 20, 21, 22, 23, 24, 25, 26, 27, 28, 29, 30, 31, 32, 33]),
      (⟨some 107, .mv (.t 11), some (106, true)⟩, 0, [0, 1, 2, 3, 4, 5, 6, 7, 8, 9, 10, 11, 12, 13, 14, 15, 16, 17, 18, 19, 20, 21, 22, 23, 24, 25, 26, 27, 28, 29, 30, 31, 32, 33, 34]),
      (⟨some 108, .pick (.t 106) (.t 107) (.c (.bool false)), none⟩, 0, [0, 1, 2, 3, 4, 5, 6, 7, 8, 9, 10, 11, 12, 13, 14, 15, 16, 17, 18, 19, 20, 21, 22, 23, 24, 25, 26, 27, 28, 29, 30, 31, 32, 33, 34, 35]),
      (⟨some 109, .mv (.t 108), none⟩, 0, [0, 1, 2, 3, 4, 5, 6, 7, 8, 9, 10, 11, 12, 13, 14, 15, 16, 17, 18, 19, 20, 21, 22, 23, 24, 25, 26, 27, 28, 29, 30, 31, 32, 33, 34, 35, 36]),
      (⟨some 110, .mv (.t 1), some (109, true)⟩, 0, [0, 1, 2, 3, 4, 5, 6, 7, 8, 9, 10, 11, 12, 13, 14, 15, 16, 17, 18, 19, 20, 21, 22, 23, 24, 25, 26, 27, 28, 29, 30, 31, 32, 33, 34, 35, 36, 37]),
      (⟨some 111, .call false 19 [(.t 110)], some (109, true)⟩, 0, [0, 1, 2, 3, 4, 5, 6, 7, 8, 9, 10, 11, 12, 13, 14, 15, 16, 17, 18, 19, 20, 21, 22, 23, 24, 25, 26, 27, 28, 29, 30, 31, 32, 33, 34, 35, 36, 37, 38]),
      (⟨some 112, .bin .eql (.t 111) (.c (.int .i64 2)), some (109, true)⟩, 0, [0, 1, 2, 3, 4, 5, 6, 7, 8, 9, 10, 11, 12, 13, 14, 15, 16, 17, 18, 19, 20, 21, 22, 23, 24, 25, 26, 27, 28, 29, 30, 31, 32, 33, 34, 35, 36, 37, 38, 39]),
      (⟨some 113, .pick (.t 109) (.t 112) (.c (.bool false)), none⟩, 0, [0, 1, 2, 3, 4, 5, 6, 7, 8, 9, 10, 11, 12, 13, 14, 15, 16, 17, 18, 19, 20, 21, 22, 23, 24, 25, 26, 27, 28, 29, 30, 31, 32, 33, 34, 35, 36, 37, 38, 39, 40]),
      (⟨some 114, .mv (.t 113), none⟩, 0, [0, 1, 2, 3, 4, 5, 6, 7, 8, 9, 10, 11, 12, 13, 14, 15, 16, 17, 18, 19, 20, 21, 22, 23, 24, 25, 26, 27, 28, 29, 30, 31, 32, 33, 34, 35, 36, 37, 38, 39, 40, 41]),
      (⟨some 115, .mv (.t 1), some (114, true)⟩, 0, [0, 1, 2, 3, 4, 5, 6, 7, 8, 9, 10, 11, 12, 13, 14, 15, 16, 17, 18, 19, 20, 21, 22, 23, 24, 25, 26, 27, 28, 29, 30, 31, 32, 33, 34, 35, 36, 37, 38, 39, 40, 41, 42]),
      (⟨some 116, .call false 21 [(.t 115)], some (114, true)⟩, 0, [0, 1, 2, 3, 4, 5, 6, 7, 8, 9, 10, 11, 12, 13, 14, 15, 16, 17, 18, 19, 20, 21, 22, 23, 24, 25, 26, 27, 28, 29, 30, 31, 32, 33, 34, 35, 36, 37, 38, 39, 40, 41, 42, 43]),
      (⟨some 117, .bin .eql (.t 116) (.c (.int .i64 14)), some (114, true)⟩, 0, [0, 1, 2, 3, 4, 5, 6, 7, 8, 9, 10, 11, 12, 13, 14, 15, 16, 17, 18, 19, 20, 21, 22, 23, 24, 25, 26, 27, 28, 29, 30, 31, 32, 33, 34, 35, 36, 37, 38, 39, 40, 41, 42, 43, 44]),
      (⟨some 118, .pick (.t 114) (.t 117) (.c (.bool false)), none⟩, 0, [0, 1, 2, 3, 4, 5, 6, 7, 8, 9, 10, 11, 12, 13, 14, 15, 16, 17, 18, 19, 20, 21, 22, 23, 24, 25, 26, 27, 28, 29, 30, 31, 32, 33, 34, 35, 36, 37, 38, 39, 40, 41, 42, 43, 44, 45]),
      (⟨some 119, .mv (.t 118), none⟩, 0, [0, 1, 2, 3, 4, 5, 6, 7, 8, 9, 10, 11, 12, 13, 14, 15, 16, 17, 18, 19, 20, 21, 22, 23, 24, 25, 26, 27, 28, 29, 30, 31, 32, 33, 34, 35, 36, 37, 38, 39, 40, 41, 42, 43, 44, 45, 46]),
      (⟨some 120, .mv (.t 12), some (119, true)⟩, 0, [0, 1, 2, 3, 4, 5, 6, 7, 8, 9, 10, 11, 12, 13, 14, 15, 16, 17, 18, 19, 20, 21, 22, 23, 24, 25, 26, 27, 28, 29, 30, 31, 32, 33, 34, 35, 36, 37, 38, 39, 40, 41, 42, 43, 44, 45, 46, 47]),
      (⟨some 121, .bin .eql (.t 120) (.c (.int .i64 (-3))), some (119, true)⟩, 0, [0, 1, 2, 3, 4, 5, 6, 7, 8, 9, 10, 11, 12, 13, 14, 15, 16, 17, 18, 19, 20, 21, 22, 23, 24, 25, 26, 27, 28, 29, 30, 31, 32, 33, 34, 35, 36, 37, 38, 39, 40, 41, 42, 43, 44, 45, 46, 47, 48]),
      (⟨some 122, .pick (.t 119) (.t 121) (.c (.bool false)), none⟩, 0, [0, 1, 2, 3, 4, 5, 6, 7, 8, 9, 10, 11, 12, 13, 14, 15, 16, 17, 18, 19, 20, 21, 22, 23, 24, 25, 26, 27, 28, 29, 30, 31, 32, 33, 34, 35, 36, 37, 38, 39, 40, 41, 42, 43, 44, 45, 46, 47, 48, 49]),
      (⟨some 123, .mv (.t 122), none⟩, 0, [0, 1, 2, 3, 4, 5, 6, 7, 8, 9, 10, 11, 12, 13, 14, 15, 16, 17, 18, 19, 20, 21, 22, 23, 24, 25, 26, 27, 28, 29, 30, 31, 32, 33, 34, 35, 36, 37, 38, 39, 40, 41, 42, 43, 44, 45, 46, 47, 48, 49, 50]),
      (⟨some 124, .mv (.t 13), some (123, true)⟩, 0, [0, 1, 2, 3, 4, 5, 6, 7, 8, 9, 10, 11, 12, 13, 14, 15, 16, 17, 18, 19, 20, 21, 22, 23, 24, 25, 26, 27, 28, 29, 30, 31, 32, 33, 34, 35, 36, 37, 38, 39, 40, 41, 42, 43, 44, 45, 46, 47, 48, 49, 50, 51]),
      (⟨some 125, .pick (.t 123) (.t 124) (.c (.bool false)), none⟩, 0, [0, 1, 2, 3, 4, 5, 6, 7, 8, 9, 10, 11, 12, 13, 14, 15, 16, 17, 18, 19, 20, 21, 22, 23, 24, 25, 26, 27, 28, 29, 30, 31, 32, 33, 34, 35, 36, 37, 38, 39, 40, 41, 42, 43, 44, 45, 46, 47, 48, 49, 50, 51, 52]),
      (⟨some 0, .mv (.t 125), none⟩, 0, [0, 1, 2, 3, 4, 5, 6, 7, 8, 9, 10, 11, 12, 13, 14, 15, 16, 17, 18, 19, 20, 21, 22, 23, 24, 25, 26, 27, 28, 29, 30, 31, 32, 33, 34, 35, 36, 37, 38, 39, 40, 41, 42, 43, 44, 45, 46, 47, 48, 49, 50, 51, 52, 53])])
  (.ret))))))))))))))))))))))),
  [.t 0]⟩
/-- bezel/heap.New -/
def a8 : AFunc := ⟨.seq (.reg [
      ⟨some 2, .mv (.c (.nilp)), none⟩,
      ⟨some 3, .mv (.c (.int .i64 0)), none⟩])
  (.seq (.prune [0]) (.seq (.seq (.reg [
        ⟨some 4, .mv (.t 0), none⟩,
        ⟨some 5, .bin .lss (.t 4) (.c (.int .i64 16)), none⟩,
        ⟨some 6, .mv (.t 5), none⟩,
        ⟨some 7, .mv (.t 0), some (6, false)⟩,
        ⟨some 8, .bin .gtr (.t 7) (.c (.int .i64 1048576)), some (6, false)⟩,
        ⟨some 9, .pick (.t 6) (.c (.bool true)) (.t 8), none⟩])
    (.seq (.prune [0, 9]) (.cond (.t 9) (.seq (.reg [
          ⟨some 2, .mv (.c (.nilp)), none⟩,
          ⟨some 3, .mv (.c (.int .i64 1)), none⟩])
      (.ret))
    (.skip))))
  (.seq (.prune [0]) (.seq (.draw 4 [
      (⟨some 10, .mv (.t 0), none⟩, 0, []),
      (⟨some 11, .bin .add (.t 10) (.c (.int .i64 1)), none⟩, 0, [0]),
      (⟨some 12, .mks 1 8 none [.int .u64 0] (.t 11) (.t 11), none⟩, 0, [0, 1]),
      (⟨some 13, .mv (.t 0), none⟩, 0, []),
      (⟨some 14, .bin .add (.t 13) (.c (.int .i64 1)), none⟩, 0, [3]),
      (⟨some 15, .mks 1 8 none [.int .u64 0] (.t 14) (.t 14), none⟩, 1, [3, 4]),
      (⟨some 16, .mv (.t 0), none⟩, 0, []),
      (⟨some 17, .bin .add (.t 16) (.c (.int .i64 1)), none⟩, 0, [6]),
      (⟨some 18, .mks 1 1 none [.bool false] (.t 17) (.t 17), none⟩, 2, [6, 7]),
      (⟨some 19, .build [.lst [] true, .lst [] true, .lst [] true, .int .i64 0] [(0, 1, (.t 12)), (1, 1, (.t 15)), (2, 1, (.t 18)), (3, 1, (.c (.int .i64 1)))], none⟩, 0, [0, 1, 2, 3, 4, 5, 6, 7, 8]),
      (⟨some 20, .box (.t 19), none⟩, 3, [0, 1, 2, 3, 4, 5, 6, 7, 8, 9]),
      (⟨some 2, .mv (.t 20), none⟩, 0, [0, 1, 2, 3, 4, 5, 6, 7, 8, 9, 10]),
      (⟨some 3, .mv (.c (.int .i64 0)), none⟩, 0, [0, 1, 2, 3, 4, 5, 6, 7, 8, 9, 10, 11])])
  (.ret))))),
  [.t 2, .t 3]⟩
/-- bezel/bezelref08.New -/
def a9 : AFunc := ⟨.seq (.reg [
      ⟨some 2, .mv (.c (.nilp)), none⟩,
      ⟨some 3, .mv (.c (.int .i64 0)), none⟩])
  (.seq (.prune [0]) (.seq (.seq (.reg [
        ⟨some 4, .mv (.t 0), none⟩,
        ⟨some 5, .bin .lss (.t 4) (.c (.int .i64 16)), none⟩,
        ⟨some 6, .mv (.t 5), none⟩,
        ⟨some 7, .mv (.t 0), some (6, false)⟩,
        ⟨some 8, .bin .gtr (.t 7) (.c (.int .i64 1048576)), some (6, false)⟩,
        ⟨some 9, .pick (.t 6) (.c (.bool true)) (.t 8), none⟩])
    (.seq (.prune [0, 9]) (.cond (.t 9) (.seq (.reg [
          ⟨some 2, .mv (.c (.nilp)), none⟩,
          ⟨some 3, .mv (.c (.int .i64 1)), none⟩])
      (.ret))
    (.skip))))
  (.seq (.prune [0]) (.seq (.reg [
      ⟨some 10, .mv (.t 0), none⟩,
      ⟨some 11, .build [.int .i64 0, .lst [] true] [(0, 1, (.t 10))], none⟩,
      ⟨some 12, .box (.t 11), none⟩,
      ⟨some 2, .mv (.t 12), none⟩,
      ⟨some 3, .mv (.c (.int .i64 0)), none⟩])
  (.ret))))),
  [.t 2, .t 3]⟩
/-- bezel/bezellaw08.word -/
def a10 : AFunc := ⟨.seq (.reg [
      ⟨some 6, .mv (.c (.int .u64 0)), none⟩])
  (.seq (.prune [0, 1, 2]) (.seq (.seq (.reg [
        ⟨some 7, .mv (.t 1), none⟩,
        ⟨some 8, .bin .eql (.t 7) (.c (.int .u64 0)), none⟩,
        ⟨some 9, .mv (.t 8), none⟩,
        ⟨some 10, .mv (.t 2), some (9, false)⟩,
        ⟨some 11, .len .slice (.t 10), some (9, false)⟩,
        ⟨some 12, .bin .eql (.t 11) (.c (.int .i64 0)), some (9, false)⟩,
        ⟨some 13, .pick (.t 9) (.c (.bool true)) (.t 12), none⟩,
        ⟨some 14, .mv (.t 13), none⟩,
        ⟨some 15, .mv (.t 0), some (14, false)⟩,
        ⟨some 16, .mv (.t 1), some (14, false)⟩,
        ⟨some 17, .bin .rem (.t 15) (.t 16), some (14, false)⟩,
        ⟨some 18, .bin .eql (.t 17) (.c (.int .u64 0)), some (14, false)⟩,
        ⟨some 19, .pick (.t 14) (.c (.bool true)) (.t 18), none⟩])
    (.seq (.prune [0, 1, 2, 19]) (.cond (.t 19) (.seq (.reg [
          ⟨some 20, .mv (.t 0), none⟩,
          ⟨some 6, .mv (.t 20), none⟩])
      (.ret))
    (.skip))))
  (.seq (.prune [0, 1, 2]) (.seq (.reg [
      ⟨some 21, .mv (.t 2), none⟩,
      ⟨some 22, .mv (.t 0), none⟩,
      ⟨some 23, .mv (.t 1), none⟩,
      ⟨some 24, .bin .rem (.t 22) (.t 23), none⟩,
      ⟨some 25, .mv (.t 2), none⟩,
      ⟨some 26, .len .slice (.t 25), none⟩,
      ⟨some 27, .cvi .u64 (.t 26), none⟩,
      ⟨some 28, .bin .rem (.t 24) (.t 27), none⟩,
      ⟨some 29, .ia 1 (.t 21) (.t 28), none⟩,
      ⟨some 30, .lds (.t 29), none⟩,
      ⟨some 6, .mv (.t 30), none⟩])
  (.ret))))),
  [.t 6]⟩
/-- bezel/bezellaw08.words -/
def a11 : AFunc := ⟨.seq (.reg [
      ⟨some 6, .mv (.c (.lst [] true)), none⟩])
  (.seq (.prune [0, 1, 2]) (.seq (.reg [
      ⟨some 7, .mv (.c (.lst [] true)), none⟩])
  (.seq (.prune [0, 1, 2, 7]) (.seq (.seq (.reg [
        ⟨some 8, .mv (.c (.int .i64 0)), none⟩])
    (.seq (.prune [0, 1, 2, 7, 8]) (.block 0 (.seq (.own 7 none)
      (.loop [0, 1, 2, 7, 8] (.seq (.seq (.reg [
              ⟨some 9, .mv (.t 8), none⟩,
              ⟨some 10, .mv (.t 0), none⟩,
              ⟨some 11, .len .slice (.t 10), none⟩,
              ⟨some 12, .bin .lss (.t 9) (.t 11), none⟩])
          (.seq (.prune [0, 1, 2, 7, 8, 12]) (.cond (.t 12) (.skip)
          (.exit 0))))
        (.seq (.prune [0, 1, 2, 7, 8]) (.seq (.block 1 (.reg [
              ⟨some 15, .mv (.t 7), none⟩,
              ⟨some 16, .mv (.t 0), none⟩,
              ⟨some 17, .mv (.t 8), none⟩,
              ⟨some 18, .ia 1 (.t 16) (.t 17), none⟩,
              ⟨some 19, .lds (.t 18), none⟩,
              ⟨some 20, .mv (.t 1), none⟩,
              ⟨some 21, .mv (.t 2), none⟩,
              ⟨some 22, .call false 10 [(.t 19), (.t 20), (.t 21)], none⟩,
              ⟨some 23, .bsl 1 (.int .u64 0) 1 [(0, (.t 22))], none⟩,
              ⟨some 24, .app 1 8 false (.t 15) (.t 23), none⟩,
              ⟨some 7, .mv (.t 24), none⟩]))
        (.seq (.prune [0, 1, 2, 7, 8]) (.reg [
          ⟨some 13, .mv (.t 8), none⟩,
          ⟨some 14, .bin .add (.t 13) (.c (.int .i64 1)), none⟩,
          ⟨some 8, .mv (.t 14), none⟩]))))))))))
  (.seq (.prune [7]) (.seq (.reg [
      ⟨some 25, .mv (.t 7), none⟩,
      ⟨some 6, .mv (.t 25), none⟩])
  (.ret))))))),
  [.t 6]⟩
/-- (*bezel/heap.Heap).Alloc -/
def a12 : AFunc := ⟨.seq (.reg [
      ⟨some 6, .mv (.c (.int .u64 0)), none⟩,
      ⟨some 7, .mv (.c (.int .i64 0)), none⟩])
  (.seq (.prune [0, 1, 2]) (.seq (.block 0 (.seq (.reg [
          ⟨some 10, .mv (.t 1), none⟩,
          ⟨some 11, .bin .lss (.t 10) (.c (.int .i64 1)), none⟩,
          ⟨some 12, .mv (.t 11), none⟩,
          ⟨some 13, .mv (.t 1), some (12, false)⟩,
          ⟨some 14, .bin .gtr (.t 13) (.c (.int .i64 127)), some (12, false)⟩,
          ⟨some 15, .pick (.t 12) (.c (.bool true)) (.t 14), none⟩,
          ⟨some 16, .mv (.t 15), none⟩,
          ⟨some 17, .mv (.t 2), some (16, false)⟩,
          ⟨some 18, .len .slice (.t 17), some (16, false)⟩,
          ⟨some 19, .bin .gtr (.t 18) (.c (.int .i64 65536)), some (16, false)⟩,
          ⟨some 20, .pick (.t 16) (.c (.bool true)) (.t 19), none⟩,
          ⟨some 9, .mv (.t 20), none⟩])
      (.seq (.prune [0, 1, 2, 9]) (.cond (.t 9) (.seq (.reg [
            ⟨some 6, .mv (.c (.int .u64 0)), none⟩,
            ⟨some 7, .mv (.c (.int .i64 1)), none⟩])
        (.ret))
      (.seq (.reg [
            ⟨some 22, .mv (.t 2), none⟩,
            ⟨some 23, .len .slice (.t 22), none⟩,
            ⟨some 24, .bin .add (.t 23) (.c (.int .i64 1)), none⟩,
            ⟨some 25, .mv (.t 0), none⟩,
            ⟨some 26, .call false 21 [(.t 25)], none⟩,
            ⟨some 27, .bin .gtr (.t 24) (.t 26), none⟩,
            ⟨some 21, .mv (.t 27), none⟩])
        (.seq (.prune [0, 1, 2, 21]) (.cond (.t 21) (.seq (.reg [
              ⟨some 6, .mv (.c (.int .u64 0)), none⟩,
              ⟨some 7, .mv (.c (.int .i64 10)), none⟩])
          (.ret))
        (.skip))))))))
  (.seq (.prune [0, 1, 2]) (.seq (.reg [
      ⟨some 28, .mv (.t 0), none⟩,
      ⟨some 29, .nc (.t 28), none⟩,
      ⟨some 30, .fa 3 (.t 29), none⟩,
      ⟨some 31, .lds (.t 30), none⟩,
      ⟨some 8, .mv (.t 31), none⟩])
  (.seq (.prune [0, 1, 2, 8]) (.seq (.reg [
      ⟨some 32, .mv (.t 0), none⟩,
      ⟨some 33, .nc (.t 32), none⟩,
      ⟨some 34, .fa 0 (.t 33), none⟩,
      ⟨some 35, .lds (.t 34), none⟩,
      ⟨some 36, .mv (.t 8), none⟩,
      ⟨some 37, .mv (.t 1), none⟩,
      ⟨some 38, .cvi .u64 (.t 37), none⟩,
      ⟨some 39, .bin .shl (.t 38) (.c (.int .u64 32)), none⟩,
      ⟨some 40, .mv (.t 2), none⟩,
      ⟨some 41, .len .slice (.t 40), none⟩,
      ⟨some 42, .cvi .u64 (.t 41), none⟩,
      ⟨some 43, .bin .or (.t 39) (.t 42), none⟩,
      ⟨some 44, .ia 1 (.t 35) (.t 36), none⟩,
      ⟨none, .sts (.t 44) (.t 43), none⟩])
  (.seq (.prune [0, 2, 8]) (.seq (.reg [
      ⟨some 45, .mv (.t 0), none⟩,
      ⟨some 46, .nc (.t 45), none⟩,
      ⟨some 47, .fa 2 (.t 46), none⟩,
      ⟨some 48, .lds (.t 47), none⟩,
      ⟨some 49, .mv (.t 8), none⟩,
      ⟨some 50, .ia 1 (.t 48) (.t 49), none⟩,
      ⟨none, .sts (.t 50) (.c (.bool true)), none⟩])
  (.seq (.prune [0, 2, 8]) (.seq (.reg [
      ⟨some 51, .mv (.t 0), none⟩,
      ⟨some 52, .nc (.t 51), none⟩,
      ⟨some 53, .fa 0 (.t 52), none⟩,
      ⟨some 54, .lds (.t 53), none⟩,
      ⟨some 55, .mv (.t 8), none⟩,
      ⟨some 56, .bin .add (.t 55) (.c (.int .i64 1)), none⟩,
      ⟨some 57, .slc 1 (.t 54) (some (.t 56)) none none, none⟩,
      ⟨some 58, .mv (.t 2), none⟩,
      ⟨some 59, .copy 1 (.t 57) (.t 58), none⟩])
  (.seq (.prune [0, 2, 8]) (.seq (.reg [
      ⟨some 60, .mv (.t 0), none⟩,
      ⟨some 61, .mv (.t 8), none⟩,
      ⟨some 62, .bin .add (.t 61) (.c (.int .i64 1)), none⟩,
      ⟨some 63, .mv (.t 2), none⟩,
      ⟨some 64, .len .slice (.t 63), none⟩,
      ⟨some 65, .bin .add (.t 62) (.t 64), none⟩,
      ⟨some 66, .nc (.t 60), none⟩,
      ⟨some 67, .fa 3 (.t 66), none⟩,
      ⟨none, .sts (.t 67) (.t 65), none⟩])
  (.seq (.prune [8]) (.seq (.reg [
      ⟨some 68, .mv (.t 8), none⟩,
      ⟨some 69, .call false 28 [(.t 68)], none⟩,
      ⟨some 6, .mv (.t 69), none⟩,
      ⟨some 7, .mv (.c (.int .i64 0)), none⟩])
  (.ret))))))))))))))),
  [.t 6, .t 7]⟩
/-- (*bezel/bezelref08.Heap).Alloc -/
def a13 : AFunc := ⟨.seq (.reg [
      ⟨some 6, .mv (.c (.int .u64 0)), none⟩,
      ⟨some 7, .mv (.c (.int .i64 0)), none⟩])
  (.seq (.prune [0, 1, 2]) (.seq (.seq (.reg [
        ⟨some 9, .mv (.t 1), none⟩,
        ⟨some 10, .bin .lss (.t 9) (.c (.int .i64 1)), none⟩,
        ⟨some 11, .mv (.t 10), none⟩,
        ⟨some 12, .mv (.t 1), some (11, false)⟩,
        ⟨some 13, .bin .gtr (.t 12) (.c (.int .i64 127)), some (11, false)⟩,
        ⟨some 14, .pick (.t 11) (.c (.bool true)) (.t 13), none⟩,
        ⟨some 15, .mv (.t 14), none⟩,
        ⟨some 16, .mv (.t 2), some (15, false)⟩,
        ⟨some 17, .len .slice (.t 16), some (15, false)⟩,
        ⟨some 18, .bin .gtr (.t 17) (.c (.int .i64 65536)), some (15, false)⟩,
        ⟨some 19, .pick (.t 15) (.c (.bool true)) (.t 18), none⟩])
    (.seq (.prune [0, 1, 2, 19]) (.cond (.t 19) (.seq (.reg [
          ⟨some 6, .mv (.c (.int .u64 0)), none⟩,
          ⟨some 7, .mv (.c (.int .i64 1)), none⟩])
      (.ret))
    (.skip))))
  (.seq (.prune [0, 1, 2]) (.seq (.seq (.draw 0 [
        (⟨some 20, .mv (.t 2), none⟩, 0, []),
        (⟨some 21, .len .slice (.t 20), none⟩, 0, [0]),
        (⟨some 22, .bin .add (.t 21) (.c (.int .i64 1)), none⟩, 0, [0, 1]),
        (⟨some 23, .mv (.t 0), none⟩, 0, []),
        (⟨some 24, .nc (.t 23), none⟩, 0, [3]),
        (⟨some 25, .fa 0 (.t 24), none⟩, 0, [3, 4]),
        (⟨some 26, .lds (.t 25), none⟩, 0, [3, 4, 5]),
        (⟨some 27, .mv (.t 0), none⟩, 0, []),
        (⟨some 28, .call false 20 [(.t 27)], none⟩, 0, [7]),
        (⟨some 29, .bin .sub (.t 26) (.t 28), none⟩, 0, [3, 4, 5, 6, 7, 8]),
        (⟨some 30, .bin .gtr (.t 22) (.t 29), none⟩, 0, [0, 1, 2, 3, 4, 5, 6, 7, 8, 9])])
    (.seq (.prune [0, 1, 2, 30]) (.cond (.t 30) (.seq (.reg [
          ⟨some 6, .mv (.c (.int .u64 0)), none⟩,
          ⟨some 7, .mv (.c (.int .i64 10)), none⟩])
      (.ret))
    (.skip))))
  (.seq (.prune [0, 1, 2]) (.seq (.reg [
      ⟨some 31, .mv (.t 0), none⟩,
      ⟨some 32, .call false 20 [(.t 31)], none⟩,
      ⟨some 33, .bin .add (.t 32) (.c (.int .i64 1)), none⟩,
      ⟨some 8, .mv (.t 33), none⟩])
  (.seq (.prune [0, 1, 2, 8]) (.seq (.reg [
      ⟨some 34, .mv (.t 0), none⟩,
      ⟨some 35, .bsl 3 (.agg [.int .i64 0, .int .i64 0, .lst [] true]) 0 [], none⟩,
      ⟨some 36, .mv (.t 0), none⟩,
      ⟨some 37, .nc (.t 36), none⟩,
      ⟨some 38, .fa 1 (.t 37), none⟩,
      ⟨some 39, .lds (.t 38), none⟩,
      ⟨some 40, .app 3 40 false (.t 35) (.t 39), none⟩,
      ⟨some 41, .mv (.t 8), none⟩,
      ⟨some 42, .mv (.t 1), none⟩,
      ⟨some 43, .bsl 1 (.int .u64 0) 0 [], none⟩,
      ⟨some 44, .mv (.t 2), none⟩,
      ⟨some 45, .app 1 8 false (.t 43) (.t 44), none⟩,
      ⟨some 46, .build [.int .i64 0, .int .i64 0, .lst [] true] [(0, 1, (.t 41)), (1, 1, (.t 42)), (2, 1, (.t 45))], none⟩,
      ⟨some 47, .bsl 3 (.agg [.int .i64 0, .int .i64 0, .lst [] true]) 1 [(0, (.t 46))], none⟩,
      ⟨some 48, .app 3 40 false (.t 40) (.t 47), none⟩,
      ⟨some 49, .nc (.t 34), none⟩,
      ⟨some 50, .fa 1 (.t 49), none⟩,
      ⟨none, .sts (.t 50) (.t 48), none⟩])
  (.seq (.prune [8]) (.seq (.reg [
      ⟨some 51, .mv (.t 8), none⟩,
      ⟨some 52, .cvi .u64 (.t 51), none⟩,
      ⟨some 53, .bin .mul (.c (.int .u64 4)) (.t 52), none⟩,
      ⟨some 6, .mv (.t 53), none⟩,
      ⟨some 7, .mv (.c (.int .i64 0)), none⟩])
  (.ret))))))))))),
  [.t 6, .t 7]⟩
/-- (*bezel/heap.Heap).Set -/
def a14 : AFunc := ⟨.seq (.reg [
      ⟨some 8, .mv (.c (.int .i64 0)), none⟩])
  (.seq (.prune [0, 1, 2, 3]) (.seq (.seq (.reg [
        ⟨some 9, .mv (.t 2), none⟩,
        ⟨some 10, .bin .lss (.t 9) (.c (.int .i64 0)), none⟩,
        ⟨some 11, .mv (.t 10), none⟩,
        ⟨some 12, .mv (.t 2), some (11, false)⟩,
        ⟨some 13, .mv (.t 0), some (11, false)⟩,
        ⟨some 14, .mv (.t 1), some (11, false)⟩,
        ⟨some 15, .call false 26 [(.t 13), (.t 14)], some (11, false)⟩,
        ⟨some 16, .bin .geq (.t 12) (.t 15), some (11, false)⟩,
        ⟨some 17, .pick (.t 11) (.c (.bool true)) (.t 16), none⟩])
    (.seq (.prune [0, 1, 2, 3, 17]) (.cond (.t 17) (.seq (.reg [
          ⟨some 8, .mv (.c (.int .i64 1)), none⟩])
      (.ret))
    (.skip))))
  (.seq (.prune [0, 1, 2, 3]) (.seq (.draw 0 [
      (⟨some 18, .mv (.t 0), none⟩, 0, []),
      (⟨some 19, .nc (.t 18), none⟩, 0, [0]),
      (⟨some 20, .fa 0 (.t 19), none⟩, 0, [0, 1]),
      (⟨some 21, .lds (.t 20), none⟩, 0, [0, 1, 2]),
      (⟨some 22, .mv (.t 0), none⟩, 0, []),
      (⟨some 23, .mv (.t 1), none⟩, 0, []),
      (⟨some 24, .call false 40 [(.t 22), (.t 23)], none⟩, 0, [4, 5]),
      (⟨some 25, .bin .add (.t 24) (.c (.int .i64 1)), none⟩, 0, [4, 5, 6]),
      (⟨some 26, .mv (.t 2), none⟩, 0, []),
      (⟨some 27, .bin .add (.t 25) (.t 26), none⟩, 0, [4, 5, 6, 7, 8]),
      (⟨some 28, .mv (.t 3), none⟩, 0, []),
      (⟨some 29, .ia 1 (.t 21) (.t 27), none⟩, 0, [0, 1, 2, 3, 4, 5, 6, 7, 8, 9, 10]),
      (⟨none, .sts (.t 29) (.t 28), none⟩, 0, [0, 1, 2, 3, 4, 5, 6, 7, 8, 9, 10, 11])])
  (.seq (.prune []) (.seq (.reg [
      ⟨some 8, .mv (.c (.int .i64 0)), none⟩])
  (.ret))))))),
  [.t 8]⟩
/-- (*bezel/bezelref08.Heap).Set -/
def a15 : AFunc := ⟨.seq (.reg [
      ⟨some 8, .mv (.c (.int .i64 0)), none⟩])
  (.seq (.prune [0, 1, 2, 3]) (.seq (.reg [
      ⟨some 12, .mv (.t 0), none⟩,
      ⟨some 13, .mv (.t 1), none⟩,
      ⟨some 14, .call false 41 [(.t 12), (.t 13)], none⟩,
      ⟨some 9, .mv (.t 14), none⟩])
  (.seq (.prune [0, 2, 3, 9]) (.seq (.seq (.reg [
        ⟨some 15, .mv (.t 9), none⟩,
        ⟨some 16, .bin .lss (.t 15) (.c (.int .i64 0)), none⟩,
        ⟨some 17, .mv (.t 16), none⟩,
        ⟨some 18, .mv (.t 2), some (17, false)⟩,
        ⟨some 19, .bin .lss (.t 18) (.c (.int .i64 0)), some (17, false)⟩,
        ⟨some 20, .pick (.t 17) (.c (.bool true)) (.t 19), none⟩,
        ⟨some 21, .mv (.t 20), none⟩,
        ⟨some 22, .mv (.t 2), some (21, false)⟩,
        ⟨some 23, .mv (.t 0), some (21, false)⟩,
        ⟨some 24, .nc (.t 23), some (21, false)⟩,
        ⟨some 25, .fa 1 (.t 24), some (21, false)⟩,
        ⟨some 26, .lds (.t 25), some (21, false)⟩,
        ⟨some 27, .mv (.t 9), some (21, false)⟩,
        ⟨some 28, .ia 3 (.t 26) (.t 27), some (21, false)⟩,
        ⟨some 29, .fa 2 (.t 28), some (21, false)⟩,
        ⟨some 30, .lds (.t 29), some (21, false)⟩,
        ⟨some 31, .len .slice (.t 30), some (21, false)⟩,
        ⟨some 32, .bin .geq (.t 22) (.t 31), some (21, false)⟩,
        ⟨some 33, .pick (.t 21) (.c (.bool true)) (.t 32), none⟩])
    (.seq (.prune [0, 2, 3, 9, 33]) (.cond (.t 33) (.seq (.reg [
          ⟨some 8, .mv (.c (.int .i64 1)), none⟩])
      (.ret))
    (.skip))))
  (.seq (.prune [0, 2, 3, 9]) (.seq (.reg [
      ⟨some 34, .bsl 1 (.int .u64 0) 0 [], none⟩,
      ⟨some 35, .mv (.t 0), none⟩,
      ⟨some 36, .nc (.t 35), none⟩,
      ⟨some 37, .fa 1 (.t 36), none⟩,
      ⟨some 38, .lds (.t 37), none⟩,
      ⟨some 39, .mv (.t 9), none⟩,
      ⟨some 40, .ia 3 (.t 38) (.t 39), none⟩,
      ⟨some 41, .fa 2 (.t 40), none⟩,
      ⟨some 42, .lds (.t 41), none⟩,
      ⟨some 43, .app 1 8 false (.t 34) (.t 42), none⟩,
      ⟨some 10, .mv (.t 43), none⟩])
  (.seq (.prune [0, 2, 3, 9, 10]) (.seq (.reg [
      ⟨some 44, .mv (.t 10), none⟩,
      ⟨some 45, .mv (.t 2), none⟩,
      ⟨some 46, .mv (.t 3), none⟩,
      ⟨some 47, .ia 1 (.t 44) (.t 45), none⟩,
      ⟨none, .sts (.t 47) (.t 46), none⟩])
  (.seq (.prune [0, 9, 10]) (.seq (.reg [
      ⟨some 48, .bsl 3 (.agg [.int .i64 0, .int .i64 0, .lst [] true]) 0 [], none⟩,
      ⟨some 49, .mv (.t 0), none⟩,
      ⟨some 50, .nc (.t 49), none⟩,
      ⟨some 51, .fa 1 (.t 50), none⟩,
      ⟨some 52, .lds (.t 51), none⟩,
      ⟨some 53, .app 3 40 false (.t 48) (.t 52), none⟩,
      ⟨some 11, .mv (.t 53), none⟩])
  (.seq (.prune [0, 9, 10, 11]) (.seq (.reg [
      ⟨some 54, .mv (.t 11), none⟩,
      ⟨some 55, .mv (.t 9), none⟩,
      ⟨some 56, .mv (.t 10), none⟩,
      ⟨some 57, .ia 3 (.t 54) (.t 55), none⟩,
      ⟨some 58, .fa 2 (.t 57), none⟩,
      ⟨none, .sts (.t 58) (.t 56), none⟩])
  (.seq (.prune [0, 11]) (.seq (.reg [
      ⟨some 59, .mv (.t 0), none⟩,
      ⟨some 60, .mv (.t 11), none⟩,
      ⟨some 61, .nc (.t 59), none⟩,
      ⟨some 62, .fa 1 (.t 61), none⟩,
      ⟨none, .sts (.t 62) (.t 60), none⟩])
  (.seq (.prune []) (.seq (.reg [
      ⟨some 8, .mv (.c (.int .i64 0)), none⟩])
  (.ret))))))))))))))))),
  [.t 8]⟩
/-- (*bezel/heap.Heap).Collect -/
def a16 : AFunc := ⟨.seq (.reg [
      ⟨some 2, .box (.t 0), none⟩,
      ⟨some 4, .mv (.c (.lst [] true)), none⟩])
  (.seq (.prune [1, 2]) (.seq (.reg [
      ⟨some 19, .lds (.t 2), none⟩,
      ⟨some 20, .nc (.t 19), none⟩,
      ⟨some 21, .fa 1 (.t 20), none⟩,
      ⟨some 22, .lds (.t 21), none⟩,
      ⟨some 5, .alloc [.lst [] true], none⟩,
      ⟨none, .sts (.t 5) (.t 22), none⟩])
  (.seq (.prune [1, 2, 5]) (.seq (.reg [
      ⟨some 6, .alloc [.int .i64 0], none⟩,
      ⟨none, .sts (.t 6) (.c (.int .i64 1)), none⟩])
  (.seq (.prune [1, 2, 5, 6]) (.seq (.reg [
      ⟨some 23, .mkm, none⟩,
      ⟨some 7, .alloc [.nilm], none⟩,
      ⟨none, .sts (.t 7) (.t 23), none⟩])
  (.seq (.prune [1, 2, 5, 6, 7]) (.seq (.reg [
      ⟨some 24, .mkf 42 [(.t 2), (.t 7), (.t 5), (.t 6)], none⟩,
      ⟨some 8, .mv (.t 24), none⟩])
  (.seq (.prune [1, 2, 5, 6, 8]) (.seq (.reg [
      ⟨some 25, .mv (.t 1), none⟩,
      ⟨some 26, .len .slice (.t 25), none⟩,
      ⟨some 27, .mks 1 8 none [.int .u64 0] (.t 26) (.t 26), none⟩,
      ⟨some 9, .mv (.t 27), none⟩])
  (.seq (.prune [1, 2, 5, 6, 8, 9]) (.seq (.seq (.reg [
        ⟨some 28, .mv (.t 1), none⟩,
        ⟨some 29, .len .slice (.t 28), none⟩,
        ⟨some 30, .mv (.c (.int .i64 0)), none⟩])
    (.seq (.prune [2, 5, 6, 8, 9, 28, 29, 30]) (.block 0 (.loop [2, 5, 6, 8, 9, 28, 29, 30] (.seq (.reg [
            ⟨some 31, .bin .lss (.t 30) (.t 29), none⟩])
        (.seq (.prune [2, 5, 6, 8, 9, 28, 29, 30, 31]) (.seq (.cond (.t 31) (.skip)
          (.exit 0))
        (.seq (.prune [2, 5, 6, 8, 9, 28, 29, 30]) (.seq (.block 1 (.seq (.reg [
                ⟨some 32, .mv (.t 30), none⟩,
                ⟨some 33, .ia 1 (.t 28) (.t 30), none⟩,
                ⟨some 34, .lds (.t 33), none⟩,
                ⟨some 10, .mv (.t 32), none⟩,
                ⟨some 11, .mv (.t 34), none⟩])
            (.seq (.prune [2, 5, 6, 8, 9, 10, 11, 28, 29, 30]) (.reg [
              ⟨some 35, .mv (.t 9), none⟩,
              ⟨some 36, .mv (.t 10), none⟩,
              ⟨some 37, .mv (.t 8), none⟩,
              ⟨some 38, .mv (.t 11), none⟩,
              ⟨some 39, .callv false (.t 37) [(.t 38)], none⟩,
              ⟨some 40, .ia 1 (.t 35) (.t 36), none⟩,
              ⟨none, .sts (.t 40) (.t 39), none⟩]))))
        (.seq (.prune [2, 5, 6, 8, 9, 28, 29, 30]) (.reg [
          ⟨some 41, .bin .add (.t 30) (.c (.int .i64 1)), none⟩,
          ⟨some 30, .mv (.t 41), none⟩])))))))))))
  (.seq (.prune [2, 5, 6, 8, 9]) (.seq (.reg [
      ⟨some 12, .mv (.c (.lst [] true)), none⟩])
  (.seq (.prune [2, 5, 6, 8, 9, 12]) (.seq (.seq (.reg [
        ⟨some 13, .mv (.c (.int .i64 1)), none⟩])
    (.seq (.prune [2, 5, 6, 8, 9, 12, 13]) (.block 2 (.seq (.own 12 none)
      (.loop [2, 5, 6, 8, 9, 12, 13] (.seq (.seq (.reg [
              ⟨some 42, .mv (.t 13), none⟩,
              ⟨some 43, .lds (.t 6), none⟩,
              ⟨some 44, .bin .lss (.t 42) (.t 43), none⟩])
          (.seq (.prune [2, 5, 6, 8, 9, 12, 13, 44]) (.cond (.t 44) (.skip)
          (.exit 2))))
        (.seq (.prune [2, 5, 6, 8, 9, 12, 13]) (.block 3 (.seq (.draw 0 [
              (⟨some 45, .lds (.t 5), none⟩, 0, []),
              (⟨some 46, .mv (.t 13), none⟩, 0, []),
              (⟨some 47, .ia 1 (.t 45) (.t 46), none⟩, 0, [0, 1]),
              (⟨some 48, .lds (.t 47), none⟩, 0, [0, 1, 2]),
              (⟨some 49, .bin .shr (.t 48) (.c (.int .u64 32)), none⟩, 0, [0, 1, 2, 3]),
              (⟨some 50, .lds (.t 5), none⟩, 0, []),
              (⟨some 51, .mv (.t 13), none⟩, 0, []),
              (⟨some 52, .ia 1 (.t 50) (.t 51), none⟩, 0, [5, 6]),
              (⟨some 53, .lds (.t 52), none⟩, 0, [5, 6, 7]),
              (⟨some 54, .bin .and (.t 53) (.c (.int .u64 4294967295)), none⟩, 0, [5, 6, 7, 8]),
              (⟨some 55, .cvi .i64 (.t 54), none⟩, 0, [5, 6, 7, 8, 9]),
              (⟨some 14, .mv (.t 49), none⟩, 0, [0, 1, 2, 3, 4]),
              (⟨some 15, .mv (.t 55), none⟩, 0, [0, 1, 2, 3, 4, 5, 6, 7, 8, 9, 10, 11])])
          (.seq (.prune [2, 5, 6, 8, 9, 12, 13, 14, 15]) (.seq (.reg [
              ⟨some 56, .mv (.t 12), none⟩,
              ⟨some 57, .mv (.t 13), none⟩,
              ⟨some 58, .bsl 1 (.int .i64 0) 1 [(0, (.t 57))], none⟩,
              ⟨some 59, .app 1 8 false (.t 56) (.t 58), none⟩,
              ⟨some 12, .mv (.t 59), none⟩])
          (.seq (.prune [2, 5, 6, 8, 9, 12, 13, 14, 15]) (.seq (.seq (.reg [
                ⟨some 60, .mv (.t 13), none⟩,
                ⟨some 61, .bin .add (.t 60) (.c (.int .i64 1)), none⟩,
                ⟨some 16, .mv (.t 61), none⟩])
            (.seq (.prune [2, 5, 6, 8, 9, 12, 13, 14, 15, 16]) (.block 4 (.loop [2, 5, 6, 8, 9, 12, 13, 14, 15, 16] (.seq (.seq (.reg [
                      ⟨some 62, .mv (.t 16), none⟩,
                      ⟨some 63, .mv (.t 13), none⟩,
                      ⟨some 64, .mv (.t 15), none⟩,
                      ⟨some 65, .bin .add (.t 63) (.t 64), none⟩,
                      ⟨some 66, .bin .leq (.t 62) (.t 65), none⟩,
                      ⟨some 67, .mv (.t 66), none⟩,
                      ⟨some 68, .mv (.t 14), some (67, true)⟩,
                      ⟨some 69, .bin .lss (.t 68) (.c (.int .u64 64)), some (67, true)⟩,
                      ⟨some 70, .pick (.t 67) (.t 69) (.c (.bool false)), none⟩])
                  (.seq (.prune [2, 5, 6, 8, 9, 12, 13, 14, 15, 16, 70]) (.cond (.t 70) (.skip)
                  (.exit 4))))
                (.seq (.prune [2, 5, 6, 8, 9, 12, 13, 14, 15, 16]) (.seq (.block 5 (.draw 0 [
                      (⟨some 73, .lds (.t 5), none⟩, 0, []),
                      (⟨some 74, .mv (.t 16), none⟩, 0, []),
                      (⟨some 75, .mv (.t 8), none⟩, 0, []),
                      (⟨some 76, .lds (.t 5), none⟩, 0, []),
                      (⟨some 77, .mv (.t 16), none⟩, 0, []),
                      (⟨some 78, .ia 1 (.t 76) (.t 77), none⟩, 0, [3, 4]),
                      (⟨some 79, .lds (.t 78), none⟩, 0, [3, 4, 5]),
                      (⟨some 80, .callv false (.t 75) [(.t 79)], none⟩, 0, [2, 3, 4, 5, 6]),
                      (⟨some 81, .ia 1 (.t 73) (.t 74), none⟩, 0, [0, 1, 2, 3, 4, 5, 6, 7]),
                      (⟨none, .sts (.t 81) (.t 80), none⟩, 0, [0, 1, 2, 3, 4, 5, 6, 7, 8])]))
                (.seq (.prune [2, 5, 6, 8, 9, 12, 13, 14, 15, 16]) (.reg [
                  ⟨some 71, .mv (.t 16), none⟩,
                  ⟨some 72, .bin .add (.t 71) (.c (.int .i64 1)), none⟩,
                  ⟨some 16, .mv (.t 72), none⟩])))))))))
          (.seq (.prune [2, 5, 6, 8, 9, 12, 13, 15]) (.reg [
            ⟨some 82, .mv (.t 13), none⟩,
            ⟨some 83, .mv (.t 15), none⟩,
            ⟨some 84, .bin .add (.t 83) (.c (.int .i64 1)), none⟩,
            ⟨some 85, .bin .add (.t 82) (.t 84), none⟩,
            ⟨some 13, .mv (.t 85), none⟩])))))))))))))))
  (.seq (.prune [2, 5, 6, 9, 12]) (.seq (.reg [
      ⟨some 86, .lds (.t 2), none⟩,
      ⟨some 87, .nc (.t 86), none⟩,
      ⟨some 88, .fa 0 (.t 87), none⟩,
      ⟨some 89, .lds (.t 88), none⟩,
      ⟨none, .clear 1 [.int .u64 0] (.t 89), none⟩])
  (.seq (.prune [2, 5, 6, 9, 12]) (.seq (.reg [
      ⟨some 90, .lds (.t 2), none⟩,
      ⟨some 91, .nc (.t 90), none⟩,
      ⟨some 92, .fa 2 (.t 91), none⟩,
      ⟨some 93, .lds (.t 92), none⟩,
      ⟨none, .clear 1 [.bool false] (.t 93), none⟩])
  (.seq (.prune [2, 5, 6, 9, 12]) (.seq (.seq (.reg [
        ⟨some 94, .mv (.t 12), none⟩,
        ⟨some 95, .len .slice (.t 94), none⟩,
        ⟨some 96, .mv (.c (.int .i64 0)), none⟩])
    (.seq (.prune [2, 5, 6, 9, 94, 95, 96]) (.block 6 (.loop [2, 5, 6, 9, 94, 95, 96] (.seq (.reg [
            ⟨some 97, .bin .lss (.t 96) (.t 95), none⟩])
        (.seq (.prune [2, 5, 6, 9, 94, 95, 96, 97]) (.seq (.cond (.t 97) (.skip)
          (.exit 6))
        (.seq (.prune [2, 5, 6, 9, 94, 95, 96]) (.seq (.block 7 (.seq (.reg [
                ⟨some 98, .ia 1 (.t 94) (.t 96), none⟩,
                ⟨some 99, .lds (.t 98), none⟩,
                ⟨some 18, .mv (.t 99), none⟩])
            (.seq (.prune [2, 5, 6, 9, 18, 94, 95, 96]) (.reg [
              ⟨some 100, .lds (.t 2), none⟩,
              ⟨some 101, .nc (.t 100), none⟩,
              ⟨some 102, .fa 2 (.t 101), none⟩,
              ⟨some 103, .lds (.t 102), none⟩,
              ⟨some 104, .mv (.t 18), none⟩,
              ⟨some 105, .ia 1 (.t 103) (.t 104), none⟩,
              ⟨none, .sts (.t 105) (.c (.bool true)), none⟩]))))
        (.seq (.prune [2, 5, 6, 9, 94, 95, 96]) (.reg [
          ⟨some 106, .bin .add (.t 96) (.c (.int .i64 1)), none⟩,
          ⟨some 96, .mv (.t 106), none⟩])))))))))))
  (.seq (.prune [2, 5, 6, 9]) (.seq (.draw 0 [
      (⟨some 107, .lds (.t 2), none⟩, 0, []),
      (⟨some 108, .lds (.t 2), none⟩, 0, []),
      (⟨some 109, .lds (.t 2), none⟩, 0, []),
      (⟨some 110, .lds (.t 5), none⟩, 0, []),
      (⟨some 111, .lds (.t 2), none⟩, 0, []),
      (⟨some 112, .nc (.t 111), none⟩, 0, [4]),
      (⟨some 113, .fa 0 (.t 112), none⟩, 0, [4, 5]),
      (⟨some 114, .lds (.t 113), none⟩, 0, [4, 5, 6]),
      (⟨some 115, .lds (.t 6), none⟩, 0, []),
      (⟨some 116, .nc (.t 107), none⟩, 0, [0, 3, 4, 5, 6, 7]),
      (⟨some 117, .fa 0 (.t 116), none⟩, 0, [0, 3, 4, 5, 6, 7, 9]),
      (⟨none, .sts (.t 117) (.t 110), none⟩, 0, [0, 3, 4, 5, 6, 7, 9, 10]),
      (⟨some 118, .nc (.t 108), none⟩, 0, [0, 1, 3, 4, 5, 6, 7, 9, 10, 11]),
      (⟨some 119, .fa 1 (.t 118), none⟩, 0, [0, 1, 3, 4, 5, 6, 7, 9, 10, 11, 12]),
      (⟨none, .sts (.t 119) (.t 114), none⟩, 0, [0, 1, 3, 4, 5, 6, 7, 9, 10, 11, 12, 13]),
      (⟨some 120, .nc (.t 109), none⟩, 0, [0, 1, 2, 3, 4, 5, 6, 7, 8, 9, 10, 11, 12, 13, 14]),
      (⟨some 121, .fa 3 (.t 120), none⟩, 0, [0, 1, 2, 3, 4, 5, 6, 7, 8, 9, 10, 11, 12, 13, 14, 15]),
      (⟨none, .sts (.t 121) (.t 115), none⟩, 0, [0, 1, 2, 3, 4, 5, 6, 7, 8, 9, 10, 11, 12, 13, 14, 15, 16])])
  (.seq (.prune [9]) (.seq (.reg [
      ⟨some 122, .mv (.t 9), none⟩,
      ⟨some 4, .mv (.t 122), none⟩])
  (.ret))))))))))))))))))))))))))),
  [.t 4]⟩
/-- (*bezel/bezelref08.Heap).Collect -/
def a17 : AFunc := ⟨.seq (.reg [
      ⟨some 4, .mv (.c (.lst [] true)), none⟩])
  (.seq (.prune [0, 1]) (.seq (.reg [
      ⟨some 5, .mv (.c (.lst [] true)), none⟩])
  (.seq (.prune [0, 1, 5]) (.seq (.seq (.reg [
        ⟨some 6, .mv (.c (.int .i64 0)), none⟩])
    (.seq (.prune [0, 1, 5, 6]) (.block 0 (.seq (.own 5 none)
      (.loop [0, 1, 5, 6] (.seq (.seq (.reg [
              ⟨some 24, .mv (.t 6), none⟩,
              ⟨some 25, .mv (.t 1), none⟩,
              ⟨some 26, .len .slice (.t 25), none⟩,
              ⟨some 27, .bin .lss (.t 24) (.t 26), none⟩])
          (.seq (.prune [0, 1, 5, 6, 27]) (.cond (.t 27) (.skip)
          (.exit 0))))
        (.seq (.prune [0, 1, 5, 6]) (.seq (.block 1 (.seq (.reg [
                ⟨some 30, .mv (.t 0), none⟩,
                ⟨some 31, .mv (.t 1), none⟩,
                ⟨some 32, .mv (.t 6), none⟩,
                ⟨some 33, .ia 1 (.t 31) (.t 32), none⟩,
                ⟨some 34, .lds (.t 33), none⟩,
                ⟨some 35, .call false 41 [(.t 30), (.t 34)], none⟩,
                ⟨some 7, .mv (.t 35), none⟩])
            (.seq (.prune [0, 1, 5, 6, 7]) (.seq (.reg [
                ⟨some 36, .mv (.t 7), none⟩,
                ⟨some 37, .bin .geq (.t 36) (.c (.int .i64 0)), none⟩,
                ⟨some 38, .mv (.t 37), none⟩,
                ⟨some 39, .mv (.t 5), some (38, true)⟩,
                ⟨some 40, .mv (.t 7), some (38, true)⟩,
                ⟨some 41, .call false 43 [(.t 39), (.t 40)], some (38, true)⟩,
                ⟨some 42, .bin .lss (.t 41) (.c (.int .i64 0)), some (38, true)⟩,
                ⟨some 43, .pick (.t 38) (.t 42) (.c (.bool false)), none⟩])
            (.seq (.prune [0, 1, 5, 6, 7, 43]) (.cond (.t 43) (.reg [
                ⟨some 44, .mv (.t 5), none⟩,
                ⟨some 45, .mv (.t 7), none⟩,
                ⟨some 46, .bsl 1 (.int .i64 0) 1 [(0, (.t 45))], none⟩,
                ⟨some 47, .app 1 8 false (.t 44) (.t 46), none⟩,
                ⟨some 5, .mv (.t 47), none⟩])
            (.skip)))))))
        (.seq (.prune [0, 1, 5, 6]) (.reg [
          ⟨some 28, .mv (.t 6), none⟩,
          ⟨some 29, .bin .add (.t 28) (.c (.int .i64 1)), none⟩,
          ⟨some 6, .mv (.t 29), none⟩]))))))))))
  (.seq (.prune [0, 1, 5]) (.seq (.seq (.reg [
        ⟨some 8, .mv (.c (.int .i64 0)), none⟩])
    (.seq (.prune [0, 1, 5, 8]) (.block 2 (.seq (.own 5 none)
      (.loop [0, 1, 5, 8] (.seq (.seq (.reg [
              ⟨some 48, .mv (.t 8), none⟩,
              ⟨some 49, .mv (.t 5), none⟩,
              ⟨some 50, .len .slice (.t 49), none⟩,
              ⟨some 51, .bin .lss (.t 48) (.t 50), none⟩])
          (.seq (.prune [0, 1, 5, 8, 51]) (.cond (.t 51) (.skip)
          (.exit 2))))
        (.seq (.prune [0, 1, 5, 8]) (.seq (.block 3 (.seq (.draw 1 [
                (⟨some 54, .mv (.t 0), none⟩, 0, []),
                (⟨some 55, .nc (.t 54), none⟩, 0, [0]),
                (⟨some 56, .fa 1 (.t 55), none⟩, 0, [0, 1]),
                (⟨some 57, .lds (.t 56), none⟩, 0, [0, 1, 2]),
                (⟨some 58, .mv (.t 5), none⟩, 0, []),
                (⟨some 59, .mv (.t 8), none⟩, 0, []),
                (⟨some 60, .ia 1 (.t 58) (.t 59), none⟩, 0, [4, 5]),
                (⟨some 61, .lds (.t 60), none⟩, 0, [4, 5, 6]),
                (⟨some 62, .ia 3 (.t 57) (.t 61), none⟩, 0, [0, 1, 2, 3, 4, 5, 6, 7]),
                (⟨some 63, .lda 3 (.t 62), none⟩, 0, [0, 1, 2, 3, 4, 5, 6, 7, 8]),
                (⟨some 9, .alloc [.int .i64 0, .int .i64 0, .lst [] true], none⟩, 0, []),
                (⟨none, .sta 3 (.t 9) (.t 63), none⟩, 0, [0, 1, 2, 3, 4, 5, 6, 7, 8, 9, 10])])
            (.seq (.prune [0, 1, 5, 8, 9]) (.seq (.reg [
                ⟨some 10, .mv (.c (.int .i64 0)), none⟩])
            (.seq (.prune [0, 1, 5, 8, 9, 10]) (.block 4 (.seq (.own 5 none)
              (.loop [0, 1, 5, 8, 9, 10] (.seq (.seq (.reg [
                      ⟨some 64, .mv (.t 10), none⟩,
                      ⟨some 65, .fa 2 (.t 9), none⟩,
                      ⟨some 66, .lds (.t 65), none⟩,
                      ⟨some 67, .len .slice (.t 66), none⟩,
                      ⟨some 68, .bin .lss (.t 64) (.t 67), none⟩,
                      ⟨some 69, .mv (.t 68), none⟩,
                      ⟨some 70, .fa 1 (.t 9), some (69, true)⟩,
                      ⟨some 71, .lds (.t 70), some (69, true)⟩,
                      ⟨some 72, .bin .lss (.t 71) (.c (.int .i64 64)), some (69, true)⟩,
                      ⟨some 73, .pick (.t 69) (.t 72) (.c (.bool false)), none⟩])
                  (.seq (.prune [0, 1, 5, 8, 9, 10, 73]) (.cond (.t 73) (.skip)
                  (.exit 4))))
                (.seq (.prune [0, 1, 5, 8, 9, 10]) (.seq (.block 5 (.seq (.reg [
                        ⟨some 76, .mv (.t 0), none⟩,
                        ⟨some 77, .fa 2 (.t 9), none⟩,
                        ⟨some 78, .lds (.t 77), none⟩,
                        ⟨some 79, .mv (.t 10), none⟩,
                        ⟨some 80, .ia 1 (.t 78) (.t 79), none⟩,
                        ⟨some 81, .lds (.t 80), none⟩,
                        ⟨some 82, .call false 41 [(.t 76), (.t 81)], none⟩,
                        ⟨some 11, .mv (.t 82), none⟩])
                    (.seq (.prune [0, 1, 5, 8, 9, 10, 11]) (.seq (.reg [
                        ⟨some 83, .mv (.t 11), none⟩,
                        ⟨some 84, .bin .geq (.t 83) (.c (.int .i64 0)), none⟩,
                        ⟨some 85, .mv (.t 84), none⟩,
                        ⟨some 86, .mv (.t 5), some (85, true)⟩,
                        ⟨some 87, .mv (.t 11), some (85, true)⟩,
                        ⟨some 88, .call false 43 [(.t 86), (.t 87)], some (85, true)⟩,
                        ⟨some 89, .bin .lss (.t 88) (.c (.int .i64 0)), some (85, true)⟩,
                        ⟨some 90, .pick (.t 85) (.t 89) (.c (.bool false)), none⟩])
                    (.seq (.prune [0, 1, 5, 8, 9, 10, 11, 90]) (.cond (.t 90) (.reg [
                        ⟨some 91, .mv (.t 5), none⟩,
                        ⟨some 92, .mv (.t 11), none⟩,
                        ⟨some 93, .bsl 1 (.int .i64 0) 1 [(0, (.t 92))], none⟩,
                        ⟨some 94, .app 1 8 false (.t 91) (.t 93), none⟩,
                        ⟨some 5, .mv (.t 94), none⟩])
                    (.skip)))))))
                (.seq (.prune [0, 1, 5, 8, 9, 10]) (.reg [
                  ⟨some 74, .mv (.t 10), none⟩,
                  ⟨some 75, .bin .add (.t 74) (.c (.int .i64 1)), none⟩,
                  ⟨some 10, .mv (.t 75), none⟩])))))))))))))
        (.seq (.prune [0, 1, 5, 8]) (.reg [
          ⟨some 52, .mv (.t 8), none⟩,
          ⟨some 53, .bin .add (.t 52) (.c (.int .i64 1)), none⟩,
          ⟨some 8, .mv (.t 53), none⟩]))))))))))
  (.seq (.prune [0, 1, 5]) (.seq (.reg [
      ⟨some 12, .mv (.c (.lst [] true)), none⟩])
  (.seq (.prune [0, 1, 5, 12]) (.seq (.reg [
      ⟨some 13, .mv (.c (.int .i64 1)), none⟩])
  (.seq (.prune [0, 1, 5, 12, 13]) (.seq (.seq (.reg [
        ⟨some 14, .mv (.c (.int .i64 0)), none⟩])
    (.seq (.prune [0, 1, 5, 12, 13, 14]) (.block 6 (.seq (.own 12 none)
      (.loop [0, 1, 5, 12, 13, 14] (.seq (.seq (.reg [
              ⟨some 95, .mv (.t 14), none⟩,
              ⟨some 96, .mv (.t 5), none⟩,
              ⟨some 97, .len .slice (.t 96), none⟩,
              ⟨some 98, .bin .lss (.t 95) (.t 97), none⟩])
          (.seq (.prune [0, 1, 5, 12, 13, 14, 98]) (.cond (.t 98) (.skip)
          (.exit 6))))
        (.seq (.prune [0, 1, 5, 12, 13, 14]) (.seq (.block 7 (.seq (.reg [
                ⟨some 101, .mv (.t 12), none⟩,
                ⟨some 102, .mv (.t 13), none⟩,
                ⟨some 103, .bsl 1 (.int .i64 0) 1 [(0, (.t 102))], none⟩,
                ⟨some 104, .app 1 8 false (.t 101) (.t 103), none⟩,
                ⟨some 12, .mv (.t 104), none⟩])
            (.seq (.prune [0, 1, 5, 12, 13, 14]) (.draw 0 [
              (⟨some 105, .mv (.t 13), none⟩, 0, []),
              (⟨some 106, .mv (.t 0), none⟩, 0, []),
              (⟨some 107, .nc (.t 106), none⟩, 0, [1]),
              (⟨some 108, .fa 1 (.t 107), none⟩, 0, [1, 2]),
              (⟨some 109, .lds (.t 108), none⟩, 0, [1, 2, 3]),
              (⟨some 110, .mv (.t 5), none⟩, 0, []),
              (⟨some 111, .mv (.t 14), none⟩, 0, []),
              (⟨some 112, .ia 1 (.t 110) (.t 111), none⟩, 0, [5, 6]),
              (⟨some 113, .lds (.t 112), none⟩, 0, [5, 6, 7]),
              (⟨some 114, .ia 3 (.t 109) (.t 113), none⟩, 0, [1, 2, 3, 4, 5, 6, 7, 8]),
              (⟨some 115, .fa 2 (.t 114), none⟩, 0, [1, 2, 3, 4, 5, 6, 7, 8, 9]),
              (⟨some 116, .lds (.t 115), none⟩, 0, [1, 2, 3, 4, 5, 6, 7, 8, 9, 10]),
              (⟨some 117, .len .slice (.t 116), none⟩, 0, [1, 2, 3, 4, 5, 6, 7, 8, 9, 10, 11]),
              (⟨some 118, .bin .add (.t 105) (.t 117), none⟩, 0, [0, 1, 2, 3, 4, 5, 6, 7, 8, 9, 10, 11, 12]),
              (⟨some 119, .bin .add (.t 118) (.c (.int .i64 1)), none⟩, 0, [0, 1, 2, 3, 4, 5, 6, 7, 8, 9, 10, 11, 12, 13]),
              (⟨some 13, .mv (.t 119), none⟩, 0, [0, 1, 2, 3, 4, 5, 6, 7, 8, 9, 10, 11, 12, 13, 14])]))))
        (.seq (.prune [0, 1, 5, 12, 13, 14]) (.reg [
          ⟨some 99, .mv (.t 14), none⟩,
          ⟨some 100, .bin .add (.t 99) (.c (.int .i64 1)), none⟩,
          ⟨some 14, .mv (.t 100), none⟩]))))))))))
  (.seq (.prune [0, 1, 5, 12]) (.seq (.reg [
      ⟨some 15, .mv (.c (.lst [] true)), none⟩])
  (.seq (.prune [0, 1, 5, 12, 15]) (.seq (.seq (.reg [
        ⟨some 16, .mv (.c (.int .i64 0)), none⟩])
    (.seq (.prune [0, 1, 5, 12, 15, 16]) (.block 8 (.seq (.own 15 none)
      (.loop [0, 1, 5, 12, 15, 16] (.seq (.seq (.reg [
              ⟨some 120, .mv (.t 16), none⟩,
              ⟨some 121, .mv (.t 5), none⟩,
              ⟨some 122, .len .slice (.t 121), none⟩,
              ⟨some 123, .bin .lss (.t 120) (.t 122), none⟩])
          (.seq (.prune [0, 1, 5, 12, 15, 16, 123]) (.cond (.t 123) (.skip)
          (.exit 8))))
        (.seq (.prune [0, 1, 5, 12, 15, 16]) (.seq (.block 9 (.seq (.draw 1 [
                (⟨some 126, .mv (.t 0), none⟩, 0, []),
                (⟨some 127, .nc (.t 126), none⟩, 0, [0]),
                (⟨some 128, .fa 1 (.t 127), none⟩, 0, [0, 1]),
                (⟨some 129, .lds (.t 128), none⟩, 0, [0, 1, 2]),
                (⟨some 130, .mv (.t 5), none⟩, 0, []),
                (⟨some 131, .mv (.t 16), none⟩, 0, []),
                (⟨some 132, .ia 1 (.t 130) (.t 131), none⟩, 0, [4, 5]),
                (⟨some 133, .lds (.t 132), none⟩, 0, [4, 5, 6]),
                (⟨some 134, .ia 3 (.t 129) (.t 133), none⟩, 0, [0, 1, 2, 3, 4, 5, 6, 7]),
                (⟨some 135, .lda 3 (.t 134), none⟩, 0, [0, 1, 2, 3, 4, 5, 6, 7, 8]),
                (⟨some 17, .alloc [.int .i64 0, .int .i64 0, .lst [] true], none⟩, 0, []),
                (⟨none, .sta 3 (.t 17) (.t 135), none⟩, 0, [0, 1, 2, 3, 4, 5, 6, 7, 8, 9, 10])])
            (.seq (.prune [0, 1, 5, 12, 15, 16, 17]) (.seq (.reg [
                ⟨some 136, .bsl 1 (.int .u64 0) 0 [], none⟩,
                ⟨some 137, .fa 2 (.t 17), none⟩,
                ⟨some 138, .lds (.t 137), none⟩,
                ⟨some 139, .app 1 8 false (.t 136) (.t 138), none⟩,
                ⟨some 18, .mv (.t 139), none⟩])
            (.seq (.prune [0, 1, 5, 12, 15, 16, 17, 18]) (.seq (.seq (.reg [
                  ⟨some 19, .mv (.c (.int .i64 0)), none⟩])
              (.seq (.prune [0, 1, 5, 12, 15, 16, 17, 18, 19]) (.block 10 (.loop [0, 1, 5, 12, 15, 16, 17, 18, 19] (.seq (.seq (.reg [
                        ⟨some 140, .mv (.t 19), none⟩,
                        ⟨some 141, .mv (.t 18), none⟩,
                        ⟨some 142, .len .slice (.t 141), none⟩,
                        ⟨some 143, .bin .lss (.t 140) (.t 142), none⟩,
                        ⟨some 144, .mv (.t 143), none⟩,
                        ⟨some 145, .fa 1 (.t 17), some (144, true)⟩,
                        ⟨some 146, .lds (.t 145), some (144, true)⟩,
                        ⟨some 147, .bin .lss (.t 146) (.c (.int .i64 64)), some (144, true)⟩,
                        ⟨some 148, .pick (.t 144) (.t 147) (.c (.bool false)), none⟩])
                    (.seq (.prune [0, 1, 5, 12, 15, 16, 17, 18, 19, 148]) (.cond (.t 148) (.skip)
                    (.exit 10))))
                  (.seq (.prune [0, 1, 5, 12, 15, 16, 17, 18, 19]) (.seq (.block 11 (.seq (.reg [
                          ⟨some 151, .mv (.t 0), none⟩,
                          ⟨some 152, .mv (.t 18), none⟩,
                          ⟨some 153, .mv (.t 19), none⟩,
                          ⟨some 154, .ia 1 (.t 152) (.t 153), none⟩,
                          ⟨some 155, .lds (.t 154), none⟩,
                          ⟨some 156, .call false 41 [(.t 151), (.t 155)], none⟩,
                          ⟨some 20, .mv (.t 156), none⟩])
                      (.seq (.prune [0, 1, 5, 12, 15, 16, 17, 18, 19, 20]) (.seq (.reg [
                          ⟨some 157, .mv (.t 20), none⟩,
                          ⟨some 158, .bin .geq (.t 157) (.c (.int .i64 0)), none⟩])
                      (.seq (.prune [0, 1, 5, 12, 15, 16, 17, 18, 19, 20, 158]) (.cond (.t 158) (.reg [
                          ⟨some 159, .mv (.t 18), none⟩,
                          ⟨some 160, .mv (.t 19), none⟩,
                          ⟨some 161, .mv (.t 12), none⟩,
                          ⟨some 162, .mv (.t 5), none⟩,
                          ⟨some 163, .mv (.t 20), none⟩,
                          ⟨some 164, .call false 43 [(.t 162), (.t 163)], none⟩,
                          ⟨some 165, .ia 1 (.t 161) (.t 164), none⟩,
                          ⟨some 166, .lds (.t 165), none⟩,
                          ⟨some 167, .cvi .u64 (.t 166), none⟩,
                          ⟨some 168, .bin .mul (.c (.int .u64 4)) (.t 167), none⟩,
                          ⟨some 169, .ia 1 (.t 159) (.t 160), none⟩,
                          ⟨none, .sts (.t 169) (.t 168), none⟩])
                      (.skip)))))))
                  (.seq (.prune [0, 1, 5, 12, 15, 16, 17, 18, 19]) (.reg [
                    ⟨some 149, .mv (.t 19), none⟩,
                    ⟨some 150, .bin .add (.t 149) (.c (.int .i64 1)), none⟩,
                    ⟨some 19, .mv (.t 150), none⟩])))))))))
            (.seq (.prune [0, 1, 5, 12, 15, 16, 17, 18]) (.draw 1 [
              (⟨some 170, .mv (.t 15), none⟩, 0, []),
              (⟨some 171, .mv (.t 12), none⟩, 0, []),
              (⟨some 172, .mv (.t 16), none⟩, 0, []),
              (⟨some 173, .ia 1 (.t 171) (.t 172), none⟩, 0, [1, 2]),
              (⟨some 174, .lds (.t 173), none⟩, 0, [1, 2, 3]),
              (⟨some 175, .fa 1 (.t 17), none⟩, 0, []),
              (⟨some 176, .lds (.t 175), none⟩, 0, [5]),
              (⟨some 177, .mv (.t 18), none⟩, 0, []),
              (⟨some 178, .build [.int .i64 0, .int .i64 0, .lst [] true] [(0, 1, (.t 174)), (1, 1, (.t 176)), (2, 1, (.t 177))], none⟩, 0, [1, 2, 3, 4, 5, 6, 7]),
              (⟨some 179, .bsl 3 (.agg [.int .i64 0, .int .i64 0, .lst [] true]) 1 [(0, (.t 178))], none⟩, 0, [1, 2, 3, 4, 5, 6, 7, 8]),
              (⟨some 180, .app 3 40 false (.t 170) (.t 179), none⟩, 0, [0, 1, 2, 3, 4, 5, 6, 7, 8, 9]),
              (⟨some 15, .mv (.t 180), none⟩, 0, [0, 1, 2, 3, 4, 5, 6, 7, 8, 9, 10])]))))))))
        (.seq (.prune [0, 1, 5, 12, 15, 16]) (.reg [
          ⟨some 124, .mv (.t 16), none⟩,
          ⟨some 125, .bin .add (.t 124) (.c (.int .i64 1)), none⟩,
          ⟨some 16, .mv (.t 125), none⟩]))))))))))
  (.seq (.prune [0, 1, 5, 12, 15]) (.seq (.reg [
      ⟨some 181, .bsl 1 (.int .u64 0) 0 [], none⟩,
      ⟨some 182, .mv (.t 1), none⟩,
      ⟨some 183, .app 1 8 false (.t 181) (.t 182), none⟩,
      ⟨some 21, .mv (.t 183), none⟩])
  (.seq (.prune [0, 5, 12, 15, 21]) (.seq (.seq (.reg [
        ⟨some 22, .mv (.c (.int .i64 0)), none⟩])
    (.seq (.prune [0, 5, 12, 15, 21, 22]) (.block 12 (.loop [0, 5, 12, 15, 21, 22] (.seq (.seq (.reg [
              ⟨some 184, .mv (.t 22), none⟩,
              ⟨some 185, .mv (.t 21), none⟩,
              ⟨some 186, .len .slice (.t 185), none⟩,
              ⟨some 187, .bin .lss (.t 184) (.t 186), none⟩])
          (.seq (.prune [0, 5, 12, 15, 21, 22, 187]) (.cond (.t 187) (.skip)
          (.exit 12))))
        (.seq (.prune [0, 5, 12, 15, 21, 22]) (.seq (.block 13 (.seq (.reg [
                ⟨some 190, .mv (.t 0), none⟩,
                ⟨some 191, .mv (.t 21), none⟩,
                ⟨some 192, .mv (.t 22), none⟩,
                ⟨some 193, .ia 1 (.t 191) (.t 192), none⟩,
                ⟨some 194, .lds (.t 193), none⟩,
                ⟨some 195, .call false 41 [(.t 190), (.t 194)], none⟩,
                ⟨some 23, .mv (.t 195), none⟩])
            (.seq (.prune [0, 5, 12, 15, 21, 22, 23]) (.seq (.reg [
                ⟨some 196, .mv (.t 23), none⟩,
                ⟨some 197, .bin .geq (.t 196) (.c (.int .i64 0)), none⟩])
            (.seq (.prune [0, 5, 12, 15, 21, 22, 23, 197]) (.cond (.t 197) (.reg [
                ⟨some 198, .mv (.t 21), none⟩,
                ⟨some 199, .mv (.t 22), none⟩,
                ⟨some 200, .mv (.t 12), none⟩,
                ⟨some 201, .mv (.t 5), none⟩,
                ⟨some 202, .mv (.t 23), none⟩,
                ⟨some 203, .call false 43 [(.t 201), (.t 202)], none⟩,
                ⟨some 204, .ia 1 (.t 200) (.t 203), none⟩,
                ⟨some 205, .lds (.t 204), none⟩,
                ⟨some 206, .cvi .u64 (.t 205), none⟩,
                ⟨some 207, .bin .mul (.c (.int .u64 4)) (.t 206), none⟩,
                ⟨some 208, .ia 1 (.t 198) (.t 199), none⟩,
                ⟨none, .sts (.t 208) (.t 207), none⟩])
            (.skip)))))))
        (.seq (.prune [0, 5, 12, 15, 21, 22]) (.reg [
          ⟨some 188, .mv (.t 22), none⟩,
          ⟨some 189, .bin .add (.t 188) (.c (.int .i64 1)), none⟩,
          ⟨some 22, .mv (.t 189), none⟩])))))))))
  (.seq (.prune [0, 15, 21]) (.seq (.reg [
      ⟨some 209, .mv (.t 0), none⟩,
      ⟨some 210, .mv (.t 15), none⟩,
      ⟨some 211, .nc (.t 209), none⟩,
      ⟨some 212, .fa 1 (.t 211), none⟩,
      ⟨none, .sts (.t 212) (.t 210), none⟩])
  (.seq (.prune [21]) (.seq (.reg [
      ⟨some 213, .mv (.t 21), none⟩,
      ⟨some 4, .mv (.t 213), none⟩])
  (.ret))))))))))))))))))))))))),
  [.t 4]⟩
/-- bezel/bezelref08.Same -/
def a18 : AFunc := ⟨.seq (.reg [
      ⟨some 4, .mv (.c (.bool false)), none⟩])
  (.seq (.prune [0, 1]) (.seq (.seq (.reg [
        ⟨some 6, .mv (.t 0), none⟩,
        ⟨some 7, .len .slice (.t 6), none⟩,
        ⟨some 8, .mv (.t 1), none⟩,
        ⟨some 9, .len .slice (.t 8), none⟩,
        ⟨some 10, .bin .neq (.t 7) (.t 9), none⟩])
    (.seq (.prune [0, 1, 10]) (.cond (.t 10) (.seq (.reg [
          ⟨some 4, .mv (.c (.bool false)), none⟩])
      (.ret))
    (.skip))))
  (.seq (.prune [0, 1]) (.seq (.seq (.reg [
        ⟨some 5, .mv (.c (.int .i64 0)), none⟩])
    (.seq (.prune [0, 1, 5]) (.block 0 (.loop [0, 1, 5] (.seq (.seq (.reg [
              ⟨some 11, .mv (.t 5), none⟩,
              ⟨some 12, .mv (.t 0), none⟩,
              ⟨some 13, .len .slice (.t 12), none⟩,
              ⟨some 14, .bin .lss (.t 11) (.t 13), none⟩])
          (.seq (.prune [0, 1, 5, 14]) (.cond (.t 14) (.skip)
          (.exit 0))))
        (.seq (.prune [0, 1, 5]) (.seq (.block 1 (.seq (.draw 0 [
                (⟨some 17, .mv (.t 0), none⟩, 0, []),
                (⟨some 18, .mv (.t 5), none⟩, 0, []),
                (⟨some 19, .ia 1 (.t 17) (.t 18), none⟩, 0, [0, 1]),
                (⟨some 20, .lds (.t 19), none⟩, 0, [0, 1, 2]),
                (⟨some 21, .mv (.t 1), none⟩, 0, []),
                (⟨some 22, .mv (.t 5), none⟩, 0, []),
                (⟨some 23, .ia 1 (.t 21) (.t 22), none⟩, 0, [4, 5]),
                (⟨some 24, .lds (.t 23), none⟩, 0, [4, 5, 6]),
                (⟨some 25, .bin .neq (.t 20) (.t 24), none⟩, 0, [0, 1, 2, 3, 4, 5, 6, 7])])
            (.seq (.prune [0, 1, 5, 25]) (.cond (.t 25) (.seq (.reg [
                  ⟨some 4, .mv (.c (.bool false)), none⟩])
              (.ret))
            (.skip)))))
        (.seq (.prune [0, 1, 5]) (.reg [
          ⟨some 15, .mv (.t 5), none⟩,
          ⟨some 16, .bin .add (.t 15) (.c (.int .i64 1)), none⟩,
          ⟨some 5, .mv (.t 16), none⟩])))))))))
  (.seq (.prune []) (.seq (.reg [
      ⟨some 4, .mv (.c (.bool true)), none⟩])
  (.ret))))))),
  [.t 4]⟩
/-- (*bezel/heap.Heap).Used -/
def a19 : AFunc := ⟨.seq (.reg [
      ⟨some 2, .mv (.c (.int .i64 0)), none⟩])
  (.seq (.prune [0]) (.seq (.reg [
      ⟨some 3, .mv (.t 0), none⟩,
      ⟨some 4, .nc (.t 3), none⟩,
      ⟨some 5, .fa 3 (.t 4), none⟩,
      ⟨some 6, .lds (.t 5), none⟩,
      ⟨some 7, .bin .sub (.t 6) (.c (.int .i64 1)), none⟩,
      ⟨some 2, .mv (.t 7), none⟩])
  (.ret))),
  [.t 2]⟩
/-- (*bezel/bezelref08.Heap).Used -/
def a20 : AFunc := ⟨.seq (.reg [
      ⟨some 2, .mv (.c (.int .i64 0)), none⟩])
  (.seq (.prune [0]) (.seq (.reg [
      ⟨some 3, .mv (.c (.int .i64 0)), none⟩])
  (.seq (.prune [0, 3]) (.seq (.seq (.reg [
        ⟨some 4, .mv (.c (.int .i64 0)), none⟩])
    (.seq (.prune [0, 3, 4]) (.block 0 (.loop [0, 3, 4] (.seq (.seq (.reg [
              ⟨some 5, .mv (.t 4), none⟩,
              ⟨some 6, .mv (.t 0), none⟩,
              ⟨some 7, .nc (.t 6), none⟩,
              ⟨some 8, .fa 1 (.t 7), none⟩,
              ⟨some 9, .lds (.t 8), none⟩,
              ⟨some 10, .len .slice (.t 9), none⟩,
              ⟨some 11, .bin .lss (.t 5) (.t 10), none⟩])
          (.seq (.prune [0, 3, 4, 11]) (.cond (.t 11) (.skip)
          (.exit 0))))
        (.seq (.prune [0, 3, 4]) (.seq (.block 1 (.reg [
              ⟨some 14, .mv (.t 3), none⟩,
              ⟨some 15, .mv (.t 0), none⟩,
              ⟨some 16, .nc (.t 15), none⟩,
              ⟨some 17, .fa 1 (.t 16), none⟩,
              ⟨some 18, .lds (.t 17), none⟩,
              ⟨some 19, .mv (.t 4), none⟩,
              ⟨some 20, .ia 3 (.t 18) (.t 19), none⟩,
              ⟨some 21, .fa 2 (.t 20), none⟩,
              ⟨some 22, .lds (.t 21), none⟩,
              ⟨some 23, .len .slice (.t 22), none⟩,
              ⟨some 24, .bin .add (.t 14) (.t 23), none⟩,
              ⟨some 25, .bin .add (.t 24) (.c (.int .i64 1)), none⟩,
              ⟨some 3, .mv (.t 25), none⟩]))
        (.seq (.prune [0, 3, 4]) (.reg [
          ⟨some 12, .mv (.t 4), none⟩,
          ⟨some 13, .bin .add (.t 12) (.c (.int .i64 1)), none⟩,
          ⟨some 4, .mv (.t 13), none⟩])))))))))
  (.seq (.prune [3]) (.seq (.reg [
      ⟨some 26, .mv (.t 3), none⟩,
      ⟨some 2, .mv (.t 26), none⟩])
  (.ret))))))),
  [.t 2]⟩
/-- (*bezel/heap.Heap).Room -/
def a21 : AFunc := ⟨.seq (.reg [
      ⟨some 2, .mv (.c (.int .i64 0)), none⟩])
  (.seq (.prune [0]) (.seq (.draw 0 [
      (⟨some 3, .mv (.t 0), none⟩, 0, []),
      (⟨some 4, .nc (.t 3), none⟩, 0, [0]),
      (⟨some 5, .fa 0 (.t 4), none⟩, 0, [0, 1]),
      (⟨some 6, .lds (.t 5), none⟩, 0, [0, 1, 2]),
      (⟨some 7, .len .slice (.t 6), none⟩, 0, [0, 1, 2, 3]),
      (⟨some 8, .mv (.t 0), none⟩, 0, []),
      (⟨some 9, .nc (.t 8), none⟩, 0, [5]),
      (⟨some 10, .fa 3 (.t 9), none⟩, 0, [5, 6]),
      (⟨some 11, .lds (.t 10), none⟩, 0, [5, 6, 7]),
      (⟨some 12, .bin .sub (.t 7) (.t 11), none⟩, 0, [0, 1, 2, 3, 4, 5, 6, 7, 8]),
      (⟨some 2, .mv (.t 12), none⟩, 0, [0, 1, 2, 3, 4, 5, 6, 7, 8, 9])])
  (.ret))),
  [.t 2]⟩
/-- (*bezel/heap.Heap).Kind -/
def a22 : AFunc := ⟨.seq (.reg [
      ⟨some 4, .mv (.c (.int .i64 0)), none⟩,
      ⟨some 5, .mv (.c (.bool false)), none⟩])
  (.seq (.prune [0, 1]) (.seq (.reg [
      ⟨some 7, .mv (.t 0), none⟩,
      ⟨some 8, .mv (.t 1), none⟩,
      ⟨some 9, .call false 40 [(.t 7), (.t 8)], none⟩,
      ⟨some 6, .mv (.t 9), none⟩])
  (.seq (.prune [0, 6]) (.seq (.reg [
      ⟨some 10, .mv (.t 0), none⟩,
      ⟨some 11, .nc (.t 10), none⟩,
      ⟨some 12, .fa 0 (.t 11), none⟩,
      ⟨some 13, .lds (.t 12), none⟩,
      ⟨some 14, .mv (.t 6), none⟩,
      ⟨some 15, .ia 1 (.t 13) (.t 14), none⟩,
      ⟨some 16, .lds (.t 15), none⟩,
      ⟨some 17, .bin .shr (.t 16) (.c (.int .u64 32)), none⟩,
      ⟨some 18, .cvi .i64 (.t 17), none⟩,
      ⟨some 19, .mv (.t 6), none⟩,
      ⟨some 20, .bin .gtr (.t 19) (.c (.int .i64 0)), none⟩,
      ⟨some 4, .mv (.t 18), none⟩,
      ⟨some 5, .mv (.t 20), none⟩])
  (.ret))))),
  [.t 4, .t 5]⟩
/-- (*bezel/bezelref08.Heap).Kind -/
def a23 : AFunc := ⟨.seq (.reg [
      ⟨some 4, .mv (.c (.int .i64 0)), none⟩,
      ⟨some 5, .mv (.c (.bool false)), none⟩])
  (.seq (.prune [0, 1]) (.seq (.reg [
      ⟨some 7, .mv (.t 0), none⟩,
      ⟨some 8, .mv (.t 1), none⟩,
      ⟨some 9, .call false 41 [(.t 7), (.t 8)], none⟩,
      ⟨some 6, .mv (.t 9), none⟩])
  (.seq (.prune [0, 6]) (.seq (.seq (.reg [
        ⟨some 10, .mv (.t 6), none⟩,
        ⟨some 11, .bin .lss (.t 10) (.c (.int .i64 0)), none⟩])
    (.seq (.prune [0, 6, 11]) (.cond (.t 11) (.seq (.reg [
          ⟨some 4, .mv (.c (.int .i64 0)), none⟩,
          ⟨some 5, .mv (.c (.bool false)), none⟩])
      (.ret))
    (.skip))))
  (.seq (.prune [0, 6]) (.seq (.reg [
      ⟨some 12, .mv (.t 0), none⟩,
      ⟨some 13, .nc (.t 12), none⟩,
      ⟨some 14, .fa 1 (.t 13), none⟩,
      ⟨some 15, .lds (.t 14), none⟩,
      ⟨some 16, .mv (.t 6), none⟩,
      ⟨some 17, .ia 3 (.t 15) (.t 16), none⟩,
      ⟨some 18, .fa 1 (.t 17), none⟩,
      ⟨some 19, .lds (.t 18), none⟩,
      ⟨some 4, .mv (.t 19), none⟩,
      ⟨some 5, .mv (.c (.bool true)), none⟩])
  (.ret))))))),
  [.t 4, .t 5]⟩
/-- (*bezel/heap.Heap).Field -/
def a24 : AFunc := ⟨.seq (.reg [
      ⟨some 6, .mv (.c (.int .u64 0)), none⟩,
      ⟨some 7, .mv (.c (.bool false)), none⟩])
  (.seq (.prune [0, 1, 2]) (.seq (.seq (.reg [
        ⟨some 8, .mv (.t 2), none⟩,
        ⟨some 9, .bin .lss (.t 8) (.c (.int .i64 0)), none⟩,
        ⟨some 10, .mv (.t 9), none⟩,
        ⟨some 11, .mv (.t 2), some (10, false)⟩,
        ⟨some 12, .mv (.t 0), some (10, false)⟩,
        ⟨some 13, .mv (.t 1), some (10, false)⟩,
        ⟨some 14, .call false 26 [(.t 12), (.t 13)], some (10, false)⟩,
        ⟨some 15, .bin .geq (.t 11) (.t 14), some (10, false)⟩,
        ⟨some 16, .pick (.t 10) (.c (.bool true)) (.t 15), none⟩])
    (.seq (.prune [0, 1, 2, 16]) (.cond (.t 16) (.seq (.reg [
          ⟨some 6, .mv (.c (.int .u64 0)), none⟩,
          ⟨some 7, .mv (.c (.bool false)), none⟩])
      (.ret))
    (.skip))))
  (.seq (.prune [0, 1, 2]) (.seq (.draw 0 [
      (⟨some 17, .mv (.t 0), none⟩, 0, []),
      (⟨some 18, .nc (.t 17), none⟩, 0, [0]),
      (⟨some 19, .fa 0 (.t 18), none⟩, 0, [0, 1]),
      (⟨some 20, .lds (.t 19), none⟩, 0, [0, 1, 2]),
      (⟨some 21, .mv (.t 0), none⟩, 0, []),
      (⟨some 22, .mv (.t 1), none⟩, 0, []),
      (⟨some 23, .call false 40 [(.t 21), (.t 22)], none⟩, 0, [4, 5]),
      (⟨some 24, .bin .add (.t 23) (.c (.int .i64 1)), none⟩, 0, [4, 5, 6]),
      (⟨some 25, .mv (.t 2), none⟩, 0, []),
      (⟨some 26, .bin .add (.t 24) (.t 25), none⟩, 0, [4, 5, 6, 7, 8]),
      (⟨some 27, .ia 1 (.t 20) (.t 26), none⟩, 0, [0, 1, 2, 3, 4, 5, 6, 7, 8, 9]),
      (⟨some 28, .lds (.t 27), none⟩, 0, [0, 1, 2, 3, 4, 5, 6, 7, 8, 9, 10]),
      (⟨some 6, .mv (.t 28), none⟩, 0, [0, 1, 2, 3, 4, 5, 6, 7, 8, 9, 10, 11]),
      (⟨some 7, .mv (.c (.bool true)), none⟩, 0, [0, 1, 2, 3, 4, 5, 6, 7, 8, 9, 10, 11, 12])])
  (.ret))))),
  [.t 6, .t 7]⟩
/-- (*bezel/bezelref08.Heap).Field -/
def a25 : AFunc := ⟨.seq (.reg [
      ⟨some 6, .mv (.c (.int .u64 0)), none⟩,
      ⟨some 7, .mv (.c (.bool false)), none⟩])
  (.seq (.prune [0, 1, 2]) (.seq (.reg [
      ⟨some 9, .mv (.t 0), none⟩,
      ⟨some 10, .mv (.t 1), none⟩,
      ⟨some 11, .call false 41 [(.t 9), (.t 10)], none⟩,
      ⟨some 8, .mv (.t 11), none⟩])
  (.seq (.prune [0, 2, 8]) (.seq (.seq (.reg [
        ⟨some 12, .mv (.t 8), none⟩,
        ⟨some 13, .bin .lss (.t 12) (.c (.int .i64 0)), none⟩,
        ⟨some 14, .mv (.t 13), none⟩,
        ⟨some 15, .mv (.t 2), some (14, false)⟩,
        ⟨some 16, .bin .lss (.t 15) (.c (.int .i64 0)), some (14, false)⟩,
        ⟨some 17, .pick (.t 14) (.c (.bool true)) (.t 16), none⟩,
        ⟨some 18, .mv (.t 17), none⟩,
        ⟨some 19, .mv (.t 2), some (18, false)⟩,
        ⟨some 20, .mv (.t 0), some (18, false)⟩,
        ⟨some 21, .nc (.t 20), some (18, false)⟩,
        ⟨some 22, .fa 1 (.t 21), some (18, false)⟩,
        ⟨some 23, .lds (.t 22), some (18, false)⟩,
        ⟨some 24, .mv (.t 8), some (18, false)⟩,
        ⟨some 25, .ia 3 (.t 23) (.t 24), some (18, false)⟩,
        ⟨some 26, .fa 2 (.t 25), some (18, false)⟩,
        ⟨some 27, .lds (.t 26), some (18, false)⟩,
        ⟨some 28, .len .slice (.t 27), some (18, false)⟩,
        ⟨some 29, .bin .geq (.t 19) (.t 28), some (18, false)⟩,
        ⟨some 30, .pick (.t 18) (.c (.bool true)) (.t 29), none⟩])
    (.seq (.prune [0, 2, 8, 30]) (.cond (.t 30) (.seq (.reg [
          ⟨some 6, .mv (.c (.int .u64 0)), none⟩,
          ⟨some 7, .mv (.c (.bool false)), none⟩])
      (.ret))
    (.skip))))
  (.seq (.prune [0, 2, 8]) (.seq (.reg [
      ⟨some 31, .mv (.t 0), none⟩,
      ⟨some 32, .nc (.t 31), none⟩,
      ⟨some 33, .fa 1 (.t 32), none⟩,
      ⟨some 34, .lds (.t 33), none⟩,
      ⟨some 35, .mv (.t 8), none⟩,
      ⟨some 36, .ia 3 (.t 34) (.t 35), none⟩,
      ⟨some 37, .fa 2 (.t 36), none⟩,
      ⟨some 38, .lds (.t 37), none⟩,
      ⟨some 39, .mv (.t 2), none⟩,
      ⟨some 40, .ia 1 (.t 38) (.t 39), none⟩,
      ⟨some 41, .lds (.t 40), none⟩,
      ⟨some 6, .mv (.t 41), none⟩,
      ⟨some 7, .mv (.c (.bool true)), none⟩])
  (.ret))))))),
  [.t 6, .t 7]⟩
/-- (*bezel/heap.Heap).Len -/
def a26 : AFunc := ⟨.seq (.reg [
      ⟨some 4, .mv (.c (.int .i64 0)), none⟩])
  (.seq (.prune [0, 1]) (.seq (.draw 0 [
      (⟨some 5, .mv (.t 0), none⟩, 0, []),
      (⟨some 6, .nc (.t 5), none⟩, 0, [0]),
      (⟨some 7, .fa 0 (.t 6), none⟩, 0, [0, 1]),
      (⟨some 8, .lds (.t 7), none⟩, 0, [0, 1, 2]),
      (⟨some 9, .mv (.t 0), none⟩, 0, []),
      (⟨some 10, .mv (.t 1), none⟩, 0, []),
      (⟨some 11, .call false 40 [(.t 9), (.t 10)], none⟩, 0, [4, 5]),
      (⟨some 12, .ia 1 (.t 8) (.t 11), none⟩, 0, [0, 1, 2, 3, 4, 5, 6]),
      (⟨some 13, .lds (.t 12), none⟩, 0, [0, 1, 2, 3, 4, 5, 6, 7]),
      (⟨some 14, .bin .and (.t 13) (.c (.int .u64 4294967295)), none⟩, 0, [0, 1, 2, 3, 4, 5, 6, 7, 8]),
      (⟨some 15, .cvi .i64 (.t 14), none⟩, 0, [0, 1, 2, 3, 4, 5, 6, 7, 8, 9]),
      (⟨some 4, .mv (.t 15), none⟩, 0, [0, 1, 2, 3, 4, 5, 6, 7, 8, 9, 10])])
  (.ret))),
  [.t 4]⟩
/-- (*bezel/bezelref08.Heap).Len -/
def a27 : AFunc := ⟨.seq (.reg [
      ⟨some 4, .mv (.c (.int .i64 0)), none⟩])
  (.seq (.prune [0, 1]) (.seq (.reg [
      ⟨some 6, .mv (.t 0), none⟩,
      ⟨some 7, .mv (.t 1), none⟩,
      ⟨some 8, .call false 41 [(.t 6), (.t 7)], none⟩,
      ⟨some 5, .mv (.t 8), none⟩])
  (.seq (.prune [0, 5]) (.seq (.seq (.reg [
        ⟨some 9, .mv (.t 5), none⟩,
        ⟨some 10, .bin .lss (.t 9) (.c (.int .i64 0)), none⟩])
    (.seq (.prune [0, 5, 10]) (.cond (.t 10) (.seq (.reg [
          ⟨some 4, .mv (.c (.int .i64 0)), none⟩])
      (.ret))
    (.skip))))
  (.seq (.prune [0, 5]) (.seq (.reg [
      ⟨some 11, .mv (.t 0), none⟩,
      ⟨some 12, .nc (.t 11), none⟩,
      ⟨some 13, .fa 1 (.t 12), none⟩,
      ⟨some 14, .lds (.t 13), none⟩,
      ⟨some 15, .mv (.t 5), none⟩,
      ⟨some 16, .ia 3 (.t 14) (.t 15), none⟩,
      ⟨some 17, .fa 2 (.t 16), none⟩,
      ⟨some 18, .lds (.t 17), none⟩,
      ⟨some 19, .len .slice (.t 18), none⟩,
      ⟨some 4, .mv (.t 19), none⟩])
  (.ret))))))),
  [.t 4]⟩
/-- bezel/heap.Ptr -/
def a28 : AFunc := ⟨.seq (.reg [
      ⟨some 2, .mv (.c (.int .u64 0)), none⟩])
  (.seq (.prune [0]) (.seq (.reg [
      ⟨some 3, .mv (.t 0), none⟩,
      ⟨some 4, .cvi .u64 (.t 3), none⟩,
      ⟨some 5, .bin .shl (.t 4) (.c (.int .u64 2)), none⟩,
      ⟨some 2, .mv (.t 5), none⟩])
  (.ret))),
  [.t 2]⟩
/-- bezel/bezellaw08.filled -/
def a29 : AFunc := ⟨.seq (.reg [
      ⟨some 2, .mv (.c (.nilp)), none⟩,
      ⟨some 3, .mv (.c (.lst [] true)), none⟩,
      ⟨some 4, .mv (.c (.bool false)), none⟩])
  (.seq (.prune [0]) (.seq (.reg [
      ⟨some 13, .call true 8 [(.c (.int .i64 16384))], none⟩,
      ⟨some 12, .mv (.t 13), none⟩,
      ⟨some 14, .ext 0 (.t 12), none⟩,
      ⟨some 15, .ext 1 (.t 12), none⟩,
      ⟨some 5, .mv (.t 14), none⟩,
      ⟨some 6, .mv (.t 15), none⟩])
  (.seq (.prune [0, 5]) (.seq (.reg [
      ⟨some 7, .mv (.c (.lst [] true)), none⟩])
  (.seq (.prune [0, 5, 7]) (.seq (.seq (.reg [
        ⟨some 16, .mv (.t 5), none⟩,
        ⟨some 17, .isnil .ptr false (.t 16), none⟩,
        ⟨some 18, .mv (.t 17), none⟩,
        ⟨some 19, .mv (.t 0), some (18, false)⟩,
        ⟨some 20, .len .slice (.t 19), some (18, false)⟩,
        ⟨some 21, .bin .gtr (.t 20) (.c (.int .i64 40)), some (18, false)⟩,
        ⟨some 22, .pick (.t 18) (.c (.bool true)) (.t 21), none⟩])
    (.seq (.prune [0, 5, 7, 22]) (.cond (.t 22) (.seq (.reg [
          ⟨some 23, .mv (.t 5), none⟩,
          ⟨some 2, .mv (.t 23), none⟩,
          ⟨some 3, .mv (.c (.lst [] true)), none⟩,
          ⟨some 4, .mv (.c (.bool false)), none⟩])
      (.ret))
    (.skip))))
  (.seq (.prune [0, 5, 7]) (.seq (.seq (.reg [
        ⟨some 8, .mv (.c (.int .i64 0)), none⟩])
    (.seq (.prune [0, 5, 7, 8]) (.block 0 (.seq (.own 7 none)
      (.loop [0, 5, 7, 8] (.seq (.seq (.reg [
              ⟨some 24, .mv (.t 8), none⟩,
              ⟨some 25, .mv (.t 0), none⟩,
              ⟨some 26, .len .slice (.t 25), none⟩,
              ⟨some 27, .bin .lss (.t 24) (.t 26), none⟩])
          (.seq (.prune [0, 5, 7, 8, 27]) (.cond (.t 27) (.skip)
          (.exit 0))))
        (.seq (.prune [0, 5, 7, 8]) (.seq (.block 1 (.seq (.reg [
                ⟨some 30, .mv (.t 0), none⟩,
                ⟨some 31, .mv (.t 8), none⟩,
                ⟨some 32, .ia 7 (.t 30) (.t 31), none⟩,
                ⟨some 33, .lda 7 (.t 32), none⟩,
                ⟨some 9, .alloc [.int .i64 0, .int .i64 0, .int .i64 0, .int .u64 0, .int .u64 0, .int .u64 0, .lst [] true], none⟩,
                ⟨none, .sta 7 (.t 9) (.t 33), none⟩])
            (.seq (.prune [0, 5, 7, 8, 9]) (.seq (.seq (.reg [
                  ⟨some 34, .fa 6 (.t 9), none⟩,
                  ⟨some 35, .lds (.t 34), none⟩,
                  ⟨some 36, .len .slice (.t 35), none⟩,
                  ⟨some 37, .bin .gtr (.t 36) (.c (.int .i64 20)), none⟩])
              (.seq (.prune [0, 5, 7, 8, 9, 37]) (.cond (.t 37) (.seq (.reg [
                    ⟨some 38, .mv (.t 5), none⟩,
                    ⟨some 2, .mv (.t 38), none⟩,
                    ⟨some 3, .mv (.c (.lst [] true)), none⟩,
                    ⟨some 4, .mv (.c (.bool false)), none⟩])
                (.ret))
              (.skip))))
            (.seq (.prune [0, 5, 7, 8, 9]) (.seq (.seq (.reg [
                  ⟨some 39, .fa 0 (.t 9), none⟩,
                  ⟨some 40, .lds (.t 39), none⟩,
                  ⟨some 41, .bin .eql (.t 40) (.c (.int .i64 4)), none⟩])
              (.seq (.prune [0, 5, 7, 8, 9, 41]) (.cond (.t 41) (.seq (.draw 0 [
                    (⟨some 42, .mv (.t 5), none⟩, 0, []),
                    (⟨some 43, .fa 3 (.t 9), none⟩, 0, []),
                    (⟨some 44, .lds (.t 43), none⟩, 0, [1]),
                    (⟨some 45, .fa 5 (.t 9), none⟩, 0, []),
                    (⟨some 46, .lds (.t 45), none⟩, 0, [3]),
                    (⟨some 47, .mv (.t 7), none⟩, 0, []),
                    (⟨some 48, .call false 10 [(.t 44), (.t 46), (.t 47)], none⟩, 0, [1, 2, 3, 4, 5]),
                    (⟨some 49, .fa 2 (.t 9), none⟩, 0, []),
                    (⟨some 50, .lds (.t 49), none⟩, 0, [7]),
                    (⟨some 51, .fa 4 (.t 9), none⟩, 0, []),
                    (⟨some 52, .lds (.t 51), none⟩, 0, [9]),
                    (⟨some 53, .fa 5 (.t 9), none⟩, 0, []),
                    (⟨some 54, .lds (.t 53), none⟩, 0, [11]),
                    (⟨some 55, .mv (.t 7), none⟩, 0, []),
                    (⟨some 56, .call false 10 [(.t 52), (.t 54), (.t 55)], none⟩, 0, [1, 2, 3, 4, 5, 6, 9, 10, 11, 12, 13]),
                    (⟨some 57, .call false 14 [(.t 42), (.t 48), (.t 50), (.t 56)], none⟩, 0, [0, 1, 2, 3, 4, 5, 6, 7, 8, 9, 10, 11, 12, 13, 14])])
                (.exit 1))
              (.skip))))
            (.seq (.prune [0, 5, 7, 8, 9]) (.seq (.draw 0 [
                (⟨some 59, .mv (.t 5), none⟩, 0, []),
                (⟨some 60, .fa 1 (.t 9), none⟩, 0, []),
                (⟨some 61, .lds (.t 60), none⟩, 0, [1]),
                (⟨some 62, .fa 6 (.t 9), none⟩, 0, []),
                (⟨some 63, .lds (.t 62), none⟩, 0, [3]),
                (⟨some 64, .fa 5 (.t 9), none⟩, 0, []),
                (⟨some 65, .lds (.t 64), none⟩, 0, [5]),
                (⟨some 66, .mv (.t 7), none⟩, 0, []),
                (⟨some 67, .call false 11 [(.t 63), (.t 65), (.t 66)], none⟩, 0, [3, 4, 5, 6, 7]),
                (⟨some 68, .call false 12 [(.t 59), (.t 61), (.t 67)], none⟩, 0, [0, 1, 2, 3, 4, 5, 6, 7, 8]),
                (⟨some 58, .mv (.t 68), none⟩, 0, [0, 1, 2, 3, 4, 5, 6, 7, 8, 9]),
                (⟨some 69, .ext 0 (.t 58), none⟩, 0, [0, 1, 2, 3, 4, 5, 6, 7, 8, 9, 10]),
                (⟨some 70, .ext 1 (.t 58), none⟩, 0, [0, 1, 2, 3, 4, 5, 6, 7, 8, 9, 10]),
                (⟨some 10, .mv (.t 69), none⟩, 0, [0, 1, 2, 3, 4, 5, 6, 7, 8, 9, 10, 11]),
                (⟨some 11, .mv (.t 70), none⟩, 0, [0, 1, 2, 3, 4, 5, 6, 7, 8, 9, 10, 11, 12, 13])])
            (.seq (.prune [0, 5, 7, 8, 10, 11]) (.seq (.reg [
                ⟨some 71, .mv (.t 11), none⟩,
                ⟨some 72, .bin .eql (.t 71) (.c (.int .i64 0)), none⟩])
            (.seq (.prune [0, 5, 7, 8, 10, 72]) (.cond (.t 72) (.reg [
                ⟨some 73, .mv (.t 7), none⟩,
                ⟨some 74, .mv (.t 10), none⟩,
                ⟨some 75, .bsl 1 (.int .u64 0) 1 [(0, (.t 74))], none⟩,
                ⟨some 76, .app 1 8 false (.t 73) (.t 75), none⟩,
                ⟨some 7, .mv (.t 76), none⟩])
            (.skip)))))))))))))
        (.seq (.prune [0, 5, 7, 8]) (.reg [
          ⟨some 28, .mv (.t 8), none⟩,
          ⟨some 29, .bin .add (.t 28) (.c (.int .i64 1)), none⟩,
          ⟨some 8, .mv (.t 29), none⟩]))))))))))
  (.seq (.prune [5, 7]) (.seq (.reg [
      ⟨some 77, .mv (.t 5), none⟩,
      ⟨some 78, .mv (.t 7), none⟩,
      ⟨some 2, .mv (.t 77), none⟩,
      ⟨some 3, .mv (.t 78), none⟩,
      ⟨some 4, .mv (.c (.bool true)), none⟩])
  (.ret))))))))))),
  [.t 2, .t 3, .t 4]⟩
/-- bezel/heap.Place -/
def a30 : AFunc := ⟨.seq (.reg [
      ⟨some 2, .mv (.c (.int .i64 0)), none⟩,
      ⟨some 3, .mv (.c (.bool false)), none⟩])
  (.seq (.prune [0]) (.seq (.reg [
      ⟨some 4, .mv (.t 0), none⟩,
      ⟨some 5, .call false 44 [(.t 4), (.c (.int .u64 0))], none⟩,
      ⟨some 6, .ext 0 (.t 5), none⟩,
      ⟨some 7, .ext 1 (.t 5), none⟩,
      ⟨some 2, .mv (.t 6), none⟩,
      ⟨some 3, .mv (.t 7), none⟩])
  (.ret))),
  [.t 2, .t 3]⟩
/-- bezel/bezellaw08.stray -/
def a31 : AFunc := ⟨.seq (.reg [
      ⟨some 4, .mv (.c (.bool false)), none⟩])
  (.seq (.prune [0, 1]) (.seq (.seq (.reg [
        ⟨some 5, .mv (.c (.int .i64 0)), none⟩])
    (.seq (.prune [0, 1, 5]) (.block 0 (.loop [0, 1, 5] (.seq (.seq (.reg [
              ⟨some 13, .mv (.t 5), none⟩,
              ⟨some 14, .mv (.t 1), none⟩,
              ⟨some 15, .len .slice (.t 14), none⟩,
              ⟨some 16, .bin .lss (.t 13) (.t 15), none⟩])
          (.seq (.prune [0, 1, 5, 16]) (.cond (.t 16) (.skip)
          (.exit 0))))
        (.seq (.prune [0, 1, 5]) (.seq (.block 1 (.seq (.reg [
                ⟨some 6, .mv (.c (.int .i64 0)), none⟩])
            (.seq (.prune [0, 1, 5, 6]) (.block 2 (.loop [0, 1, 5, 6] (.seq (.seq (.reg [
                      ⟨some 19, .mv (.t 6), none⟩,
                      ⟨some 20, .mv (.t 0), none⟩,
                      ⟨some 21, .mv (.t 1), none⟩,
                      ⟨some 22, .mv (.t 5), none⟩,
                      ⟨some 23, .ia 1 (.t 21) (.t 22), none⟩,
                      ⟨some 24, .lds (.t 23), none⟩,
                      ⟨some 25, .call false 26 [(.t 20), (.t 24)], none⟩,
                      ⟨some 26, .bin .lss (.t 19) (.t 25), none⟩])
                  (.seq (.prune [0, 1, 5, 6, 26]) (.cond (.t 26) (.skip)
                  (.exit 2))))
                (.seq (.prune [0, 1, 5, 6]) (.seq (.block 3 (.seq (.reg [
                        ⟨some 30, .mv (.t 0), none⟩,
                        ⟨some 31, .mv (.t 1), none⟩,
                        ⟨some 32, .mv (.t 5), none⟩,
                        ⟨some 33, .ia 1 (.t 31) (.t 32), none⟩,
                        ⟨some 34, .lds (.t 33), none⟩,
                        ⟨some 35, .mv (.t 6), none⟩,
                        ⟨some 36, .call false 24 [(.t 30), (.t 34), (.t 35)], none⟩,
                        ⟨some 29, .mv (.t 36), none⟩,
                        ⟨some 37, .ext 0 (.t 29), none⟩,
                        ⟨some 38, .ext 1 (.t 29), none⟩,
                        ⟨some 7, .mv (.t 37), none⟩,
                        ⟨some 8, .mv (.t 38), none⟩])
                    (.seq (.prune [0, 1, 5, 6, 7]) (.seq (.reg [
                        ⟨some 40, .mv (.t 0), none⟩,
                        ⟨some 41, .mv (.t 7), none⟩,
                        ⟨some 42, .call false 22 [(.t 40), (.t 41)], none⟩,
                        ⟨some 39, .mv (.t 42), none⟩,
                        ⟨some 43, .ext 0 (.t 39), none⟩,
                        ⟨some 44, .ext 1 (.t 39), none⟩,
                        ⟨some 9, .mv (.t 43), none⟩,
                        ⟨some 10, .mv (.t 44), none⟩])
                    (.seq (.prune [0, 1, 5, 6, 7, 10]) (.seq (.reg [
                        ⟨some 46, .mv (.t 7), none⟩,
                        ⟨some 47, .call false 30 [(.t 46)], none⟩,
                        ⟨some 45, .mv (.t 47), none⟩,
                        ⟨some 48, .ext 0 (.t 45), none⟩,
                        ⟨some 49, .ext 1 (.t 45), none⟩,
                        ⟨some 11, .mv (.t 48), none⟩,
                        ⟨some 12, .mv (.t 49), none⟩])
                    (.seq (.prune [0, 1, 5, 6, 10, 11, 12]) (.seq (.reg [
                        ⟨some 50, .mv (.t 10), none⟩,
                        ⟨some 51, .un .not (.t 50), none⟩,
                        ⟨some 52, .mv (.t 51), none⟩,
                        ⟨some 53, .mv (.t 12), some (52, true)⟩,
                        ⟨some 54, .pick (.t 52) (.t 53) (.c (.bool false)), none⟩,
                        ⟨some 55, .mv (.t 54), none⟩,
                        ⟨some 56, .mv (.t 11), some (55, true)⟩,
                        ⟨some 57, .bin .gtr (.t 56) (.c (.int .i64 0)), some (55, true)⟩,
                        ⟨some 58, .pick (.t 55) (.t 57) (.c (.bool false)), none⟩])
                    (.seq (.prune [0, 1, 5, 6, 58]) (.cond (.t 58) (.seq (.reg [
                          ⟨some 4, .mv (.c (.bool true)), none⟩])
                      (.ret))
                    (.skip)))))))))))
                (.seq (.prune [0, 1, 5, 6]) (.reg [
                  ⟨some 27, .mv (.t 6), none⟩,
                  ⟨some 28, .bin .add (.t 27) (.c (.int .i64 1)), none⟩,
                  ⟨some 6, .mv (.t 28), none⟩]))))))))))
        (.seq (.prune [0, 1, 5]) (.reg [
          ⟨some 17, .mv (.t 5), none⟩,
          ⟨some 18, .bin .add (.t 17) (.c (.int .i64 1)), none⟩,
          ⟨some 5, .mv (.t 18), none⟩])))))))))
  (.seq (.prune []) (.seq (.reg [
      ⟨some 4, .mv (.c (.bool false)), none⟩])
  (.ret))))),
  [.t 4]⟩
/-- bezel/bezellaw08.graph -/
def a32 : AFunc := ⟨.seq (.reg [
      ⟨some 4, .mv (.c (.lst [] true)), none⟩])
  (.seq (.prune [0, 1]) (.seq (.reg [
      ⟨some 5, .mv (.c (.lst [] true)), none⟩])
  (.seq (.prune [0, 1, 5]) (.seq (.reg [
      ⟨some 6, .mv (.c (.lst [] true)), none⟩])
  (.seq (.prune [0, 1, 5, 6]) (.seq (.reg [
      ⟨some 7, .mv (.c (.lst [] true)), none⟩])
  (.seq (.prune [0, 1, 5, 6, 7]) (.seq (.reg [
      ⟨some 17, .mv (.t 7), none⟩,
      ⟨some 18, .mv (.t 1), none⟩,
      ⟨some 19, .app 1 8 false (.t 17) (.t 18), none⟩,
      ⟨some 7, .mv (.t 19), none⟩])
  (.seq (.prune [0, 5, 6, 7]) (.seq (.seq (.reg [
        ⟨some 8, .mv (.c (.int .i64 0)), none⟩])
    (.seq (.prune [0, 5, 6, 7, 8]) (.block 0 (.seq (.own 7 none)
      (.seq (.own 6 none)
      (.seq (.own 5 none)
      (.loop [0, 5, 6, 7, 8] (.seq (.seq (.reg [
              ⟨some 20, .mv (.t 8), none⟩,
              ⟨some 21, .mv (.t 7), none⟩,
              ⟨some 22, .len .slice (.t 21), none⟩,
              ⟨some 23, .bin .lss (.t 20) (.t 22), none⟩,
              ⟨some 24, .mv (.t 23), none⟩,
              ⟨some 25, .mv (.t 8), some (24, true)⟩,
              ⟨some 26, .bin .lss (.t 25) (.c (.int .i64 3000)), some (24, true)⟩,
              ⟨some 27, .pick (.t 24) (.t 26) (.c (.bool false)), none⟩])
          (.seq (.prune [0, 5, 6, 7, 8, 27]) (.cond (.t 27) (.skip)
          (.exit 0))))
        (.seq (.prune [0, 5, 6, 7, 8]) (.seq (.block 1 (.seq (.reg [
                ⟨some 31, .mv (.t 0), none⟩,
                ⟨some 32, .mv (.t 7), none⟩,
                ⟨some 33, .mv (.t 8), none⟩,
                ⟨some 34, .ia 1 (.t 32) (.t 33), none⟩,
                ⟨some 35, .lds (.t 34), none⟩,
                ⟨some 36, .call false 22 [(.t 31), (.t 35)], none⟩,
                ⟨some 30, .mv (.t 36), none⟩,
                ⟨some 37, .ext 0 (.t 30), none⟩,
                ⟨some 38, .ext 1 (.t 30), none⟩,
                ⟨some 9, .mv (.t 37), none⟩,
                ⟨some 10, .mv (.t 38), none⟩])
            (.seq (.prune [0, 5, 6, 7, 8, 9, 10]) (.seq (.seq (.reg [
                  ⟨some 39, .mv (.t 10), none⟩,
                  ⟨some 40, .un .not (.t 39), none⟩])
              (.seq (.prune [0, 5, 6, 7, 8, 9, 40]) (.cond (.t 40) (.seq (.reg [
                    ⟨some 41, .mv (.t 5), none⟩,
                    ⟨some 42, .mv (.t 7), none⟩,
                    ⟨some 43, .mv (.t 8), none⟩,
                    ⟨some 44, .ia 1 (.t 42) (.t 43), none⟩,
                    ⟨some 45, .lds (.t 44), none⟩,
                    ⟨some 46, .bsl 1 (.int .u64 0) 2 [(0, (.c (.int .u64 0))), (1, (.t 45))], none⟩,
                    ⟨some 47, .app 1 8 false (.t 41) (.t 46), none⟩,
                    ⟨some 5, .mv (.t 47), none⟩])
                (.exit 1))
              (.skip))))
            (.seq (.prune [0, 5, 6, 7, 8, 9]) (.seq (.reg [
                ⟨some 11, .mv (.c (.int .i64 (-1))), none⟩])
            (.seq (.prune [0, 5, 6, 7, 8, 9, 11]) (.seq (.seq (.reg [
                  ⟨some 12, .mv (.c (.int .i64 0)), none⟩])
              (.seq (.prune [0, 5, 6, 7, 8, 9, 11, 12]) (.block 2 (.loop [0, 5, 6, 7, 8, 9, 11, 12] (.seq (.seq (.reg [
                        ⟨some 48, .mv (.t 12), none⟩,
                        ⟨some 49, .mv (.t 6), none⟩,
                        ⟨some 50, .len .slice (.t 49), none⟩,
                        ⟨some 51, .bin .lss (.t 48) (.t 50), none⟩])
                    (.seq (.prune [0, 5, 6, 7, 8, 9, 11, 12, 51]) (.cond (.t 51) (.skip)
                    (.exit 2))))
                  (.seq (.prune [0, 5, 6, 7, 8, 9, 11, 12]) (.seq (.block 3 (.seq (.draw 0 [
                          (⟨some 54, .mv (.t 6), none⟩, 0, []),
                          (⟨some 55, .mv (.t 12), none⟩, 0, []),
                          (⟨some 56, .ia 1 (.t 54) (.t 55), none⟩, 0, [0, 1]),
                          (⟨some 57, .lds (.t 56), none⟩, 0, [0, 1, 2]),
                          (⟨some 58, .mv (.t 7), none⟩, 0, []),
                          (⟨some 59, .mv (.t 8), none⟩, 0, []),
                          (⟨some 60, .ia 1 (.t 58) (.t 59), none⟩, 0, [4, 5]),
                          (⟨some 61, .lds (.t 60), none⟩, 0, [4, 5, 6]),
                          (⟨some 62, .bin .eql (.t 57) (.t 61), none⟩, 0, [0, 1, 2, 3, 4, 5, 6, 7])])
                      (.seq (.prune [0, 5, 6, 7, 8, 9, 11, 12, 62]) (.cond (.t 62) (.reg [
                          ⟨some 63, .mv (.t 12), none⟩,
                          ⟨some 11, .mv (.t 63), none⟩])
                      (.skip)))))
                  (.seq (.prune [0, 5, 6, 7, 8, 9, 11, 12]) (.reg [
                    ⟨some 52, .mv (.t 12), none⟩,
                    ⟨some 53, .bin .add (.t 52) (.c (.int .i64 1)), none⟩,
                    ⟨some 12, .mv (.t 53), none⟩])))))))))
            (.seq (.prune [0, 5, 6, 7, 8, 9, 11]) (.seq (.seq (.reg [
                  ⟨some 64, .mv (.t 11), none⟩,
                  ⟨some 65, .bin .geq (.t 64) (.c (.int .i64 0)), none⟩])
              (.seq (.prune [0, 5, 6, 7, 8, 9, 11, 65]) (.cond (.t 65) (.seq (.reg [
                    ⟨some 66, .mv (.t 5), none⟩,
                    ⟨some 67, .mv (.t 11), none⟩,
                    ⟨some 68, .cvi .u64 (.t 67), none⟩,
                    ⟨some 69, .bsl 1 (.int .u64 0) 2 [(0, (.c (.int .u64 1))), (1, (.t 68))], none⟩,
                    ⟨some 70, .app 1 8 false (.t 66) (.t 69), none⟩,
                    ⟨some 5, .mv (.t 70), none⟩])
                (.exit 1))
              (.skip))))
            (.seq (.prune [0, 5, 6, 7, 8, 9]) (.seq (.reg [
                ⟨some 71, .mv (.t 6), none⟩,
                ⟨some 72, .mv (.t 7), none⟩,
                ⟨some 73, .mv (.t 8), none⟩,
                ⟨some 74, .ia 1 (.t 72) (.t 73), none⟩,
                ⟨some 75, .lds (.t 74), none⟩,
                ⟨some 76, .bsl 1 (.int .u64 0) 1 [(0, (.t 75))], none⟩,
                ⟨some 77, .app 1 8 false (.t 71) (.t 76), none⟩,
                ⟨some 6, .mv (.t 77), none⟩])
            (.seq (.prune [0, 5, 6, 7, 8, 9]) (.seq (.reg [
                ⟨some 78, .mv (.t 0), none⟩,
                ⟨some 79, .mv (.t 7), none⟩,
                ⟨some 80, .mv (.t 8), none⟩,
                ⟨some 81, .ia 1 (.t 79) (.t 80), none⟩,
                ⟨some 82, .lds (.t 81), none⟩,
                ⟨some 83, .call false 26 [(.t 78), (.t 82)], none⟩,
                ⟨some 13, .mv (.t 83), none⟩])
            (.seq (.prune [0, 5, 6, 7, 8, 9, 13]) (.seq (.reg [
                ⟨some 84, .mv (.t 5), none⟩,
                ⟨some 85, .mv (.t 9), none⟩,
                ⟨some 86, .cvi .u64 (.t 85), none⟩,
                ⟨some 87, .mv (.t 13), none⟩,
                ⟨some 88, .cvi .u64 (.t 87), none⟩,
                ⟨some 89, .bsl 1 (.int .u64 0) 3 [(0, (.c (.int .u64 2))), (1, (.t 86)), (2, (.t 88))], none⟩,
                ⟨some 90, .app 1 8 false (.t 84) (.t 89), none⟩,
                ⟨some 5, .mv (.t 90), none⟩])
            (.seq (.prune [0, 5, 6, 7, 8, 9, 13]) (.seq (.reg [
                ⟨some 14, .mv (.c (.int .i64 0)), none⟩])
            (.seq (.prune [0, 5, 6, 7, 8, 9, 13, 14]) (.block 4 (.seq (.own 7 none)
              (.seq (.own 5 none)
              (.loop [0, 5, 6, 7, 8, 9, 13, 14] (.seq (.seq (.reg [
                      ⟨some 91, .mv (.t 14), none⟩,
                      ⟨some 92, .mv (.t 13), none⟩,
                      ⟨some 93, .bin .lss (.t 91) (.t 92), none⟩])
                  (.seq (.prune [0, 5, 6, 7, 8, 9, 13, 14, 93]) (.cond (.t 93) (.skip)
                  (.exit 4))))
                (.seq (.prune [0, 5, 6, 7, 8, 9, 13, 14]) (.seq (.block 5 (.seq (.reg [
                        ⟨some 97, .mv (.t 0), none⟩,
                        ⟨some 98, .mv (.t 7), none⟩,
                        ⟨some 99, .mv (.t 8), none⟩,
                        ⟨some 100, .ia 1 (.t 98) (.t 99), none⟩,
                        ⟨some 101, .lds (.t 100), none⟩,
                        ⟨some 102, .mv (.t 14), none⟩,
                        ⟨some 103, .call false 24 [(.t 97), (.t 101), (.t 102)], none⟩,
                        ⟨some 96, .mv (.t 103), none⟩,
                        ⟨some 104, .ext 0 (.t 96), none⟩,
                        ⟨some 105, .ext 1 (.t 96), none⟩,
                        ⟨some 15, .mv (.t 104), none⟩,
                        ⟨some 16, .mv (.t 105), none⟩])
                    (.seq (.prune [0, 5, 6, 7, 8, 9, 13, 14, 15]) (.seq (.reg [
                        ⟨some 106, .mv (.t 9), none⟩,
                        ⟨some 107, .bin .geq (.t 106) (.c (.int .i64 64)), none⟩])
                    (.seq (.prune [0, 5, 6, 7, 8, 9, 13, 14, 15, 107]) (.cond (.t 107) (.reg [
                        ⟨some 108, .mv (.t 5), none⟩,
                        ⟨some 109, .mv (.t 15), none⟩,
                        ⟨some 110, .bsl 1 (.int .u64 0) 1 [(0, (.t 109))], none⟩,
                        ⟨some 111, .app 1 8 false (.t 108) (.t 110), none⟩,
                        ⟨some 5, .mv (.t 111), none⟩])
                    (.reg [
                        ⟨some 112, .mv (.t 7), none⟩,
                        ⟨some 113, .mv (.t 15), none⟩,
                        ⟨some 114, .bsl 1 (.int .u64 0) 1 [(0, (.t 113))], none⟩,
                        ⟨some 115, .app 1 8 false (.t 112) (.t 114), none⟩,
                        ⟨some 7, .mv (.t 115), none⟩])))))))
                (.seq (.prune [0, 5, 6, 7, 8, 9, 13, 14]) (.reg [
                  ⟨some 94, .mv (.t 14), none⟩,
                  ⟨some 95, .bin .add (.t 94) (.c (.int .i64 1)), none⟩,
                  ⟨some 14, .mv (.t 95), none⟩]))))))))))))))))))))))))))))
        (.seq (.prune [0, 5, 6, 7, 8]) (.reg [
          ⟨some 28, .mv (.t 8), none⟩,
          ⟨some 29, .bin .add (.t 28) (.c (.int .i64 1)), none⟩,
          ⟨some 8, .mv (.t 29), none⟩]))))))))))))
  (.seq (.prune [5]) (.seq (.reg [
      ⟨some 116, .mv (.t 5), none⟩,
      ⟨some 4, .mv (.t 116), none⟩])
  (.ret))))))))))))),
  [.t 4]⟩
/-- bezel/heap.Number -/
def a33 : AFunc := ⟨.seq (.reg [
      ⟨some 2, .mv (.c (.int .i64 0)), none⟩,
      ⟨some 3, .mv (.c (.bool false)), none⟩])
  (.seq (.prune [0]) (.seq (.seq (.reg [
        ⟨some 4, .mv (.t 0), none⟩,
        ⟨some 5, .bin .and (.t 4) (.c (.int .u64 3)), none⟩,
        ⟨some 6, .bin .neq (.t 5) (.c (.int .u64 1)), none⟩])
    (.seq (.prune [0, 6]) (.cond (.t 6) (.seq (.reg [
          ⟨some 2, .mv (.c (.int .i64 0)), none⟩,
          ⟨some 3, .mv (.c (.bool false)), none⟩])
      (.ret))
    (.skip))))
  (.seq (.prune [0]) (.seq (.reg [
      ⟨some 7, .mv (.t 0), none⟩,
      ⟨some 8, .cvi .i64 (.t 7), none⟩,
      ⟨some 9, .bin .shr (.t 8) (.c (.int .u64 2)), none⟩,
      ⟨some 2, .mv (.t 9), none⟩,
      ⟨some 3, .mv (.c (.bool true)), none⟩])
  (.ret))))),
  [.t 2, .t 3]⟩
/-- bezel/bezelref08.Number -/
def a34 : AFunc := ⟨.seq (.reg [
      ⟨some 2, .mv (.c (.int .i64 0)), none⟩,
      ⟨some 3, .mv (.c (.bool false)), none⟩])
  (.seq (.prune [0]) (.seq (.seq (.reg [
        ⟨some 5, .mv (.t 0), none⟩,
        ⟨some 6, .bin .rem (.t 5) (.c (.int .u64 4)), none⟩,
        ⟨some 7, .bin .neq (.t 6) (.c (.int .u64 1)), none⟩])
    (.seq (.prune [0, 7]) (.cond (.t 7) (.seq (.reg [
          ⟨some 2, .mv (.c (.int .i64 0)), none⟩,
          ⟨some 3, .mv (.c (.bool false)), none⟩])
      (.ret))
    (.skip))))
  (.seq (.prune [0]) (.seq (.reg [
      ⟨some 8, .mv (.t 0), none⟩,
      ⟨some 9, .bin .quo (.t 8) (.c (.int .u64 4)), none⟩,
      ⟨some 4, .mv (.t 9), none⟩])
  (.seq (.prune [4]) (.seq (.seq (.reg [
        ⟨some 10, .mv (.t 4), none⟩,
        ⟨some 11, .bin .geq (.t 10) (.c (.int .u64 2305843009213693952)), none⟩])
    (.seq (.prune [4, 11]) (.cond (.t 11) (.seq (.reg [
          ⟨some 12, .mv (.t 4), none⟩,
          ⟨some 13, .bin .sub (.c (.int .u64 4611686018427387903)) (.t 12), none⟩,
          ⟨some 14, .cvi .i64 (.t 13), none⟩,
          ⟨some 15, .un .neg (.t 14), none⟩,
          ⟨some 16, .bin .sub (.t 15) (.c (.int .i64 1)), none⟩,
          ⟨some 2, .mv (.t 16), none⟩,
          ⟨some 3, .mv (.c (.bool true)), none⟩])
      (.ret))
    (.skip))))
  (.seq (.prune [4]) (.seq (.reg [
      ⟨some 17, .mv (.t 4), none⟩,
      ⟨some 18, .cvi .i64 (.t 17), none⟩,
      ⟨some 2, .mv (.t 18), none⟩,
      ⟨some 3, .mv (.c (.bool true)), none⟩])
  (.ret))))))))),
  [.t 2, .t 3]⟩
/-- bezel/heap.Now -/
def a35 : AFunc := ⟨.seq (.reg [
      ⟨some 2, .mv (.c (.int .i64 0)), none⟩,
      ⟨some 3, .mv (.c (.bool false)), none⟩])
  (.seq (.prune [0]) (.seq (.reg [
      ⟨some 4, .mv (.t 0), none⟩,
      ⟨some 5, .call false 44 [(.t 4), (.c (.int .u64 2))], none⟩,
      ⟨some 6, .ext 0 (.t 5), none⟩,
      ⟨some 7, .ext 1 (.t 5), none⟩,
      ⟨some 2, .mv (.t 6), none⟩,
      ⟨some 3, .mv (.t 7), none⟩])
  (.ret))),
  [.t 2, .t 3]⟩
/-- bezel/bezelref08.Other -/
def a36 : AFunc := ⟨.seq (.reg [
      ⟨some 4, .mv (.c (.int .i64 0)), none⟩,
      ⟨some 5, .mv (.c (.bool false)), none⟩])
  (.seq (.prune [0, 1]) (.seq (.seq (.reg [
        ⟨some 6, .mv (.t 0), none⟩,
        ⟨some 7, .bin .rem (.t 6) (.c (.int .u64 4)), none⟩,
        ⟨some 8, .mv (.t 1), none⟩,
        ⟨some 9, .bin .neq (.t 7) (.t 8), none⟩])
    (.seq (.prune [0, 9]) (.cond (.t 9) (.seq (.reg [
          ⟨some 4, .mv (.c (.int .i64 0)), none⟩,
          ⟨some 5, .mv (.c (.bool false)), none⟩])
      (.ret))
    (.skip))))
  (.seq (.prune [0]) (.seq (.reg [
      ⟨some 10, .mv (.t 0), none⟩,
      ⟨some 11, .bin .quo (.t 10) (.c (.int .u64 4)), none⟩,
      ⟨some 12, .cvi .i64 (.t 11), none⟩,
      ⟨some 4, .mv (.t 12), none⟩,
      ⟨some 5, .mv (.c (.bool true)), none⟩])
  (.ret))))),
  [.t 4, .t 5]⟩
/-- bezel/heap.Num -/
def a37 : AFunc := ⟨.seq (.reg [
      ⟨some 2, .mv (.c (.int .u64 0)), none⟩])
  (.seq (.prune [0]) (.seq (.reg [
      ⟨some 3, .mv (.t 0), none⟩,
      ⟨some 4, .cvi .u64 (.t 3), none⟩,
      ⟨some 5, .bin .shl (.t 4) (.c (.int .u64 2)), none⟩,
      ⟨some 6, .bin .or (.t 5) (.c (.int .u64 1)), none⟩,
      ⟨some 2, .mv (.t 6), none⟩])
  (.ret))),
  [.t 2]⟩
/-- bezel/bezelref08.Num -/
def a38 : AFunc := ⟨.seq (.reg [
      ⟨some 2, .mv (.c (.int .u64 0)), none⟩])
  (.seq (.prune [0]) (.seq (.reg [
      ⟨some 3, .mv (.t 0), none⟩,
      ⟨some 4, .cvi .u64 (.t 3), none⟩,
      ⟨some 5, .bin .mul (.c (.int .u64 4)) (.t 4), none⟩,
      ⟨some 6, .bin .add (.t 5) (.c (.int .u64 1)), none⟩,
      ⟨some 2, .mv (.t 6), none⟩])
  (.ret))),
  [.t 2]⟩
/-- bezel/heap.Imm -/
def a39 : AFunc := ⟨.seq (.reg [
      ⟨some 2, .mv (.c (.int .u64 0)), none⟩])
  (.seq (.prune [0]) (.seq (.reg [
      ⟨some 3, .mv (.t 0), none⟩,
      ⟨some 4, .cvi .u64 (.t 3), none⟩,
      ⟨some 5, .bin .shl (.t 4) (.c (.int .u64 2)), none⟩,
      ⟨some 6, .bin .or (.t 5) (.c (.int .u64 2)), none⟩,
      ⟨some 2, .mv (.t 6), none⟩])
  (.ret))),
  [.t 2]⟩
/-- (*bezel/heap.Heap).at -/
def a40 : AFunc := ⟨.seq (.reg [
      ⟨some 4, .mv (.c (.int .i64 0)), none⟩])
  (.seq (.prune [0, 1]) (.seq (.reg [
      ⟨some 8, .mv (.t 1), none⟩,
      ⟨some 9, .call false 30 [(.t 8)], none⟩,
      ⟨some 7, .mv (.t 9), none⟩,
      ⟨some 10, .ext 0 (.t 7), none⟩,
      ⟨some 11, .ext 1 (.t 7), none⟩,
      ⟨some 5, .mv (.t 10), none⟩,
      ⟨some 6, .mv (.t 11), none⟩])
  (.seq (.prune [0, 5, 6]) (.seq (.seq (.reg [
        ⟨some 12, .mv (.t 6), none⟩,
        ⟨some 13, .un .not (.t 12), none⟩,
        ⟨some 14, .mv (.t 13), none⟩,
        ⟨some 15, .mv (.t 5), some (14, false)⟩,
        ⟨some 16, .mv (.t 0), some (14, false)⟩,
        ⟨some 17, .nc (.t 16), some (14, false)⟩,
        ⟨some 18, .fa 2 (.t 17), some (14, false)⟩,
        ⟨some 19, .lds (.t 18), some (14, false)⟩,
        ⟨some 20, .len .slice (.t 19), some (14, false)⟩,
        ⟨some 21, .bin .geq (.t 15) (.t 20), some (14, false)⟩,
        ⟨some 22, .pick (.t 14) (.c (.bool true)) (.t 21), none⟩,
        ⟨some 23, .mv (.t 22), none⟩,
        ⟨some 24, .mv (.t 0), some (23, false)⟩,
        ⟨some 25, .nc (.t 24), some (23, false)⟩,
        ⟨some 26, .fa 2 (.t 25), some (23, false)⟩,
        ⟨some 27, .lds (.t 26), some (23, false)⟩,
        ⟨some 28, .mv (.t 5), some (23, false)⟩,
        ⟨some 29, .ia 1 (.t 27) (.t 28), some (23, false)⟩,
        ⟨some 30, .lds (.t 29), some (23, false)⟩,
        ⟨some 31, .un .not (.t 30), some (23, false)⟩,
        ⟨some 32, .pick (.t 23) (.c (.bool true)) (.t 31), none⟩])
    (.seq (.prune [5, 32]) (.cond (.t 32) (.seq (.reg [
          ⟨some 4, .mv (.c (.int .i64 0)), none⟩])
      (.ret))
    (.skip))))
  (.seq (.prune [5]) (.seq (.reg [
      ⟨some 33, .mv (.t 5), none⟩,
      ⟨some 4, .mv (.t 33), none⟩])
  (.ret))))))),
  [.t 4]⟩
/-- (*bezel/bezelref08.Heap).at -/
def a41 : AFunc := ⟨.seq (.reg [
      ⟨some 4, .mv (.c (.int .i64 0)), none⟩])
  (.seq (.prune [0, 1]) (.seq (.seq (.reg [
        ⟨some 5, .mv (.c (.int .i64 0)), none⟩])
    (.seq (.prune [0, 1, 5]) (.block 0 (.loop [0, 1, 5] (.seq (.seq (.reg [
              ⟨some 6, .mv (.t 5), none⟩,
              ⟨some 7, .mv (.t 0), none⟩,
              ⟨some 8, .nc (.t 7), none⟩,
              ⟨some 9, .fa 1 (.t 8), none⟩,
              ⟨some 10, .lds (.t 9), none⟩,
              ⟨some 11, .len .slice (.t 10), none⟩,
              ⟨some 12, .bin .lss (.t 6) (.t 11), none⟩])
          (.seq (.prune [0, 1, 5, 12]) (.cond (.t 12) (.skip)
          (.exit 0))))
        (.seq (.prune [0, 1, 5]) (.seq (.block 1 (.seq (.reg [
                ⟨some 15, .mv (.t 1), none⟩,
                ⟨some 16, .mv (.t 0), none⟩,
                ⟨some 17, .nc (.t 16), none⟩,
                ⟨some 18, .fa 1 (.t 17), none⟩,
                ⟨some 19, .lds (.t 18), none⟩,
                ⟨some 20, .mv (.t 5), none⟩,
                ⟨some 21, .ia 3 (.t 19) (.t 20), none⟩,
                ⟨some 22, .fa 0 (.t 21), none⟩,
                ⟨some 23, .lds (.t 22), none⟩,
                ⟨some 24, .cvi .u64 (.t 23), none⟩,
                ⟨some 25, .bin .mul (.c (.int .u64 4)) (.t 24), none⟩,
                ⟨some 26, .bin .eql (.t 15) (.t 25), none⟩])
            (.seq (.prune [0, 1, 5, 26]) (.cond (.t 26) (.seq (.reg [
                  ⟨some 27, .mv (.t 5), none⟩,
                  ⟨some 4, .mv (.t 27), none⟩])
              (.ret))
            (.skip)))))
        (.seq (.prune [0, 1, 5]) (.reg [
          ⟨some 13, .mv (.t 5), none⟩,
          ⟨some 14, .bin .add (.t 13) (.c (.int .i64 1)), none⟩,
          ⟨some 5, .mv (.t 14), none⟩])))))))))
  (.seq (.prune []) (.seq (.reg [
      ⟨some 4, .mv (.c (.int .i64 (-1))), none⟩])
  (.ret))))),
  [.t 4]⟩
/-- (*bezel/heap.Heap).Collect$1 -/
def a42 : AFunc := ⟨.seq (.reg [
      ⟨some 6, .mv (.c (.int .u64 0)), none⟩])
  (.seq (.prune [0, 1, 2, 3, 4]) (.seq (.reg [
      ⟨some 9, .lds (.t 1), none⟩,
      ⟨some 10, .mv (.t 0), none⟩,
      ⟨some 11, .call false 40 [(.t 9), (.t 10)], none⟩,
      ⟨some 7, .mv (.t 11), none⟩])
  (.seq (.prune [0, 1, 2, 3, 4, 7]) (.seq (.seq (.reg [
        ⟨some 12, .mv (.t 7), none⟩,
        ⟨some 13, .bin .eql (.t 12) (.c (.int .i64 0)), none⟩])
    (.seq (.prune [0, 1, 2, 3, 4, 7, 13]) (.cond (.t 13) (.seq (.reg [
          ⟨some 14, .mv (.t 0), none⟩,
          ⟨some 6, .mv (.t 14), none⟩])
      (.ret))
    (.skip))))
  (.seq (.prune [0, 1, 2, 3, 4, 7]) (.seq (.seq (.reg [
        ⟨some 15, .lds (.t 2), none⟩,
        ⟨some 16, .mv (.t 7), none⟩,
        ⟨some 17, .look false false (.int .i64 0) (.t 15) (.t 16), none⟩,
        ⟨some 18, .bin .eql (.t 17) (.c (.int .i64 0)), none⟩])
    (.seq (.prune [0, 1, 2, 3, 4, 7, 18]) (.cond (.t 18) (.seq (.reg [
          ⟨some 19, .lds (.t 1), none⟩,
          ⟨some 20, .mv (.t 0), none⟩,
          ⟨some 21, .call false 26 [(.t 19), (.t 20)], none⟩,
          ⟨some 22, .bin .add (.t 21) (.c (.int .i64 1)), none⟩,
          ⟨some 8, .mv (.t 22), none⟩])
      (.seq (.prune [1, 2, 3, 4, 7, 8]) (.seq (.draw 0 [
          (⟨some 23, .lds (.t 3), none⟩, 0, []),
          (⟨some 24, .lds (.t 4), none⟩, 0, []),
          (⟨some 25, .slc 1 (.t 23) (some (.t 24)) none none, none⟩, 0, [0, 1]),
          (⟨some 26, .lds (.t 1), none⟩, 0, []),
          (⟨some 27, .nc (.t 26), none⟩, 0, [3]),
          (⟨some 28, .fa 0 (.t 27), none⟩, 0, [3, 4]),
          (⟨some 29, .lds (.t 28), none⟩, 0, [3, 4, 5]),
          (⟨some 30, .mv (.t 7), none⟩, 0, []),
          (⟨some 31, .mv (.t 7), none⟩, 0, []),
          (⟨some 32, .mv (.t 8), none⟩, 0, []),
          (⟨some 33, .bin .add (.t 31) (.t 32), none⟩, 0, [8, 9]),
          (⟨some 34, .slc 1 (.t 29) (some (.t 30)) (some (.t 33)) none, none⟩, 0, [3, 4, 5, 6, 7, 8, 9, 10]),
          (⟨some 35, .copy 1 (.t 25) (.t 34), none⟩, 0, [0, 1, 2, 3, 4, 5, 6, 7, 8, 9, 10, 11])])
      (.seq (.prune [2, 4, 7, 8]) (.seq (.reg [
          ⟨some 36, .lds (.t 2), none⟩,
          ⟨some 37, .mv (.t 7), none⟩,
          ⟨some 38, .lds (.t 4), none⟩,
          ⟨none, .upd false (.t 36) (.t 37) (.t 38), none⟩])
      (.seq (.prune [2, 4, 7, 8]) (.reg [
        ⟨some 39, .lds (.t 4), none⟩,
        ⟨some 40, .mv (.t 8), none⟩,
        ⟨some 41, .bin .add (.t 39) (.t 40), none⟩,
        ⟨none, .sts (.t 4) (.t 41), none⟩])))))))
    (.skip))))
  (.seq (.prune [2, 7]) (.seq (.reg [
      ⟨some 42, .lds (.t 2), none⟩,
      ⟨some 43, .mv (.t 7), none⟩,
      ⟨some 44, .look false false (.int .i64 0) (.t 42) (.t 43), none⟩,
      ⟨some 45, .call false 28 [(.t 44)], none⟩,
      ⟨some 6, .mv (.t 45), none⟩])
  (.ret))))))))),
  [.t 6]⟩
/-- bezel/bezelref08.found -/
def a43 : AFunc := ⟨.seq (.reg [
      ⟨some 4, .mv (.c (.int .i64 0)), none⟩])
  (.seq (.prune [0, 1]) (.seq (.seq (.reg [
        ⟨some 5, .mv (.c (.int .i64 0)), none⟩])
    (.seq (.prune [0, 1, 5]) (.block 0 (.loop [0, 1, 5] (.seq (.seq (.reg [
              ⟨some 6, .mv (.t 5), none⟩,
              ⟨some 7, .mv (.t 0), none⟩,
              ⟨some 8, .len .slice (.t 7), none⟩,
              ⟨some 9, .bin .lss (.t 6) (.t 8), none⟩])
          (.seq (.prune [0, 1, 5, 9]) (.cond (.t 9) (.skip)
          (.exit 0))))
        (.seq (.prune [0, 1, 5]) (.seq (.block 1 (.seq (.reg [
                ⟨some 12, .mv (.t 0), none⟩,
                ⟨some 13, .mv (.t 5), none⟩,
                ⟨some 14, .ia 1 (.t 12) (.t 13), none⟩,
                ⟨some 15, .lds (.t 14), none⟩,
                ⟨some 16, .mv (.t 1), none⟩,
                ⟨some 17, .bin .eql (.t 15) (.t 16), none⟩])
            (.seq (.prune [0, 1, 5, 17]) (.cond (.t 17) (.seq (.reg [
                  ⟨some 18, .mv (.t 5), none⟩,
                  ⟨some 4, .mv (.t 18), none⟩])
              (.ret))
            (.skip)))))
        (.seq (.prune [0, 1, 5]) (.reg [
          ⟨some 10, .mv (.t 5), none⟩,
          ⟨some 11, .bin .add (.t 10) (.c (.int .i64 1)), none⟩,
          ⟨some 5, .mv (.t 11), none⟩])))))))))
  (.seq (.prune []) (.seq (.reg [
      ⟨some 4, .mv (.c (.int .i64 (-1))), none⟩])
  (.ret))))),
  [.t 4]⟩
/-- bezel/heap.other -/
def a44 : AFunc := ⟨.seq (.reg [
      ⟨some 4, .mv (.c (.int .i64 0)), none⟩,
      ⟨some 5, .mv (.c (.bool false)), none⟩])
  (.seq (.prune [0, 1]) (.seq (.seq (.reg [
        ⟨some 6, .mv (.t 0), none⟩,
        ⟨some 7, .bin .and (.t 6) (.c (.int .u64 3)), none⟩,
        ⟨some 8, .mv (.t 1), none⟩,
        ⟨some 9, .bin .neq (.t 7) (.t 8), none⟩])
    (.seq (.prune [0, 9]) (.cond (.t 9) (.seq (.reg [
          ⟨some 4, .mv (.c (.int .i64 0)), none⟩,
          ⟨some 5, .mv (.c (.bool false)), none⟩])
      (.ret))
    (.skip))))
  (.seq (.prune [0]) (.seq (.reg [
      ⟨some 10, .mv (.t 0), none⟩,
      ⟨some 11, .bin .shr (.t 10) (.c (.int .u64 2)), none⟩,
      ⟨some 12, .cvi .i64 (.t 11), none⟩,
      ⟨some 4, .mv (.t 12), none⟩,
      ⟨some 5, .mv (.c (.bool true)), none⟩])
  (.ret))))),
  [.t 4, .t 5]⟩
def tabL : List (Option AFunc) := [none, none, none, some a3, some a4, some a5, some a6, some a7, some a8, some a9, some a10, some a11, some a12, some a13, some a14, some a15, some a16, some a17, some a18, some a19, some a20, some a21, some a22, some a23, some a24, some a25, some a26, some a27, some a28, some a29, some a30, some a31, some a32, some a33, some a34, some a35, some a36, some a37, some a38, some a39, some a40, some a41, some a42, some a43, some a44]
def tab (f : Nat) : Option AFunc := (tabL[f]?).join
end Go.Ev.Seat
