/-
  Part 3 of a proof: ModuleKeeps: for every input the law returns true, and what it was given reads behind the call as before. No conditions beyond the row's own.
-/
import Derived.Test.YtpldpnbnhfcklaaGreatDoorP2
import Derived.Laws.Sem
import Derived.Laws.World
import Derived.Laws.Entries
import Derived.ChangeKeysEq
import Derived.Laws.Strings
import Derived.Laws.CopyRow
import Derived.Laws.Rows
import Derived.Laws.Append
namespace Go.Ev.Seat
set_option maxRecDepth 100000
open Go Go.Ev
def a117 : AFunc := ⟨.seq (.reg [ ⟨some 6, .mv (.c (.bool false)), none⟩]) (.seq (.prune [0, 1, 2]) (.seq (.seq (.reg [ ⟨some 10, .mv (.t 0), none⟩, ⟨some 11, .len .slice (.t 10), none⟩, ⟨some 12, .mv (.t 1), none⟩, ⟨some 13, .len .slice (.t 12), none⟩, ⟨some 14, .bin .neq (.t 11) (.t 13), none⟩]) (.seq (.prune [0, 1, 2, 14]) (.cond (.t 14) (.seq (.reg [ ⟨some 6, .mv (.c (.bool false)), none⟩]) (.ret)) (.skip)))) (.seq (.prune [0, 1, 2]) (.seq (.seq (.reg [ ⟨some 15, .mv (.t 0), none⟩, ⟨some 16, .len .slice (.t 15), none⟩, ⟨some 17, .mv (.c (.int .i64 0)), none⟩]) (.seq (.prune [1, 2, 15, 16, 17]) (.block 0 (.loop [17, 1, 2, 15, 16] (.seq (.reg [ ⟨some 18, .bin .lss (.t 17) (.t 16), none⟩]) (.seq (.prune [1, 2, 15, 16, 17, 18]) (.seq (.cond (.t 18) (.skip) (.exit 0)) (.seq (.prune [1, 2, 15, 16, 17]) (.seq (.block 1 (.seq (.reg [ ⟨some 19, .mv (.t 17), none⟩, ⟨some 20, .ia 6 (.t 15) (.t 17), none⟩, ⟨some 21, .lda 6 (.t 20), none⟩, ⟨some 8, .alloc [.bool false, .int .i64 0, .int .i64 0, .lst [] true, .int .i64 0, .lst [] true], none⟩, ⟨some 7, .mv (.t 19), none⟩, ⟨none, .sta 6 (.t 8) (.t 21), none⟩]) (.seq (.prune [1, 2, 7, 8, 15, 16, 17]) (.seq (.reg [ ⟨some 22, .mv (.t 1), none⟩, ⟨some 23, .mv (.t 7), none⟩, ⟨some 24, .ia 6 (.t 22) (.t 23), none⟩, ⟨some 25, .lda 6 (.t 24), none⟩, ⟨some 9, .alloc [.bool false, .int .i64 0, .int .i64 0, .lst [] true, .int .i64 0, .lst [] true], none⟩, ⟨none, .sta 6 (.t 9) (.t 25), none⟩]) (.seq (.prune [1, 2, 8, 9, 15, 16, 17]) (.seq (.reg [ ⟨some 26, .mv (.t 2), none⟩, ⟨some 27, .lda 6 (.t 8), none⟩, ⟨some 28, .lda 6 (.t 9), none⟩, ⟨some 29, .callv false (.t 26) [(.t 27), (.t 28)], none⟩, ⟨some 30, .un .not (.t 29), none⟩]) (.seq (.prune [1, 2, 15, 16, 17, 30]) (.cond (.t 30) (.seq (.reg [ ⟨some 6, .mv (.c (.bool false)), none⟩]) (.ret)) (.skip))))))))) (.seq (.prune [1, 2, 15, 16, 17]) (.reg [ ⟨some 31, .bin .add (.t 17) (.c (.int .i64 1)), none⟩, ⟨some 17, .mv (.t 31), none⟩]))))))))))) (.seq (.prune []) (.seq (.reg [ ⟨some 6, .mv (.c (.bool true)), none⟩]) (.ret))))))), [.t 6]⟩
def a118 : AFunc := ⟨.seq (.reg [ ⟨some 2, .box (.t 0), none⟩, ⟨some 3, .box (.t 1), none⟩, ⟨some 4, .mv (.c (.bool false)), none⟩]) (.seq (.prune [2, 3]) (.seq (.reg [ ⟨some 5, .fa 0 (.t 2), none⟩, ⟨some 6, .lds (.t 5), none⟩, ⟨some 7, .fa 0 (.t 3), none⟩, ⟨some 8, .lds (.t 7), none⟩, ⟨some 9, .eqv false .bool (.t 6) (.t 8), none⟩, ⟨some 10, .mv (.t 9), none⟩, ⟨some 11, .fa 1 (.t 2), some (10, true)⟩, ⟨some 12, .lds (.t 11), some (10, true)⟩, ⟨some 13, .fa 1 (.t 3), some (10, true)⟩, ⟨some 14, .lds (.t 13), some (10, true)⟩, ⟨some 15, .bin .eql (.t 12) (.t 14), some (10, true)⟩, ⟨some 16, .pick (.t 10) (.t 15) (.c (.bool false)), none⟩, ⟨some 17, .mv (.t 16), none⟩, ⟨some 18, .fa 2 (.t 2), some (17, true)⟩, ⟨some 19, .lds (.t 18), some (17, true)⟩, ⟨some 20, .fa 2 (.t 3), some (17, true)⟩, ⟨some 21, .lds (.t 20), some (17, true)⟩, ⟨some 22, .bin .eql (.t 19) (.t 21), some (17, true)⟩, ⟨some 23, .pick (.t 17) (.t 22) (.c (.bool false)), none⟩, ⟨some 24, .mv (.t 23), none⟩, ⟨some 25, .fa 4 (.t 2), some (24, true)⟩, ⟨some 26, .lds (.t 25), some (24, true)⟩, ⟨some 27, .fa 4 (.t 3), some (24, true)⟩, ⟨some 28, .lds (.t 27), some (24, true)⟩, ⟨some 29, .bin .eql (.t 26) (.t 28), some (24, true)⟩, ⟨some 30, .pick (.t 24) (.t 29) (.c (.bool false)), none⟩, ⟨some 31, .mv (.t 30), none⟩, ⟨some 32, .fa 3 (.t 2), some (31, true)⟩, ⟨some 33, .lds (.t 32), some (31, true)⟩, ⟨some 34, .fa 3 (.t 3), some (31, true)⟩, ⟨some 35, .lds (.t 34), some (31, true)⟩, ⟨some 36, .call false 117 [(.t 33), (.t 35), (.c (.fn 118 []))], some (31, true)⟩, ⟨some 37, .pick (.t 31) (.t 36) (.c (.bool false)), none⟩, ⟨some 38, .mv (.t 37), none⟩, ⟨some 39, .fa 5 (.t 2), some (38, true)⟩, ⟨some 40, .lds (.t 39), some (38, true)⟩, ⟨some 41, .fa 5 (.t 3), some (38, true)⟩, ⟨some 42, .lds (.t 41), some (38, true)⟩, ⟨some 43, .call false 117 [(.t 40), (.t 42), (.c (.fn 118 []))], some (38, true)⟩, ⟨some 44, .pick (.t 38) (.t 43) (.c (.bool false)), none⟩, ⟨some 4, .mv (.t 44), none⟩]) (.ret))), [.t 4]⟩
def a119 : AFunc := ⟨.seq (.reg [ ⟨some 2, .mv (.c (.lst [] true)), none⟩]) (.seq (.prune [0]) (.seq (.reg [ ⟨some 3, .mv (.c (.int .i64 0)), none⟩]) (.seq (.prune [0, 3]) (.seq (.seq (.reg [ ⟨some 9, .mv (.t 0), none⟩, ⟨some 10, .len .slice (.t 9), none⟩, ⟨some 11, .mv (.c (.int .i64 0)), none⟩]) (.seq (.prune [0, 3, 9, 10, 11]) (.block 0 (.loop [3, 11, 0, 9, 10] (.seq (.reg [ ⟨some 12, .bin .lss (.t 11) (.t 10), none⟩]) (.seq (.prune [0, 3, 9, 10, 11, 12]) (.seq (.cond (.t 12) (.skip) (.exit 0)) (.seq (.prune [0, 3, 9, 10, 11]) (.seq (.block 1 (.seq (.reg [ ⟨some 13, .ia 1 (.t 9) (.t 11), none⟩, ⟨some 14, .lds (.t 13), none⟩, ⟨some 5, .mv (.t 14), none⟩]) (.seq (.prune [0, 3, 5, 9, 10, 11]) (.seq (.reg [ ⟨some 15, .mv (.t 3), none⟩, ⟨some 16, .mv (.t 5), none⟩, ⟨some 17, .len .slice (.t 16), none⟩, ⟨some 18, .bin .add (.t 15) (.t 17), none⟩, ⟨some 3, .mv (.t 18), none⟩]) (.seq (.prune [0, 3, 9, 10, 11]) (.seq (.reg [ ⟨some 19, .mv (.t 3), none⟩, ⟨some 20, .bin .lss (.t 19) (.c (.int .i64 0)), none⟩]) (.seq (.prune [0, 3, 9, 10, 11, 20]) (.cond (.t 20) (.reg [ ⟨some 21, .mki 9 (.c (.str [108, 101, 110, 32, 111, 117, 116, 32, 111, 102, 32, 114, 97, 110, 103, 101])), none⟩, ⟨none, .panic (.t 21), none⟩]) (.skip))))))))) (.seq (.prune [0, 3, 9, 10, 11]) (.reg [ ⟨some 22, .bin .add (.t 11) (.c (.int .i64 1)), none⟩, ⟨some 11, .mv (.t 22), none⟩]))))))))))) (.seq (.prune [0, 3]) (.seq (.reg [ ⟨some 23, .mv (.t 3), none⟩, ⟨some 24, .call true 133 [(.c (.lst [] true)), (.t 23)], none⟩, ⟨some 6, .mv (.t 24), none⟩]) (.seq (.prune [0, 6]) (.seq (.seq (.reg [ ⟨some 25, .mv (.t 0), none⟩, ⟨some 26, .len .slice (.t 25), none⟩, ⟨some 27, .mv (.c (.int .i64 0)), none⟩]) (.seq (.prune [6, 25, 26, 27]) (.block 2 (.seq (.own 6 none) (.loop [6, 27, 25, 26] (.seq (.reg [ ⟨some 28, .bin .lss (.t 27) (.t 26), none⟩]) (.seq (.prune [6, 25, 26, 27, 28]) (.seq (.cond (.t 28) (.skip) (.exit 2)) (.seq (.prune [6, 25, 26, 27]) (.seq (.block 3 (.seq (.reg [ ⟨some 29, .ia 1 (.t 25) (.t 27), none⟩, ⟨some 30, .lds (.t 29), none⟩, ⟨some 8, .mv (.t 30), none⟩]) (.seq (.prune [6, 8, 25, 26, 27]) (.reg [ ⟨some 31, .mv (.t 6), none⟩, ⟨some 32, .mv (.t 8), none⟩, ⟨some 33, .app 6 80 false (.t 31) (.t 32), none⟩, ⟨some 6, .mv (.t 33), none⟩])))) (.seq (.prune [6, 25, 26, 27]) (.reg [ ⟨some 34, .bin .add (.t 27) (.c (.int .i64 1)), none⟩, ⟨some 27, .mv (.t 34), none⟩])))))))))))) (.seq (.prune [6]) (.seq (.reg [ ⟨some 35, .mv (.t 6), none⟩, ⟨some 2, .mv (.t 35), none⟩]) (.ret))))))))))), [.t 2]⟩
def a120 : AFunc := ⟨.seq (.reg [ ⟨some 2, .box (.t 0), none⟩, ⟨some 3, .mv (.c (.bool false)), none⟩]) (.seq (.prune [1, 2]) (.seq (.reg [ ⟨some 4, .lda 6 (.t 2), none⟩, ⟨some 5, .lds (.t 1), none⟩, ⟨some 6, .bin .sub (.t 5) (.c (.int .i64 1)), none⟩, ⟨some 7, .call false 94 [(.t 4), (.t 6)], none⟩, ⟨some 8, .un .not (.t 7), none⟩, ⟨some 3, .mv (.t 8), none⟩]) (.ret))), [.t 3]⟩
def a121 : AFunc := ⟨.seq (.reg [ ⟨some 4, .mv (.c (.bool false)), none⟩]) (.seq (.prune [0, 1]) (.seq (.reg [ ⟨some 5, .mv (.t 0), none⟩, ⟨some 6, .mv (.t 1), none⟩, ⟨some 7, .call false 134 [(.t 5), (.t 6)], none⟩, ⟨some 8, .bin .geq (.t 7) (.c (.int .i64 0)), none⟩, ⟨some 4, .mv (.t 8), none⟩]) (.ret))), [.t 4]⟩
def a124 : AFunc := ⟨.seq (.stmt [0, 1] [] (.reg [ ⟨some 4, .mv (.c (.int .i64 0)), none⟩])) (.seq (.reg [ ⟨some 5, .mv (.t 0), none⟩, ⟨some 6, .mv (.t 1), none⟩, ⟨some 7, .call false 86 [(.t 5), (.t 6)], none⟩, ⟨some 4, .mv (.t 7), none⟩]) (.ret)), [.t 4]⟩
def a125 : AFunc := ⟨.seq (.stmt [0, 1] [] (.reg [ ⟨some 4, .mv (.c (.nili)), none⟩])) (.seq (.stmt [0, 1] [] (.reg [ ⟨some 5, .mv (.t 0), none⟩, ⟨some 6, .call false 127 [(.t 5)], none⟩])) (.seq (.stmt [] [] (.reg [ ⟨some 7, .mv (.t 0), none⟩, ⟨some 8, .mv (.t 0), none⟩, ⟨some 9, .nc (.t 8), none⟩, ⟨some 10, .fa 1 (.t 9), none⟩, ⟨some 11, .lds (.t 10), none⟩, ⟨some 12, .mv (.t 1), none⟩, ⟨some 13, .bsl 1 (.int .u8 0) 1 [(0, (.t 12))], none⟩, ⟨some 14, .app 1 1 false (.t 11) (.t 13), none⟩, ⟨some 15, .nc (.t 7), none⟩, ⟨some 16, .fa 1 (.t 15), none⟩, ⟨none, .sts (.t 16) (.t 14), none⟩])) (.seq (.reg [ ⟨some 4, .mv (.c (.nili)), none⟩]) (.ret)))), [.t 4]⟩
def a126 : AFunc := ⟨.seq (.stmt [0, 1] [] (.reg [ ⟨some 4, .mv (.c (.str [])), none⟩])) (.seq (.stmt [0, 1] [] (.seq (.stmt [0, 1, 12] [] (.reg [ ⟨some 7, .mv (.t 0), none⟩, ⟨some 8, .bin .eql (.t 7) (.c (.str [])), none⟩, ⟨some 9, .mv (.t 8), none⟩, ⟨some 10, .mv (.t 1), some (9, false)⟩, ⟨some 11, .bin .eql (.t 10) (.c (.str [])), some (9, false)⟩, ⟨some 12, .pick (.t 9) (.c (.bool true)) (.t 11), none⟩])) (.cond (.t 12) (.seq (.reg [ ⟨some 13, .mv (.t 0), none⟩, ⟨some 4, .mv (.t 13), none⟩]) (.ret)) (.skip)))) (.seq (.stmt [0, 1] [] (.seq (.stmt [0, 1, 21] [] (.reg [ ⟨some 14, .mv (.t 1), none⟩, ⟨some 15, .len .str (.t 14), none⟩, ⟨some 16, .bin .eql (.t 15) (.c (.int .i64 1)), none⟩, ⟨some 17, .mv (.t 16), none⟩, ⟨some 18, .mv (.t 1), some (17, true)⟩, ⟨some 19, .ixs (.t 18) (.c (.int .i64 0)), some (17, true)⟩, ⟨some 20, .bin .lss (.t 19) (.c (.int .u8 128)), some (17, true)⟩, ⟨some 21, .pick (.t 17) (.t 20) (.c (.bool false)), none⟩])) (.cond (.t 21) (.seq (.draw 0 [ (⟨some 22, .mv (.t 0), none⟩, 0, []), (⟨some 23, .mv (.t 1), none⟩, 0, []), (⟨some 24, .ixs (.t 23) (.c (.int .i64 0)), none⟩, 0, [1]), (⟨some 25, .call false 138 [(.t 22), (.t 24)], none⟩, 0, [0, 1, 2]), (⟨some 26, .mv (.t 1), none⟩, 0, []), (⟨some 27, .ixs (.t 26) (.c (.int .i64 0)), none⟩, 0, [4]), (⟨some 28, .call false 106 [(.t 25), (.t 27)], none⟩, 0, [0, 1, 2, 3, 4, 5]), (⟨some 4, .mv (.t 28), none⟩, 0, [0, 1, 2, 3, 4, 5, 6])]) (.ret)) (.skip)))) (.seq (.stmt [0, 1] [] (.seq (.stmt [0, 1, 5, 6] [] (.reg [ ⟨some 30, .mv (.t 1), none⟩, ⟨some 31, .call false 107 [(.t 30)], none⟩, ⟨some 29, .mv (.t 31), none⟩, ⟨some 32, .ext 0 (.t 29), none⟩, ⟨some 33, .ext 1 (.t 29), none⟩, ⟨some 5, .alloc [.bool false, .bool false, .bool false, .bool false, .bool false, .bool false, .bool false, .bool false, .bool false, .bool false, .bool false, .bool false, .bool false, .bool false, .bool false, .bool false, .bool false, .bool false, .bool false, .bool false, .bool false, .bool false, .bool false, .bool false, .bool false, .bool false, .bool false, .bool false, .bool false, .bool false, .bool false, .bool false, .bool false, .bool false, .bool false, .bool false, .bool false, .bool false, .bool false, .bool false, .bool false, .bool false, .bool false, .bool false, .bool false, .bool false, .bool false, .bool false, .bool false, .bool false, .bool false, .bool false, .bool false, .bool false, .bool false, .bool false, .bool false, .bool false, .bool false, .bool false, .bool false, .bool false, .bool false, .bool false, .bool false, .bool false, .bool false, .bool false, .bool false, .bool false, .bool false, .bool false, .bool false, .bool false, .bool false, .bool false, .bool false, .bool false, .bool false, .bool false, .bool false, .bool false, .bool false, .bool false, .bool false, .bool false, .bool false, .bool false, .bool false, .bool false, .bool false, .bool false, .bool false, .bool false, .bool false, .bool false, .bool false, .bool false, .bool false, .bool false, .bool false, .bool false, .bool false, .bool false, .bool false, .bool false, .bool false, .bool false, .bool false, .bool false, .bool false, .bool false, .bool false, .bool false, .bool false, .bool false, .bool false, .bool false, .bool false, .bool false, .bool false, .bool false, .bool false, .bool false, .bool false, .bool false, .bool false, .bool false, .bool false, .bool false, .bool false, .bool false, .bool false, .bool false, .bool false, .bool false, .bool false, .bool false, .bool false, .bool false, .bool false, .bool false, .bool false, .bool false, .bool false, .bool false, .bool false, .bool false, .bool false, .bool false, .bool false, .bool false, .bool false, .bool false, .bool false, .bool false, .bool false, .bool false, .bool false, .bool false, .bool false, .bool false, .bool false, .bool false, .bool false, .bool false, .bool false, .bool false, .bool false, .bool false, .bool false, .bool false, .bool false, .bool false, .bool false, .bool false, .bool false, .bool false, .bool false, .bool false, .bool false, .bool false, .bool false, .bool false, .bool false, .bool false, .bool false, .bool false, .bool false, .bool false, .bool false, .bool false, .bool false, .bool false, .bool false, .bool false, .bool false, .bool false, .bool false, .bool false, .bool false, .bool false, .bool false, .bool false, .bool false, .bool false, .bool false, .bool false, .bool false, .bool false, .bool false, .bool false, .bool false, .bool false, .bool false, .bool false, .bool false, .bool false, .bool false, .bool false, .bool false, .bool false, .bool false, .bool false, .bool false, .bool false, .bool false, .bool false, .bool false, .bool false, .bool false, .bool false, .bool false, .bool false, .bool false, .bool false, .bool false, .bool false, .bool false, .bool false, .bool false, .bool false, .bool false, .bool false, .bool false, .bool false, .bool false, .bool false, .bool false, .bool false, .bool false, .bool false, .bool false, .bool false, .bool false, .bool false], none⟩, ⟨none, .sta 256 (.t 5) (.t 32), none⟩, ⟨some 6, .mv (.t 33), none⟩])) (.seq (.stmt [0, 1, 5, 34] [] (.reg [ ⟨some 34, .mv (.t 6), none⟩])) (.cond (.t 34) (.seq (.reg [ ⟨some 35, .mv (.t 0), none⟩, ⟨some 36, .call false 139 [(.t 35), (.t 5)], none⟩, ⟨some 37, .call false 108 [(.t 36), (.t 5)], none⟩, ⟨some 4, .mv (.t 37), none⟩]) (.ret)) (.skip))))) (.seq (.reg [ ⟨some 38, .mv (.t 0), none⟩, ⟨some 39, .mv (.t 1), none⟩, ⟨some 40, .call false 140 [(.t 38), (.t 39)], none⟩, ⟨some 41, .mv (.t 1), none⟩, ⟨some 42, .call false 109 [(.t 40), (.t 41)], none⟩, ⟨some 4, .mv (.t 42), none⟩]) (.ret))))), [.t 4]⟩
def a128 : AFunc := ⟨.seq (.stmt [0, 4] [(4, none)] (.draw 0 [ (⟨some 5, .mv (.t 0), none⟩, 0, []), (⟨some 6, .nc (.t 5), none⟩, 0, [0]), (⟨some 7, .fa 1 (.t 6), none⟩, 0, [0, 1]), (⟨some 8, .lds (.t 7), none⟩, 0, [0, 1, 2]), (⟨some 9, .cap (.t 8), none⟩, 0, [0, 1, 2, 3]), (⟨some 10, .bin .mul (.c (.int .i64 2)) (.t 9), none⟩, 0, [0, 1, 2, 3, 4]), (⟨some 11, .mv (.t 1), none⟩, 0, []), (⟨some 12, .bin .add (.t 10) (.t 11), none⟩, 0, [0, 1, 2, 3, 4, 5, 6]), (⟨some 13, .call false 142 [(.t 12)], none⟩, 0, [0, 1, 2, 3, 4, 5, 6, 7]), (⟨some 14, .mv (.t 0), none⟩, 0, []), (⟨some 15, .nc (.t 14), none⟩, 0, [9]), (⟨some 16, .fa 1 (.t 15), none⟩, 0, [9, 10]), (⟨some 17, .lds (.t 16), none⟩, 0, [9, 10, 11]), (⟨some 18, .len .slice (.t 17), none⟩, 0, [9, 10, 11, 12]), (⟨some 19, .slc 1 (.t 13) none (some (.t 18)) none, none⟩, 0, [0, 1, 2, 3, 4, 5, 6, 7, 8, 9, 10, 11, 12, 13]), (⟨some 4, .mv (.t 19), none⟩, 0, [0, 1, 2, 3, 4, 5, 6, 7, 8, 9, 10, 11, 12, 13, 14])])) (.seq (.stmt [0, 4] [] (.reg [ ⟨some 20, .mv (.t 4), none⟩, ⟨some 21, .mv (.t 0), none⟩, ⟨some 22, .nc (.t 21), none⟩, ⟨some 23, .fa 1 (.t 22), none⟩, ⟨some 24, .lds (.t 23), none⟩, ⟨some 25, .copy 1 (.t 20) (.t 24), none⟩])) (.reg [ ⟨some 26, .mv (.t 0), none⟩, ⟨some 27, .mv (.t 4), none⟩, ⟨some 28, .nc (.t 26), none⟩, ⟨some 29, .fa 1 (.t 28), none⟩, ⟨none, .sts (.t 29) (.t 27), none⟩])), []⟩
def a129 : AFunc := ⟨.seq (.stmt [0, 1] [] (.reg [ ⟨some 4, .mv (.c (.bool false)), none⟩])) (.seq (.reg [ ⟨some 5, .mv (.t 0), none⟩, ⟨some 6, .len .str (.t 5), none⟩, ⟨some 7, .mv (.t 1), none⟩, ⟨some 8, .len .str (.t 7), none⟩, ⟨some 9, .bin .geq (.t 6) (.t 8), none⟩, ⟨some 10, .mv (.t 9), none⟩, ⟨some 11, .mv (.t 0), some (10, true)⟩, ⟨some 12, .mv (.t 1), some (10, true)⟩, ⟨some 13, .len .str (.t 12), some (10, true)⟩, ⟨some 14, .slcs (.t 11) none (some (.t 13)), some (10, true)⟩, ⟨some 15, .mv (.t 1), some (10, true)⟩, ⟨some 16, .bin .eql (.t 14) (.t 15), some (10, true)⟩, ⟨some 17, .pick (.t 10) (.t 16) (.c (.bool false)), none⟩, ⟨some 4, .mv (.t 17), none⟩]) (.ret)), [.t 4]⟩
def a130 : AFunc := ⟨.seq (.stmt [0, 1] [] (.reg [ ⟨some 4, .mv (.c (.bool false)), none⟩])) (.seq (.reg [ ⟨some 5, .mv (.t 0), none⟩, ⟨some 6, .mv (.t 1), none⟩, ⟨some 7, .nc (.t 5), none⟩, ⟨some 8, .iaa 256 1 (.t 7) (.t 6), none⟩, ⟨some 9, .lds (.t 8), none⟩, ⟨some 4, .mv (.t 9), none⟩]) (.ret)), [.t 4]⟩
def a131 : AFunc := ⟨.seq (.stmt [0] [] (.reg [ ⟨some 2, .mv (.c (.int .i32 0)), none⟩, ⟨some 3, .mv (.c (.int .i64 0)), none⟩])) (.seq (.seq (.stmt [0, 10] [] (.reg [ ⟨some 4, .mv (.t 0), none⟩, ⟨some 5, .bin .neq (.t 4) (.c (.str [])), none⟩, ⟨some 6, .mv (.t 5), none⟩, ⟨some 7, .mv (.t 0), some (6, true)⟩, ⟨some 8, .ixs (.t 7) (.c (.int .i64 0)), some (6, true)⟩, ⟨some 9, .bin .lss (.t 8) (.c (.int .u8 128)), some (6, true)⟩, ⟨some 10, .pick (.t 6) (.t 9) (.c (.bool false)), none⟩])) (.cond (.t 10) (.seq (.reg [ ⟨some 11, .mv (.t 0), none⟩, ⟨some 12, .ixs (.t 11) (.c (.int .i64 0)), none⟩, ⟨some 13, .cvi .i32 (.t 12), none⟩, ⟨some 2, .mv (.t 13), none⟩, ⟨some 3, .mv (.c (.int .i64 1)), none⟩]) (.ret)) (.reg [ ⟨some 15, .mv (.t 0), none⟩, ⟨some 16, .call false 143 [(.t 15)], none⟩, ⟨some 14, .mv (.t 16), none⟩, ⟨some 17, .ext 0 (.t 14), none⟩, ⟨some 18, .ext 1 (.t 14), none⟩, ⟨some 2, .mv (.t 17), none⟩, ⟨some 3, .mv (.t 18), none⟩]))) (.ret)), [.t 2, .t 3]⟩
def a132 : AFunc := ⟨.seq (.stmt [0, 1] [] (.reg [ ⟨some 4, .mv (.c (.bool false)), none⟩])) (.seq (.reg [ ⟨some 5, .mv (.t 0), none⟩, ⟨some 6, .mv (.t 1), none⟩, ⟨some 7, .call false 144 [(.t 5), (.t 6)], none⟩, ⟨some 8, .bin .geq (.t 7) (.c (.int .i64 0)), none⟩, ⟨some 4, .mv (.t 8), none⟩]) (.ret)), [.t 4]⟩
def a133 : AFunc := ⟨.seq (.reg [ ⟨some 4, .mv (.c (.lst [] true)), none⟩]) (.seq (.prune [0, 1]) (.seq (.seq (.reg [ ⟨some 5, .mv (.t 1), none⟩, ⟨some 6, .bin .lss (.t 5) (.c (.int .i64 0)), none⟩]) (.seq (.prune [0, 1, 6]) (.cond (.t 6) (.reg [ ⟨some 7, .mki 9 (.c (.str [99, 97, 110, 110, 111, 116, 32, 98, 101, 32, 110, 101, 103, 97, 116, 105, 118, 101])), none⟩, ⟨none, .panic (.t 7), none⟩]) (.skip)))) (.seq (.prune [0, 1]) (.seq (.seq (.reg [ ⟨some 8, .mv (.t 1), none⟩, ⟨some 9, .mv (.t 0), none⟩, ⟨some 10, .cap (.t 9), none⟩, ⟨some 11, .mv (.t 0), none⟩, ⟨some 12, .len .slice (.t 11), none⟩, ⟨some 13, .bin .sub (.t 10) (.t 12), none⟩, ⟨some 14, .bin .sub (.t 8) (.t 13), none⟩, ⟨some 1, .mv (.t 14), none⟩]) (.seq (.prune [0, 1]) (.seq (.reg [ ⟨some 15, .mv (.t 1), none⟩, ⟨some 16, .bin .gtr (.t 15) (.c (.int .i64 0)), none⟩]) (.seq (.prune [0, 1, 16]) (.cond (.t 16) (.reg [ ⟨some 17, .mv (.t 0), none⟩, ⟨some 18, .mv (.t 0), none⟩, ⟨some 19, .cap (.t 18), none⟩, ⟨some 20, .slc 6 (.t 17) none (some (.t 19)) none, none⟩, ⟨some 21, .mv (.t 1), none⟩, ⟨some 22, .appz 6 80 (.agg [.bool false, .int .i64 0, .int .i64 0, .lst [] true, .int .i64 0, .lst [] true]) (.t 20) (.t 21), none⟩, ⟨some 23, .mv (.t 0), none⟩, ⟨some 24, .len .slice (.t 23), none⟩, ⟨some 25, .slc 6 (.t 22) none (some (.t 24)) none, none⟩, ⟨some 0, .mv (.t 25), none⟩]) (.skip)))))) (.seq (.prune [0]) (.seq (.reg [ ⟨some 26, .mv (.t 0), none⟩, ⟨some 4, .mv (.t 26), none⟩]) (.ret))))))), [.t 4]⟩
def a134 : AFunc := ⟨.seq (.reg [ ⟨some 4, .mv (.c (.int .i64 0)), none⟩]) (.seq (.prune [0, 1]) (.seq (.seq (.reg [ ⟨some 6, .mv (.t 0), none⟩, ⟨some 7, .len .slice (.t 6), none⟩, ⟨some 8, .mv (.c (.int .i64 0)), none⟩]) (.seq (.prune [0, 1, 7, 8]) (.block 0 (.loop [8, 0, 1, 7] (.seq (.reg [ ⟨some 9, .bin .lss (.t 8) (.t 7), none⟩]) (.seq (.prune [0, 1, 7, 8, 9]) (.seq (.cond (.t 9) (.skip) (.exit 0)) (.seq (.prune [0, 1, 7, 8]) (.seq (.block 1 (.seq (.reg [ ⟨some 10, .mv (.t 8), none⟩, ⟨some 5, .mv (.t 10), none⟩]) (.seq (.prune [0, 1, 5, 7, 8]) (.seq (.reg [ ⟨some 11, .mv (.t 1), none⟩, ⟨some 12, .mv (.t 0), none⟩, ⟨some 13, .mv (.t 5), none⟩, ⟨some 14, .ia 6 (.t 12) (.t 13), none⟩, ⟨some 15, .lda 6 (.t 14), none⟩, ⟨some 16, .callv false (.t 11) [(.t 15)], none⟩]) (.seq (.prune [0, 1, 5, 7, 8, 16]) (.cond (.t 16) (.seq (.reg [ ⟨some 17, .mv (.t 5), none⟩, ⟨some 4, .mv (.t 17), none⟩]) (.ret)) (.skip))))))) (.seq (.prune [0, 1, 7, 8]) (.reg [ ⟨some 18, .bin .add (.t 8) (.c (.int .i64 1)), none⟩, ⟨some 8, .mv (.t 18), none⟩]))))))))))) (.seq (.prune []) (.seq (.reg [ ⟨some 4, .mv (.c (.int .i64 (-1))), none⟩]) (.ret))))), [.t 4]⟩
def a138 : AFunc := ⟨.seq (.stmt [0, 1] [] (.reg [ ⟨some 4, .mv (.c (.str [])), none⟩])) (.seq (.stmt [0] [] (.block 0 (.loop [0, 1] (.seq (.stmt [0, 1] [] (.seq (.stmt [0, 1, 16] [] (.reg [ ⟨some 5, .mv (.t 0), none⟩, ⟨some 6, .len .str (.t 5), none⟩, ⟨some 7, .bin .gtr (.t 6) (.c (.int .i64 0)), none⟩, ⟨some 8, .mv (.t 7), none⟩, ⟨some 9, .mv (.t 0), some (8, true)⟩, ⟨some 10, .mv (.t 0), some (8, true)⟩, ⟨some 11, .len .str (.t 10), some (8, true)⟩, ⟨some 12, .bin .sub (.t 11) (.c (.int .i64 1)), some (8, true)⟩, ⟨some 13, .ixs (.t 9) (.t 12), some (8, true)⟩, ⟨some 14, .mv (.t 1), some (8, true)⟩, ⟨some 15, .bin .eql (.t 13) (.t 14), some (8, true)⟩, ⟨some 16, .pick (.t 8) (.t 15) (.c (.bool false)), none⟩])) (.cond (.t 16) (.skip) (.exit 0)))) (.block 1 (.reg [ ⟨some 17, .mv (.t 0), none⟩, ⟨some 18, .mv (.t 0), none⟩, ⟨some 19, .len .str (.t 18), none⟩, ⟨some 20, .bin .sub (.t 19) (.c (.int .i64 1)), none⟩, ⟨some 21, .slcs (.t 17) none (some (.t 20)), none⟩, ⟨some 0, .mv (.t 21), none⟩])))))) (.seq (.reg [ ⟨some 22, .mv (.t 0), none⟩, ⟨some 4, .mv (.t 22), none⟩]) (.ret))), [.t 4]⟩
def a139 : AFunc := ⟨.seq (.stmt [0, 1] [] (.reg [ ⟨some 4, .mv (.c (.str [])), none⟩])) (.seq (.stmt [0] [] (.block 0 (.loop [0, 1] (.seq (.stmt [0, 1] [] (.seq (.stmt [0, 1, 7] [] (.reg [ ⟨some 5, .mv (.t 0), none⟩, ⟨some 6, .len .str (.t 5), none⟩, ⟨some 7, .bin .gtr (.t 6) (.c (.int .i64 0)), none⟩])) (.cond (.t 7) (.skip) (.exit 0)))) (.block 1 (.seq (.stmt [0, 1] [] (.seq (.stmt [0, 1, 15] [] (.reg [ ⟨some 8, .mv (.t 1), none⟩, ⟨some 9, .mv (.t 0), none⟩, ⟨some 10, .mv (.t 0), none⟩, ⟨some 11, .len .str (.t 10), none⟩, ⟨some 12, .bin .sub (.t 11) (.c (.int .i64 1)), none⟩, ⟨some 13, .ixs (.t 9) (.t 12), none⟩, ⟨some 14, .call false 130 [(.t 8), (.t 13)], none⟩, ⟨some 15, .un .not (.t 14), none⟩])) (.cond (.t 15) (.exit 0) (.skip)))) (.reg [ ⟨some 16, .mv (.t 0), none⟩, ⟨some 17, .mv (.t 0), none⟩, ⟨some 18, .len .str (.t 17), none⟩, ⟨some 19, .bin .sub (.t 18) (.c (.int .i64 1)), none⟩, ⟨some 20, .slcs (.t 16) none (some (.t 19)), none⟩, ⟨some 0, .mv (.t 20), none⟩]))))))) (.seq (.reg [ ⟨some 21, .mv (.t 0), none⟩, ⟨some 4, .mv (.t 21), none⟩]) (.ret))), [.t 4]⟩
def a140 : AFunc := ⟨.seq (.stmt [0, 1] [] (.reg [ ⟨some 4, .mv (.c (.str [])), none⟩])) (.seq (.stmt [0] [] (.block 0 (.loop [0, 1] (.seq (.stmt [0, 1] [] (.seq (.stmt [0, 1, 9] [] (.reg [ ⟨some 7, .mv (.t 0), none⟩, ⟨some 8, .len .str (.t 7), none⟩, ⟨some 9, .bin .gtr (.t 8) (.c (.int .i64 0)), none⟩])) (.cond (.t 9) (.skip) (.exit 0)))) (.block 1 (.seq (.stmt [0, 1, 5, 6] [] (.reg [ ⟨some 10, .mv (.t 0), none⟩, ⟨some 11, .mv (.t 0), none⟩, ⟨some 12, .len .str (.t 11), none⟩, ⟨some 13, .bin .sub (.t 12) (.c (.int .i64 1)), none⟩, ⟨some 14, .ixs (.t 10) (.t 13), none⟩, ⟨some 15, .cvi .i32 (.t 14), none⟩, ⟨some 5, .mv (.t 15), none⟩, ⟨some 6, .mv (.c (.int .i64 1)), none⟩])) (.seq (.stmt [0, 1, 5, 6] [] (.seq (.stmt [0, 1, 5, 6, 17] [] (.reg [ ⟨some 16, .mv (.t 5), none⟩, ⟨some 17, .bin .geq (.t 16) (.c (.int .i32 128)), none⟩])) (.cond (.t 17) (.reg [ ⟨some 19, .mv (.t 0), none⟩, ⟨some 20, .call false 151 [(.t 19)], none⟩, ⟨some 18, .mv (.t 20), none⟩, ⟨some 21, .ext 0 (.t 18), none⟩, ⟨some 22, .ext 1 (.t 18), none⟩, ⟨some 5, .mv (.t 21), none⟩, ⟨some 6, .mv (.t 22), none⟩]) (.skip)))) (.seq (.stmt [0, 1, 6] [] (.seq (.stmt [0, 1, 6, 26] [] (.reg [ ⟨some 23, .mv (.t 1), none⟩, ⟨some 24, .mv (.t 5), none⟩, ⟨some 25, .call false 132 [(.t 23), (.t 24)], none⟩, ⟨some 26, .un .not (.t 25), none⟩])) (.cond (.t 26) (.exit 0) (.skip)))) (.reg [ ⟨some 27, .mv (.t 0), none⟩, ⟨some 28, .mv (.t 0), none⟩, ⟨some 29, .len .str (.t 28), none⟩, ⟨some 30, .mv (.t 6), none⟩, ⟨some 31, .bin .sub (.t 29) (.t 30), none⟩, ⟨some 32, .slcs (.t 27) none (some (.t 31)), none⟩, ⟨some 0, .mv (.t 32), none⟩]))))))))) (.seq (.reg [ ⟨some 33, .mv (.t 0), none⟩, ⟨some 4, .mv (.t 33), none⟩]) (.ret))), [.t 4]⟩
def a151 : AFunc := ⟨.seq (.stmt [0] [] (.reg [ ⟨some 2, .mv (.c (.int .i32 0)), none⟩, ⟨some 3, .mv (.c (.int .i64 0)), none⟩])) (.seq (.stmt [0, 4] [] (.reg [ ⟨some 7, .mv (.t 0), none⟩, ⟨some 8, .len .str (.t 7), none⟩, ⟨some 4, .mv (.t 8), none⟩])) (.seq (.stmt [0, 4] [] (.seq (.stmt [0, 4, 10] [] (.reg [ ⟨some 9, .mv (.t 4), none⟩, ⟨some 10, .bin .eql (.t 9) (.c (.int .i64 0)), none⟩])) (.cond (.t 10) (.seq (.reg [ ⟨some 2, .mv (.c (.int .i32 65533)), none⟩, ⟨some 3, .mv (.c (.int .i64 0)), none⟩]) (.ret)) (.skip)))) (.seq (.stmt [0, 4, 5] [] (.reg [ ⟨some 11, .mv (.t 4), none⟩, ⟨some 12, .bin .sub (.t 11) (.c (.int .i64 1)), none⟩, ⟨some 5, .mv (.t 12), none⟩])) (.seq (.stmt [0, 2, 4, 5] [] (.reg [ ⟨some 13, .mv (.t 0), none⟩, ⟨some 14, .mv (.t 5), none⟩, ⟨some 15, .ixs (.t 13) (.t 14), none⟩, ⟨some 16, .cvi .i32 (.t 15), none⟩, ⟨some 2, .mv (.t 16), none⟩])) (.seq (.stmt [0, 4, 5] [] (.seq (.stmt [0, 2, 4, 5, 18] [] (.reg [ ⟨some 17, .mv (.t 2), none⟩, ⟨some 18, .bin .lss (.t 17) (.c (.int .i32 128)), none⟩])) (.cond (.t 18) (.seq (.reg [ ⟨some 19, .mv (.t 2), none⟩, ⟨some 2, .mv (.t 19), none⟩, ⟨some 3, .mv (.c (.int .i64 1)), none⟩]) (.ret)) (.skip)))) (.seq (.stmt [0, 4, 5, 6] [] (.reg [ ⟨some 20, .mv (.t 4), none⟩, ⟨some 21, .bin .sub (.t 20) (.c (.int .i64 4)), none⟩, ⟨some 22, .mm true (.t 21) (.c (.int .i64 0)), none⟩, ⟨some 6, .mv (.t 22), none⟩])) (.seq (.stmt [0, 4, 5] [] (.seq (.stmt [0, 4, 5, 6] [] (.reg [ ⟨some 23, .mv (.t 5), none⟩, ⟨some 24, .bin .sub (.t 23) (.c (.int .i64 1)), none⟩, ⟨some 5, .mv (.t 24), none⟩])) (.block 0 (.loop [5, 0, 4, 6] (.seq (.stmt [0, 4, 5, 6] [] (.seq (.stmt [0, 4, 5, 6, 27] [] (.reg [ ⟨some 25, .mv (.t 5), none⟩, ⟨some 26, .mv (.t 6), none⟩, ⟨some 27, .bin .geq (.t 25) (.t 26), none⟩])) (.cond (.t 27) (.skip) (.exit 0)))) (.seq (.stmt [0, 4, 5, 6] [] (.block 1 (.seq (.stmt [0, 4, 5, 6, 33] [] (.reg [ ⟨some 30, .mv (.t 0), none⟩, ⟨some 31, .mv (.t 5), none⟩, ⟨some 32, .ixs (.t 30) (.t 31), none⟩, ⟨some 33, .call false 159 [(.t 32)], none⟩])) (.cond (.t 33) (.exit 0) (.skip))))) (.reg [ ⟨some 28, .mv (.t 5), none⟩, ⟨some 29, .bin .sub (.t 28) (.c (.int .i64 1)), none⟩, ⟨some 5, .mv (.t 29), none⟩]))))))) (.seq (.stmt [0, 4, 5] [] (.seq (.stmt [0, 4, 5, 35] [] (.reg [ ⟨some 34, .mv (.t 5), none⟩, ⟨some 35, .bin .lss (.t 34) (.c (.int .i64 0)), none⟩])) (.cond (.t 35) (.reg [ ⟨some 5, .mv (.c (.int .i64 0)), none⟩]) (.skip)))) (.seq (.stmt [2, 3, 4, 5] [] (.reg [ ⟨some 37, .mv (.t 0), none⟩, ⟨some 38, .mv (.t 5), none⟩, ⟨some 39, .mv (.t 4), none⟩, ⟨some 40, .slcs (.t 37) (some (.t 38)) (some (.t 39)), none⟩, ⟨some 41, .call false 131 [(.t 40)], none⟩, ⟨some 36, .mv (.t 41), none⟩, ⟨some 42, .ext 0 (.t 36), none⟩, ⟨some 43, .ext 1 (.t 36), none⟩, ⟨some 2, .mv (.t 42), none⟩, ⟨some 3, .mv (.t 43), none⟩])) (.seq (.stmt [2, 3] [] (.seq (.stmt [2, 3, 48] [] (.reg [ ⟨some 44, .mv (.t 5), none⟩, ⟨some 45, .mv (.t 3), none⟩, ⟨some 46, .bin .add (.t 44) (.t 45), none⟩, ⟨some 47, .mv (.t 4), none⟩, ⟨some 48, .bin .neq (.t 46) (.t 47), none⟩])) (.cond (.t 48) (.seq (.reg [ ⟨some 2, .mv (.c (.int .i32 65533)), none⟩, ⟨some 3, .mv (.c (.int .i64 1)), none⟩]) (.ret)) (.skip)))) (.seq (.reg [ ⟨some 49, .mv (.t 2), none⟩, ⟨some 50, .mv (.t 3), none⟩, ⟨some 2, .mv (.t 49), none⟩, ⟨some 3, .mv (.t 50), none⟩]) (.ret)))))))))))), [.t 2, .t 3]⟩
def a159 : AFunc := ⟨.seq (.stmt [0] [] (.reg [ ⟨some 2, .mv (.c (.bool false)), none⟩])) (.seq (.reg [ ⟨some 3, .mv (.t 0), none⟩, ⟨some 4, .bin .and (.t 3) (.c (.int .u8 192)), none⟩, ⟨some 5, .bin .neq (.t 4) (.c (.int .u8 128)), none⟩, ⟨some 2, .mv (.t 5), none⟩]) (.ret)), [.t 2]⟩
def tabL : List (Option AFunc) := [none, none, none, none, none, none, some a6, some a7, none, none, some a10, none, some a12, some a13, some a14, none, some a16, some a17, some a18, some a19, some a20, some a21, some a22, some a23, some a24, some a25, some a26, some a27, some a28, none, none, none, some a32, some a33, some a34, some a35, some a36, some a37, some a38, some a39, some a40, some a41, some a42, some a43, some a44, some a45, some a46, some a47, some a48, some a49, some a50, some a51, some a52, some a53, some a54, some a55, some a56, some a57, some a58, some a59, some a60, some a61, some a62, some a63, some a64, some a65, some a66, some a67, some a68, some a69, some a70, some a71, some a72, some a73, some a74, some a75, none, some a77, some a78, some a79, some a80, some a81, some a82, some a83, some a84, some a85, some a86, none, none, none, some a90, some a91, some a92, some a93, some a94, some a95, none, some a97, some a98, some a99, some a100, some a101, some a102, some a103, none, some a105, some a106, some a107, some a108, some a109, some a110, none, none, some a113, some a114, some a115, some a116, some a117, some a118, some a119, some a120, some a121, none, none, some a124, some a125, some a126, none, some a128, some a129, some a130, some a131, some a132, some a133, some a134, none, none, none, some a138, some a139, some a140, none, none, none, none, none, none, none, none, none, none, some a151, none, none, none, none, none, none, none, some a159, none, none, none, none, none, none, none, none, none, none, none, none, none, none, none, none, none, none, none, none, none, none, none, none, none, none, none, none, none, none, none, none, none, none, none, none, none, none, none, none, none, none, none, none, none, none, none, none, none, none, none, none, none, none]
def tab (f : Nat) : Option AFunc := (tabL[f]?).join
end Go.Ev.Seat
namespace Go.Ev
open Go
structure Gh where
  M : Nat → Nat → Option Value
  mu : Nat → Option Nat
  T : Nat → Nat → Option Value
  own : Nat → Option Nat
def rfree (v : AVal) : Prop := lowV 0 v = true
inductive Rep (Γ : Gh) : AVal → Value → Prop
  | int (k : IntKind) (n : Int) : Rep Γ (.int k n) (.int k n)
  | bool (b : Bool) : Rep Γ (.bool b) (.bool b)
  | str (s : List UInt8) : Rep Γ (.str s) (.string ⟨s.toArray⟩)
  | nilp : Rep Γ .nilp (.pointer none)
  | nili : Rep Γ .nili .nilIface
  | nilf : Rep Γ .nilf .nilFunc
  | nilm : Rep Γ .nilm (.map none)
  | iface (t : TypeId) {v : AVal} {c : Value} : Rep Γ v c → Rep Γ (.iface t v) (.iface t c)
  | agg {cs : List AVal} {ds : List Value} : ds.length = cs.length → (∀ (i : Nat) (c : AVal) (d : Value), cs[i]? = some c → ds[i]? = some d → Rep Γ c d) →
      (∀ d, d ∈ ds → d.oneCell' = true) → Rep Γ (.agg cs) (.agg ds.toArray)
  | tup {cs : List AVal} {ds : List Value} : ds.length = cs.length → (∀ (i : Nat) (c : AVal) (d : Value), cs[i]? = some c → ds[i]? = some d → Rep Γ c d) → Rep Γ (.tup cs) (.tuple ds.toArray)
  | lstN (e : Bool) : Rep Γ (.lst [] e) (.slice none 0 0)
  | lstE {e : Bool} {a : Addr} {cap : Nat} : (e = true → cap = 0) → Rep Γ (.lst [] e) (.slice (some a) 0 cap)
  | lst {xs : List AVal} {e : Bool} {g off cap es : Nat} (f : Nat → Value) : xs.length ≤ cap → (e = true → cap = xs.length) → (∀ x, x ∈ xs → x.width = es) → (∀ x, x ∈ xs → rfree x) →
      (∀ (j : Nat) (c : AVal), (flatL xs)[j]? = some c → Γ.M g (off + j) = some (f j)) → (∀ (j : Nat) (c : AVal), (flatL xs)[j]? = some c → (f j).oneCell' = true) → (∀ (j : Nat) (c : AVal), (flatL xs)[j]? = some c → Rep Γ c (f j)) →
      Rep Γ (.lst xs e) (.slice (some ⟨g, off, none⟩) xs.length cap)
  | gl {o len cap : Nat} {a : Option Addr} : Γ.T o len = some (.slice a len cap) → (0 < len → a.isSome = true) → Rep Γ (.gl o len) (.slice a len cap)
  | lptr {o l a g cap : Nat} : Γ.T o l = some (.slice (some ⟨g, 0, none⟩) l cap) → Rep Γ (.lptr o l a) (.pointer (some ⟨g, a, none⟩))
  | gtl {o l lo es g cap : Nat} : Γ.T o l = some (.slice (some ⟨g, 0, none⟩) l cap) → Rep Γ (.gtl o l lo es) (.slice (some ⟨g, lo * es, none⟩) (l - lo) (cap - lo))
  | sl {b off len cap g : Nat} {w : Option Nat} : Γ.mu b = some g → Rep Γ (.sl b off len cap w) (.slice (some ⟨g, off, none⟩) len cap)
  | ptr {b off g : Nat} : Γ.mu b = some g → Rep Γ (.ptr b off) (.pointer (some ⟨g, off, none⟩))
  | ro {cs : List AVal} {g off : Nat} (f : Nat → Value) : (∀ c, c ∈ cs → rfree c) → (∀ (j : Nat) (c : AVal), cs[j]? = some c → Γ.M g (off + j) = some (f j)) →
      (∀ (j : Nat) (c : AVal), cs[j]? = some c → (f j).oneCell' = true) → (∀ (j : Nat) (c : AVal), cs[j]? = some c → Rep Γ c (f j)) → Rep Γ (.ro cs) (.pointer (some ⟨g, off, none⟩))
  | fn (f : FuncId) {cs : List AVal} {ds : List Value} : ds.length = cs.length → (∀ (i : Nat) (c : AVal) (d : Value), cs[i]? = some c → ds[i]? = some d → Rep Γ c d) → Rep Γ (.fn f cs) (.func (.func f) #[] ds.toArray)
  | map {b g : Nat} : Γ.mu b = some g → Rep Γ (.map b) (.map (some g))
  | empN : Rep Γ (.emp true) (.slice none 0 0)
  | empE {a : Addr} {cap : Nat} : Rep Γ (.emp false) (.slice (some a) 0 cap)
def Reps (Γ : Gh) (cs : List AVal) (ds : List Value) : Prop := ds.length = cs.length ∧ ∀ (i : Nat) (c : AVal) (d : Value), cs[i]? = some c → ds[i]? = some d → Rep Γ c d
theorem y30 (n m : Nat) (h : n ≤ m) : (∀ v, lowV n v = true → lowV m v = true) ∧ (∀ vs, lowL n vs = true → lowL m vs = true) := by
  constructor
  · intro v
    induction v using AVal.rec (motive_2 := fun vs => lowL n vs = true → lowL m vs = true) with
    | nil => simp [lowL]
    | cons v vs ih1 ih2 => rename_i hh; simp only [lowL, Bool.and_eq_true] at hh ⊢; exact ⟨ih1 hh.1, ih2 hh.2⟩
    | _ => simp_all [lowV] <;> omega
  · intro vs
    induction vs using AVal.rec_1 (motive_1 := fun v => lowV n v = true → lowV m v = true) with
    | nil => simp [lowL]
    | cons v vs ih1 ih2 => intro hh; simp only [lowL, Bool.and_eq_true] at hh ⊢; exact ⟨ih1 hh.1, ih2 hh.2⟩
    | _ => simp_all [lowV] <;> omega
theorem low_mono {n m : Nat} (h : n ≤ m) {v : AVal} (hv : lowV n v = true) : lowV m v = true := (y30 n m h).1 v hv
theorem lowL_get {n : Nat} : ∀ {vs : List AVal} {i : Nat} {v : AVal}, lowL n vs = true → vs[i]? = some v → lowV n v = true
  | [], i, v, _, h => by simp at h
  | x :: xs, 0, v, hb, h => by simp only [lowL, Bool.and_eq_true] at hb; simp at h; exact h ▸ hb.1
  | x :: xs, i + 1, v, hb, h => by simp only [lowL, Bool.and_eq_true] at hb; simp at h; exact lowL_get hb.2 h
theorem lowL_iff {n : Nat} : ∀ {vs : List AVal}, lowL n vs = true ↔ ∀ v, v ∈ vs → lowV n v = true
  | [] => by simp [lowL]
  | x :: xs => by simp [lowL, lowL_iff (vs := xs)]
theorem y1f {x : AVal} (h : rfree x) : ∀ c, c ∈ x.flat → rfree c := by
  intro c hc
  cases x <;> simp [AVal.flat] at hc <;> first | (subst hc; exact h) | skip
  simp only [rfree, lowV] at h ⊢
  exact lowL_iff.1 h c hc
theorem y2f {xs : List AVal} (h : ∀ x, x ∈ xs → rfree x) : ∀ c, c ∈ flatL xs → rfree c := by
  induction xs with
  | nil => simp [flatL]
  | cons x xs ih =>
    intro c hc
    simp only [flatL, List.mem_append] at hc
    rcases hc with hc | hc
    · exact y1f (h x (by simp)) c hc
    · exact ih (fun y hy => h y (by simp [hy])) c hc
theorem Rep.move {Γ Γ' : Gh} {n : Nat} (hM : ∀ g o c, Γ.M g o = some c → Γ'.M g o = some c) (hmu : ∀ b g, b < n → Γ.mu b = some g → Γ'.mu b = some g)
    (hT : ∀ o l c, o < n → Γ.T o l = some c → Γ'.T o l = some c) {v : AVal} {c : Value} (h : Rep Γ v c) : lowV n v = true → Rep Γ' v c := by
  induction h with
  | int k n => intro _; exact .int k n
  | bool b => intro _; exact .bool b
  | str s => intro _; exact .str s
  | nilp => intro _; exact .nilp
  | nili => intro _; exact .nili
  | nilf => intro _; exact .nilf
  | nilm => intro _; exact .nilm
  | iface t _ ih => intro hb; exact .iface t (ih (by simpa [lowV] using hb))
  | agg hl _ h1 ih => intro hb; exact .agg hl (fun i c d hc hd => ih i c d hc hd (lowL_get (by simpa [lowV] using hb) hc)) h1
  | tup hl _ ih => intro hb; exact .tup hl (fun i c d hc hd => ih i c d hc hd (lowL_get (by simpa [lowV] using hb) hc))
  | lstN e => intro _; exact .lstN e
  | lstE h => intro _; exact .lstE h
  | lst f h1 h2 h3 h4 h5 h6 _ ih =>
    intro _
    exact .lst f h1 h2 h3 h4 (fun j c hc => hM _ _ _ (h5 j c hc)) h6 (fun j c hc => ih j c hc (low_mono (Nat.zero_le _) (y2f h4 c (List.mem_of_getElem? hc))))
  | gl h1 h2 => intro hb; exact .gl (hT _ _ _ (by simpa [lowV] using hb) h1) h2
  | lptr h1 => intro hb; exact .lptr (hT _ _ _ (by simpa [lowV] using hb) h1)
  | gtl h1 => intro hb; exact .gtl (hT _ _ _ (by simpa [lowV] using hb) h1)
  | sl h1 => intro hb; exact .sl (hmu _ _ (by simpa [lowV] using hb) h1)
  | ptr h1 => intro hb; exact .ptr (hmu _ _ (by simpa [lowV] using hb) h1)
  | ro f h1 h2 h3 _ ih =>
    intro _
    exact .ro f h1 (fun j c hc => hM _ _ _ (h2 j c hc)) h3 (fun j c hc => ih j c hc (low_mono (Nat.zero_le _) (h1 c (List.mem_of_getElem? hc))))
  | fn f hl _ ih => intro hb; exact .fn f hl (fun i c d hc hd => ih i c d hc hd (lowL_get (by simpa [lowV] using hb) hc))
  | map h1 => intro hb; exact .map (hmu _ _ (by simpa [lowV] using hb) h1)
  | empN => intro _; exact .empN
  | empE => intro _; exact .empE
structure Gh.le (Γ Γ' : Gh) : Prop where
  M : ∀ g o c, Γ.M g o = some c → Γ'.M g o = some c
  mu : ∀ b g, Γ.mu b = some g → Γ'.mu b = some g
  T : ∀ o l c, Γ.T o l = some c → Γ'.T o l = some c
theorem Gh.le.refl (Γ : Gh) : Γ.le Γ := ⟨fun _ _ _ h => h, fun _ _ h => h, fun _ _ _ h => h⟩
theorem Gh.le.trans {Γ Γ' Γ'' : Gh} (h : Γ.le Γ') (h' : Γ'.le Γ'') : Γ.le Γ'' :=
  ⟨fun _ _ _ a => h'.M _ _ _ (h.M _ _ _ a), fun _ _ a => h'.mu _ _ (h.mu _ _ a), fun _ _ _ a => h'.T _ _ _ (h.T _ _ _ a)⟩
theorem Rep.mono {Γ Γ' : Gh} (hl : Γ.le Γ') {v : AVal} {c : Value} (h : Rep Γ v c) : Rep Γ' v c := by
  induction h with
  | int k n => exact .int k n
  | bool b => exact .bool b
  | str s => exact .str s
  | nilp => exact .nilp
  | nili => exact .nili
  | nilf => exact .nilf
  | nilm => exact .nilm
  | iface t _ ih => exact .iface t ih
  | agg hl' _ h1 ih => exact .agg hl' ih h1
  | tup hl' _ ih => exact .tup hl' ih
  | lstN e => exact .lstN e
  | lstE h => exact .lstE h
  | lst f h1 h2 h3 h4 h5 h6 _ ih => exact .lst f h1 h2 h3 h4 (fun j c hc => hl.M _ _ _ (h5 j c hc)) h6 ih
  | gl h1 h2 => exact .gl (hl.T _ _ _ h1) h2
  | lptr h1 => exact .lptr (hl.T _ _ _ h1)
  | gtl h1 => exact .gtl (hl.T _ _ _ h1)
  | sl h1 => exact .sl (hl.mu _ _ h1)
  | ptr h1 => exact .ptr (hl.mu _ _ h1)
  | ro f h1 h2 h3 _ ih => exact .ro f h1 (fun j c hc => hl.M _ _ _ (h2 j c hc)) h3 ih
  | fn f hl' _ ih => exact .fn f hl' ih
  | map h1 => exact .map (hl.mu _ _ h1)
  | empN => exact .empN
  | empE => exact .empE
theorem Reps.mono {Γ Γ' : Gh} (hl : Γ.le Γ') {cs : List AVal} {ds : List Value} (h : Reps Γ cs ds) : Reps Γ' cs ds := ⟨h.1, fun i c d hc hd => (h.2 i c d hc hd).mono hl⟩
theorem Reps.nil (Γ : Gh) : Reps Γ [] [] := ⟨rfl, by simp⟩
theorem Reps.cons {Γ : Gh} {c : AVal} {d : Value} {cs : List AVal} {ds : List Value} (h : Rep Γ c d) (hs : Reps Γ cs ds) : Reps Γ (c :: cs) (d :: ds) := by
  refine ⟨by simp [hs.1], ?_⟩
  intro i x y hx hy
  cases i with
  | zero => simp at hx hy; exact hx ▸ hy ▸ h
  | succ i => simp at hx hy; exact hs.2 i x y hx hy
theorem Reps.append {Γ : Gh} {cs cs' : List AVal} {ds ds' : List Value} (h : Reps Γ cs ds) (h' : Reps Γ cs' ds') : Reps Γ (cs ++ cs') (ds ++ ds') := by
  refine ⟨by simp [h.1, h'.1], ?_⟩
  intro i x y hx hy
  by_cases hi : i < cs.length
  · rw [List.getElem?_append_left hi] at hx
    rw [List.getElem?_append_left (by rw [h.1]; exact hi)] at hy
    exact h.2 i x y hx hy
  · rw [List.getElem?_append_right (by omega)] at hx
    rw [List.getElem?_append_right (by rw [h.1]; omega), h.1] at hy
    exact h'.2 _ x y hx hy
theorem Reps.take {Γ : Gh} {cs : List AVal} {ds : List Value} (h : Reps Γ cs ds) (n : Nat) : Reps Γ (cs.take n) (ds.take n) := by
  refine ⟨by simp [h.1], ?_⟩
  intro i x y hx hy
  rw [List.getElem?_take] at hx hy
  split at hx
  · rename_i hi; rw [if_pos hi] at hy; exact h.2 i x y hx hy
  · cases hx
theorem Reps.drop {Γ : Gh} {cs : List AVal} {ds : List Value} (h : Reps Γ cs ds) (n : Nat) : Reps Γ (cs.drop n) (ds.drop n) := by
  refine ⟨by simp [h.1], ?_⟩
  intro i x y hx hy
  rw [List.getElem?_drop] at hx hy
  exact h.2 _ x y hx hy
theorem Reps.get {Γ : Gh} {cs : List AVal} {ds : List Value} (h : Reps Γ cs ds) {i : Nat} {c : AVal} (hc : cs[i]? = some c) : ∃ d, ds[i]? = some d ∧ Rep Γ c d := by
  have hi : i < cs.length := (List.getElem?_eq_some_iff.1 hc).1
  have hi' : i < ds.length := by rw [h.1]; exact hi
  exact ⟨ds[i], List.getElem?_eq_getElem hi', h.2 i c _ hc (List.getElem?_eq_getElem hi')⟩
theorem Reps.set {Γ : Gh} {cs : List AVal} {ds : List Value} (h : Reps Γ cs ds) {c : AVal} {d : Value} (hc : Rep Γ c d) (n : Nat) : Reps Γ (cs.set n c) (ds.set n d) := by
  refine ⟨by simp [h.1], ?_⟩
  intro i x y hx hy
  rw [List.getElem?_set] at hx hy
  split at hx
  · rename_i hi
    rw [if_pos hi] at hy
    split at hx
    · split at hy
      · cases hx; cases hy; exact hc
      · cases hy
    · cases hx
  · rename_i hi; rw [if_neg hi] at hy; exact h.2 i x y hx hy
theorem Rep.agg_inv {Γ : Gh} {cs : List AVal} {c : Value} (h : Rep Γ (.agg cs) c) : ∃ ds : List Value, c = .agg ds.toArray ∧ Reps Γ cs ds ∧ ∀ d, d ∈ ds → d.oneCell' = true := by
  cases h with | agg h1 h2 h3 => exact ⟨_, rfl, ⟨h1, h2⟩, h3⟩
theorem Rep.tup_inv {Γ : Gh} {cs : List AVal} {c : Value} (h : Rep Γ (.tup cs) c) : ∃ ds : List Value, c = .tuple ds.toArray ∧ Reps Γ cs ds := by
  cases h with | tup h1 h2 => exact ⟨_, rfl, ⟨h1, h2⟩⟩
theorem Rep.fn_inv {Γ : Gh} {f : FuncId} {cs : List AVal} {c : Value} (h : Rep Γ (.fn f cs) c) : ∃ ds : List Value, c = .func (.func f) #[] ds.toArray ∧ Reps Γ cs ds := by
  cases h with | fn _ h1 h2 => exact ⟨_, rfl, ⟨h1, h2⟩⟩
theorem Rep.int_inv {Γ : Gh} {k : IntKind} {n : Int} {c : Value} (h : Rep Γ (.int k n) c) : c = .int k n := by cases h; rfl
theorem Rep.bool_inv {Γ : Gh} {b : Bool} {c : Value} (h : Rep Γ (.bool b) c) : c = .bool b := by cases h; rfl
theorem Rep.str_inv {Γ : Gh} {s : List UInt8} {c : Value} (h : Rep Γ (.str s) c) : c = .string ⟨s.toArray⟩ := by cases h; rfl
theorem Rep.ptr_inv {Γ : Gh} {b off : Nat} {c : Value} (h : Rep Γ (.ptr b off) c) : ∃ g, c = .pointer (some ⟨g, off, none⟩) ∧ Γ.mu b = some g := by
  cases h with | ptr h1 => exact ⟨_, rfl, h1⟩
theorem Rep.sl_inv {Γ : Gh} {b off len cap : Nat} {w : Option Nat} {c : Value} (h : Rep Γ (.sl b off len cap w) c) : ∃ g, c = .slice (some ⟨g, off, none⟩) len cap ∧ Γ.mu b = some g := by
  cases h with | sl h1 => exact ⟨_, rfl, h1⟩
theorem Rep.gtl_inv {Γ : Gh} {o l lo es : Nat} {c : Value} (h : Rep Γ (.gtl o l lo es) c) : ∃ g cap, c = .slice (some ⟨g, lo * es, none⟩) (l - lo) (cap - lo) ∧ Γ.T o l = some (.slice (some ⟨g, 0, none⟩) l cap) := by
  cases h with | gtl h1 => exact ⟨_, _, rfl, h1⟩
theorem Rep.lptr_inv {Γ : Gh} {o l b : Nat} {c : Value} (h : Rep Γ (.lptr o l b) c) : ∃ g cap, c = .pointer (some ⟨g, b, none⟩) ∧ Γ.T o l = some (.slice (some ⟨g, 0, none⟩) l cap) := by
  cases h with | lptr h1 => exact ⟨_, _, rfl, h1⟩
theorem Rep.map_inv {Γ : Gh} {b : Nat} {c : Value} (h : Rep Γ (.map b) c) : ∃ g, c = .map (some g) ∧ Γ.mu b = some g := by
  cases h with | map h1 => exact ⟨_, rfl, h1⟩
theorem Rep.gl_inv {Γ : Gh} {o len : Nat} {c : Value} (h : Rep Γ (.gl o len) c) : ∃ a cap, c = .slice a len cap ∧ Γ.T o len = some c ∧ (0 < len → a.isSome = true) := by
  cases h with | gl h1 h2 => exact ⟨_, _, rfl, h1, h2⟩
theorem Rep.ro_inv {Γ : Gh} {cs : List AVal} {c : Value} (h : Rep Γ (.ro cs) c) : ∃ (g off : Nat) (f : Nat → Value), c = .pointer (some ⟨g, off, none⟩) ∧ (∀ c, c ∈ cs → rfree c) ∧ (∀ (j : Nat) (c : AVal), cs[j]? = some c → Γ.M g (off + j) = some (f j)) ∧
    (∀ (j : Nat) (c : AVal), cs[j]? = some c → (f j).oneCell' = true) ∧ (∀ (j : Nat) (c : AVal), cs[j]? = some c → Rep Γ c (f j)) := by
  cases h with | ro f h1 h2 h3 h4 => exact ⟨_, _, f, rfl, h1, h2, h3, h4⟩
theorem Rep.lst_inv {Γ : Gh} {xs : List AVal} {e : Bool} {c : Value} (h : Rep Γ (.lst xs e) c) : (xs = [] ∧ ∃ base cap, c = .slice base 0 cap ∧ ((base = none ∧ cap = 0) ∨ ((∃ a, base = some a) ∧ (e = true → cap = 0)))) ∨
    ∃ (g off cap es : Nat) (f : Nat → Value), c = .slice (some ⟨g, off, none⟩) xs.length cap ∧ xs.length ≤ cap ∧ (e = true → cap = xs.length) ∧ (∀ x, x ∈ xs → x.width = es) ∧ (∀ x, x ∈ xs → rfree x) ∧
      (∀ (j : Nat) (c : AVal), (flatL xs)[j]? = some c → Γ.M g (off + j) = some (f j)) ∧ (∀ (j : Nat) (c : AVal), (flatL xs)[j]? = some c → (f j).oneCell' = true) ∧ (∀ (j : Nat) (c : AVal), (flatL xs)[j]? = some c → Rep Γ c (f j)) := by
  cases h with
  | lstN => exact .inl ⟨rfl, _, _, rfl, .inl ⟨rfl, rfl⟩⟩
  | lstE h => exact .inl ⟨rfl, _, _, rfl, .inr ⟨⟨_, rfl⟩, h⟩⟩
  | lst f h1 h2 h3 h4 h5 h6 h7 => exact .inr ⟨_, _, _, _, f, rfl, h1, h2, h3, h4, h5, h6, h7⟩
theorem Rep.emp {Γ : Gh} {e : Bool} {base : Option Addr} {cap : Nat} (h : (base = none ∧ cap = 0) ∨ ((∃ a, base = some a) ∧ (e = true → cap = 0))) : Rep Γ (.lst [] e) (.slice base 0 cap) := by
  rcases h with ⟨rfl, rfl⟩ | ⟨⟨a, rfl⟩, h⟩
  · exact .lstN e
  · exact .lstE h
theorem Rep.emp_lst {Γ : Gh} {b : Bool} {c : Value} (h : Rep Γ (.emp b) c) : Rep Γ (.lst [] false) c := by
  cases h with
  | empN => exact .lstN _
  | empE => exact .lstE (by simp)
theorem Rep.cells {Γ : Gh} {v : AVal} {c : Value} (h : Rep Γ v c) : Reps Γ v.flat c.cells.toList := by
  cases h with
  | agg hl hr h1 => exact ⟨by simpa [AVal.flat, Value.cells] using hl, by simpa [AVal.flat, Value.cells] using hr⟩
  | _ => simp only [AVal.flat, Value.cells]; exact Reps.cons (by constructor <;> assumption) (Reps.nil Γ)
theorem Rep.cells_one {Γ : Gh} {v : AVal} {c : Value} (h : Rep Γ v c) (ht : ∀ vs, v ≠ .tup vs) : ∀ d, d ∈ c.cells.toList → d.oneCell' = true := by
  cases h with
  | agg hl hr h1 => simpa [Value.cells] using h1
  | tup => exact absurd rfl (ht _)
  | _ => intro d hd; simp [Value.cells] at hd; subst hd; rfl
def OkB (Γ : Gh) (w : World) (b : Nat) : ABlock → Prop
  | .hole => Γ.mu b = none ∧ ∀ l, Γ.T b l = none
  | .dead => True
  | .cells vs => ∃ g cs ty, Γ.mu b = some g ∧ Γ.own g = some b ∧ w.heap[g]? = some (.cells cs ty (0, 0)) ∧ (∀ o, Γ.M g o = none) ∧ Reps Γ vs cs.toList ∧ ∀ c, c ∈ cs.toList → c.oneCell' = true
  | .grow es xs op => ∃ c, Γ.T b xs.length = some c ∧ (∀ l, xs.length < l → Γ.T b l = none) ∧ (∀ x, x ∈ xs → rfree x) ∧ ((op = none ∧ Rep Γ (.lst xs true) c) ∨
      ∃ g cap cs ty, c = .slice (some ⟨g, 0, none⟩) xs.length cap ∧ Γ.own g = some b ∧ w.heap[g]? = some (.cells cs ty (0, 0)) ∧ xs.length ≤ cap ∧ cs.size = cap * es ∧ 0 < es ∧ (∀ x, x ∈ xs → x.width = es) ∧
        Reps Γ (flatL xs) (cs.toList.take (flatL xs).length) ∧ (∀ c, c ∈ cs.toList → c.oneCell' = true) ∧ op.getD xs.length ≤ xs.length ∧ (∀ j, j < op.getD xs.length * es → Γ.M g j = cs[j]?) ∧ ∀ j, op.getD xs.length * es ≤ j → Γ.M g j = none)
  | .mp es => ∃ g ents clock, Γ.mu b = some g ∧ Γ.own g = some b ∧ w.heap[g]? = some (.map ents clock) ∧ ents.size = es.length ∧
      ∀ (i : Nat) (k v : AVal) (e : MapEntry), es[i]? = some (k, v) → ents[i]? = some e → Rep Γ k e.key ∧ Rep Γ v e.val
structure Rel (Γ : Gh) (H : Heap) (w : World) : Prop where
  mem : ∀ g o c, Γ.M g o = some c → w.cell? ⟨g, o, none⟩ = some c
  blk : ∀ (b : Nat) (B : ABlock), H[b]? = some B → OkB Γ w b B
  dom : ∀ b, H.length ≤ b → Γ.mu b = none ∧ ∀ l, Γ.T b l = none
  owned : ∀ g b, Γ.own g = some b → g < w.heap.size
structure Stp (Γ : Gh) (w : World) (Γ' : Gh) (w' : World) : Prop where
  le : Γ.le Γ'
  own : ∀ g, g < w.heap.size → Γ.own g = none → Γ'.own g = none
  newM : ∀ g o, g < w.heap.size → Γ.own g = none → Γ'.M g o = Γ.M g o
  size : w.heap.size ≤ w'.heap.size
  heap : ∀ g : Nat, g < w.heap.size → Γ.own g = none → w'.heap[g]? = w.heap[g]?
  os : w'.os = w.os
  tape : w'.tape = w.tape
  output : w'.output = w.output
theorem Stp.refl (Γ : Gh) (w : World) : Stp Γ w Γ w := ⟨.refl Γ, fun _ _ h => h, fun _ _ _ _ => rfl, Nat.le_refl _, fun _ _ _ => rfl, rfl, rfl, rfl⟩
theorem Stp.trans {Γ Γ' Γ'' : Gh} {w w' w'' : World} (h : Stp Γ w Γ' w') (h' : Stp Γ' w' Γ'' w'') : Stp Γ w Γ'' w'' := by
  refine ⟨h.le.trans h'.le, ?_, ?_, Nat.le_trans h.size h'.size, ?_, h'.os.trans h.os, h'.tape.trans h.tape, h'.output.trans h.output⟩
  · intro g hg ho; exact h'.own g (Nat.lt_of_lt_of_le hg h.size) (h.own g hg ho)
  · intro g o hg ho; exact (h'.newM g o (Nat.lt_of_lt_of_le hg h.size) (h.own g hg ho)).trans (h.newM g o hg ho)
  · intro g hg ho; exact (h'.heap g (Nat.lt_of_lt_of_le hg h.size) (h.own g hg ho)).trans (h.heap g hg ho)
theorem Rel.drew {Γ : Gh} {H : Heap} {w : World} (h : Rel Γ H w) (n : Nat) : Rel Γ H { w with drawn := n } :=
  ⟨h.mem, h.blk, h.dom, h.owned⟩
theorem Stp.drew (Γ : Gh) (w : World) (n : Nat) : Stp Γ w Γ { w with drawn := n } := ⟨.refl Γ, fun _ _ h => h, fun _ _ _ _ => rfl, Nat.le_refl _, fun _ _ _ => rfl, rfl, rfl, rfl⟩
end Go.Ev
namespace Go.Ev
set_option linter.unusedVariables false
set_option linter.unusedSimpArgs false
open Go
mutual
def chkV : AVal → Value → Bool
  | .int k n, .int k' n' => decide (k = k') && decide (n = n')
  | .bool b, .bool b' => b == b'
  | .str s, .string b => decide (s = b.data.toList)
  | .nilp, .pointer none => true
  | .nili, .nilIface => true
  | .nilf, .nilFunc => true
  | .nilm, .map none => true
  | .lst [] _, .slice none 0 0 => true
  | .agg cs, .agg ds => chkVL cs ds.toList && ds.toList.all (·.oneCell')
  | .tup cs, .tuple ds => chkVL cs ds.toList
  | .iface t v, .iface t' c => decide (t = t') && chkV v c
  | .fn f [], .func (.func g) fi ca => decide (f = g) && fi.toList.isEmpty && ca.toList.isEmpty
  | _, _ => false
def chkVL : List AVal → List Value → Bool
  | [], [] => true
  | v :: vs, c :: cs => chkV v c && chkVL vs cs
  | _, _ => false
end
theorem ofToList {α : Type} (a : Array α) : a = a.toList.toArray := by simp
theorem chkV_both (Γ : Gh) : (∀ v c, chkV v c = true → Rep Γ v c) ∧ (∀ vs cs, chkVL vs cs = true → Reps Γ vs cs) := by
  have key : ∀ v, (∀ c, chkV v c = true → Rep Γ v c) := by
    intro v
    induction v using AVal.rec (motive_2 := fun vs => ∀ cs, chkVL vs cs = true → Reps Γ vs cs) with
    | nil =>
      rename_i cs hc
      cases cs with
      | nil => exact Reps.nil Γ
      | cons c cs => simp [chkVL] at hc
    | cons v vs ih1 ih2 =>
      rename_i cs hc
      cases cs with
      | nil => simp [chkVL] at hc
      | cons c cs =>
        simp only [chkVL, Bool.and_eq_true] at hc
        exact Reps.cons (ih1 c hc.1) (ih2 cs hc.2)
    | int k n => intro c hc; cases c <;> simp [chkV] at hc; obtain ⟨rfl, rfl⟩ := hc; exact .int k n
    | bool b => intro c hc; cases c <;> simp [chkV] at hc; subst hc; exact .bool b
    | str s =>
      intro c hc; cases c <;> simp [chkV] at hc
      rename_i b; obtain ⟨d⟩ := b; subst hc
      have := Rep.str (Γ := Γ) d.toList
      simpa using this
    | nilp =>
      intro c hc; cases c <;> (try (simp [chkV] at hc; done))
      rename_i a; cases a with
      | none => exact .nilp
      | some a => simp [chkV] at hc
    | nili => intro c hc; cases c <;> simp [chkV] at hc; exact .nili
    | nilf => intro c hc; cases c <;> simp [chkV] at hc; exact .nilf
    | nilm =>
      intro c hc; cases c <;> (try (simp [chkV] at hc; done))
      rename_i a; cases a with
      | none => exact .nilm
      | some a => simp [chkV] at hc
    | lst xs e =>
      intro c hc
      cases xs with
      | cons => cases c <;> simp [chkV] at hc
      | nil =>
        cases c <;> (try (simp [chkV] at hc; done))
        rename_i a l cp
        cases a with
        | some a => simp [chkV] at hc
        | none =>
          cases l with
          | succ l => simp [chkV] at hc
          | zero => cases cp with
            | succ cp => simp [chkV] at hc
            | zero => exact .lstN e
    | agg cs ih =>
      intro c hc; cases c <;> simp only [chkV, Bool.false_eq_true, Bool.and_eq_true] at hc
      rename_i ds
      have h := ih _ hc.1
      rw [ofToList ds]
      exact .agg h.1 h.2 (List.all_eq_true.1 hc.2)
    | tup cs ih =>
      intro c hc; cases c <;> simp only [chkV, Bool.false_eq_true] at hc
      rename_i ds
      have h := ih _ hc
      rw [ofToList ds]
      exact .tup h.1 h.2
    | iface t v ih =>
      intro c hc; cases c <;> simp [chkV] at hc
      obtain ⟨rfl, hc⟩ := hc
      exact .iface t (ih _ hc)
    | fn f cs ih =>
      intro c hc
      cases cs with
      | cons => cases c <;> simp [chkV] at hc
      | nil =>
        cases c <;> (try (simp [chkV] at hc; done))
        rename_i fn fi ca
        cases fn <;> (try (simp [chkV] at hc; done))
        simp [chkV] at hc
        obtain ⟨⟨rfl, h1⟩, h2⟩ := hc
        subst h1; subst h2
        exact .fn f (cs := []) (ds := []) rfl (by simp)
    | _ => intro c hc; cases c <;> simp [chkV] at hc
  refine ⟨key, ?_⟩
  intro vs
  induction vs with
  | nil => intro cs hc; cases cs with
    | nil => exact Reps.nil Γ
    | cons c cs => simp [chkVL] at hc
  | cons v vs ih => intro cs hc; cases cs with
    | nil => simp [chkVL] at hc
    | cons c cs =>
      simp only [chkVL, Bool.and_eq_true] at hc
      exact Reps.cons (key v c hc.1) (ih cs hc.2)
theorem chkV_rep (Γ : Gh) {v : AVal} {c : Value} (h : chkV v c = true) : Rep Γ v c := (chkV_both Γ).1 v c h
theorem y49 (Γ : Gh) {vs : List AVal} {cs : List Value} (h : chkVL vs cs = true) : Reps Γ vs cs := (chkV_both Γ).2 vs cs h
def chkO (x : AOpd) (y : Operand) : Bool :=
  match x with
  | .t n => match y with
    | .tmp m => decide (n = m)
    | _ => false
  | .c v => match y with
    | .const c => chkV v c
    | .func f => chkV v (.func (.func f) #[] #[])
    | _ => false
def chkOs : List AOpd → List Operand → Bool
  | [], [] => true
  | x :: xs, y :: ys => chkO x y && chkOs xs ys
  | _, _ => false
def chkOpt : Option AOpd → Option Operand → Bool
  | none, none => true
  | some x, some y => chkO x y
  | _, _ => false
def aggB (P : Program) (t : TypeId) : Option Bool :=
  match P.underlying t with
  | some (.struct _) | some (.array _ _) => some true
  | some _ => some false
  | none => none
def sizeB (P : Program) (t n : Nat) : Bool :=
  match P.info? t with
  | some i => decide (i.size = n)
  | none => false
def bytesB (P : Program) (t n : Nat) : Bool :=
  match P.info? t with
  | some i => decide (i.bytes = n)
  | none => false
def szB (P : Program) (t : TypeId) (sz : Option Nat) : Bool :=
  match sz with
  | none => decide (aggB P t = some false)
  | some n => decide (aggB P t = some true) && sizeB P t n
def zeroB (P : Program) (t : TypeId) (zs : List AVal) : Bool :=
  match P.info? t with
  | some i => match i.zero with
    | some z => chkVL zs z.cells.toList && z.cells.toList.all (·.oneCell')
    | none => false
  | none => false
def zvalB (P : Program) (t : TypeId) (v : AVal) : Bool :=
  match P.info? t with
  | some i => match i.zero with
    | some z => chkV v z && z.cells.toList.all (·.oneCell')
    | none => false
  | none => false
def isStrB (P : Program) (t : TypeId) : Bool :=
  match P.underlying t with
  | some .string => true
  | _ => false
def elemB (P : Program) (t : TypeId) (q : TypeId → Bool) : Bool :=
  match P.underlying t with
  | some (.slice e) => q e
  | _ => false
def arrB (P : Program) (t : TypeId) (len : Nat) (q : TypeId → Bool) : Bool :=
  match P.underlying t with
  | some (.array n e) => decide (n = len) && q e
  | _ => false
def fieldB (P : Program) (t i : Nat) (q : Field → Bool) : Bool :=
  match P.underlying t with
  | some (.struct fs) => match fs[i]? with
    | some f => q f
    | none => false
  | _ => false
def plainD : TypeDesc → Bool
  | .int _ | .bool | .string => true
  | _ => false
def constNil (P : Program) (k : NilK) (t : TypeId) (c : Operand) : Bool :=
  match c with
  | .const c => match P.underlying t with
    | some (.pointer _) => match k, c with
      | .ptr, .pointer none => true
      | _, _ => false
    | some (.slice _) => match k, c with
      | .slice, .slice none 0 0 => true
      | _, _ => false
    | some (.map _ _) => match k, c with
      | .map, .map none => true
      | _, _ => false
    | some (.func _ _ _) => match k, c with
      | .fn, .nilFunc => true
      | _, _ => false
    | some (.interface _) => match k, c with
      | .iface, .nilIface => true
      | _, _ => false
    | _ => false
  | _ => false
def negB (neg : Bool) (op : BinOp) : Bool := if neg then decide (op = .neq) else decide (op = .eql)
def chkLenC (P : Program) (x : AOpd) (t : TypeId) : Bool :=
  match x with
  | .c (.int .i64 n) => match P.underlying t with
    | some (.array m _) => decide (n = m)
    | some (.pointer e) => match P.underlying e with
      | some (.array m _) => decide (n = m)
      | _ => false
    | _ => false
  | _ => false
def chkMv (P : Program) (x : AOpd) (op : Op) : Bool :=
  match op with
  | .move y => chkO x y
  | .assign y => chkO x y
  | .call c => match c.callee with
    | .builtin .len => match c.argTypes[0]?, c.args[0]? with
      | some t, some _ => chkLenC P x t
      | _, _ => false
    | .builtin .cap => match c.argTypes[0]?, c.args[0]? with
      | some t, some _ => chkLenC P x t
      | _, _ => false
    | _ => false
  | _ => false
def chkParts (place : Nat → Option (Nat × Nat)) : List (Nat × Nat × AOpd) → List (Nat × Operand) → Bool
  | [], [] => true
  | (off, sz, x) :: r, (i, y) :: s => decide (place i = some (off, sz)) && chkO x y && chkParts place r s
  | _, _ => false
def placesOf (P : Program) (t : TypeId) : Option (Nat → Option (Nat × Nat)) :=
  match P.underlying t with
  | some (.struct fs) => match fs.toList.mapM (fun f => (P.info? f.type).map fun i => (f.offset, i.size)) with
    | some l => some fun i => l[i]?
    | none => none
  | some (.array _ e) => match P.info? e with
    | some i => some fun k => some (k * i.size, i.size)
    | none => none
  | _ => none
def scalB (P : Program) (q : SK) (e : TypeId) : Bool :=
  match q, P.underlying e with
  | .i, some (.int _) => true
  | .b, some .bool => true
  | .s, some .string => true
  | _, _ => false
def fieldsB (P : Program) : Nat → List SK → List Field → Bool
  | _, [], [] => true
  | i, q :: qs, f :: fs => decide (f.offset = i) && decide (f.name ≠ "_") && scalB P q f.type && szB P f.type none && fieldsB P (i + 1) qs fs
  | _, _, _ => false
def eqB (P : Program) (t : TypeId) (ks : List SK) : Bool :=
  !P.eqGuardType P.depth t && match P.underlying t with
    | some (.array n e) => decide (ks.length = n) && ks.all (fun q => scalB P q e) && szB P e none && sizeB P e 1
    | some (.struct fs) => fieldsB P 0 ks fs.toList && !P.stoodInHeld t
    | _ => false
def chkP (P : Program) (p : AOp) (op : Op) : Bool :=
  match p with
  | .mv x => chkMv P x op
  | .pick c a b => match op with
    | .pick c' a' b' => chkO c c' && chkO a a' && chkO b b'
    | _ => false
  | .bin b x y => match op with
    | .binOp b' _ x' y' _ => decide (b = b') && chkO x x' && chkO y y'
    | _ => false
  | .eqv neg d x y => match op with
    | .binOp b t x' y' _ => negB neg b && chkO x x' && chkO y y' && (match d with | .bool => decide ((P.underlying t).map plainD = some true) && (match P.underlying t with | some .bool => true | _ => false) | .ints ks => eqB P t ks)
    | _ => false
  | .isnil k neg x => match op with
    | .binOp b t x' y' _ => negB neg b && ((chkO x x' && constNil P k t y') || (chkO x y' && constNil P k t x'))
    | _ => false
  | .un o x => match op with
    | .unOp o' _ x' => decide (o = o') && chkO x x'
    | _ => false
  | .cvi k x => match op with
    | .convert s d y => chkO x y && (P.underlying s).isSome && (match P.underlying d with | some (.int k') => decide (k = k') | _ => false)
    | _ => false
  | .cvs x => match op with
    | .convert s d y => chkO x y && isStrB P s && isStrB P d
    | _ => false
  | .mki t x => match op with
    | .makeInterface t' y => decide (t = t') && chkO x y && (match P.underlying t with | some (.interface _) => false | some _ => true | none => false)
    | _ => false
  | .mkf f caps => match op with
    | .makeFunc (.func f') first caps' => decide (f = f') && first.toList.isEmpty && chkOs caps caps'.toList
    | _ => false
  | .fld off sz x => match op with
    | .field t y i => chkO x y && fieldB P t i fun f => decide (f.offset = off) && szB P f.type sz
    | _ => false
  | .ixs x i => match op with
    | .index t y j => chkO x y && chkO i j && isStrB P t
    | _ => false
  | .ixa len es sz x i => match op with
    | .index t y j => chkO x y && chkO i j && arrB P t len fun e => sizeB P e es && szB P e sz
    | _ => false
  | .fa off x => match op with
    | .fieldAddr t y i => chkO x y && fieldB P t i fun f => decide (f.offset = off) && (match P.info? f.type with | some i => decide (0 < i.size) | none => false)
    | _ => false
  | .nc x => match op with
    | .nilCheck y => chkO x y
    | _ => false
  | .iaa len es x i => match op with
    | .indexAddr t y j => chkO x y && chkO i j && arrB P t len fun e => sizeB P e es
    | _ => false
  | .ext i x => match op with
    | .extract y j => chkO x y && decide (i = j)
    | _ => false
  | .build zs parts => match op with
    | .build t ps => zeroB P t zs && (match placesOf P t with | some pl => chkParts pl parts ps.toList | none => false)
    | _ => false
  | .mm isMax x y => match op with
    | .call c => (match c.callee with | .builtin b => decide (b = if isMax then .max else .min) | _ => false) && (match c.args.toList with | [x', y'] => chkO x x' && chkO y y' | _ => false)
    | _ => false
  | .slcs x lo hi => match op with
    | .slice t y lo' hi' mx => chkO x y && chkOpt lo lo' && chkOpt hi hi' && mx.isNone && isStrB P t
    | _ => false
  | _ => false
def EnvRel (Γ : Gh) (e : Env) (tm : Array Value) : Prop := ∀ t v, e.get t = some v → Rep Γ v (tm.getD t undef)
theorem EnvRel.mono {Γ Γ' : Gh} (hl : Γ.le Γ') {e : Env} {tm : Array Value} (h : EnvRel Γ e tm) : EnvRel Γ' e tm := fun t v hv => (h t v hv).mono hl
section
variable {P : Program} {Γ : Gh} {e : Env} {a : Act}
theorem ev_rep (he : EnvRel Γ e a.tmps) {x : AOpd} {y : Operand} {v : AVal} (hk : chkO x y = true) (hv : x.ev e = some v) : Rep Γ v (a.eval y) := by
  cases x with
  | t n =>
    cases y <;> simp [chkO] at hk
    subst hk
    exact he _ _ hv
  | c u =>
    simp [AOpd.ev] at hv
    subst hv
    cases y <;> simp only [chkO, Bool.false_eq_true] at hk
    · exact chkV_rep Γ hk
    · exact chkV_rep Γ hk
theorem evs_reps (he : EnvRel Γ e a.tmps) : ∀ {xs : List AOpd} {ys : List Operand} {vs : List AVal}, chkOs xs ys = true → evs e xs = some vs → Reps Γ vs (ys.map a.eval)
  | [], [], vs, _, hv => by simp [evs] at hv; subst hv; exact Reps.nil Γ
  | x :: xs, y :: ys, vs, hk, hv => by
    simp only [chkOs, Bool.and_eq_true] at hk
    simp only [evs] at hv
    split at hv
    · rename_i v hx
      split at hv
      · rename_i us hu
        cases hv
        exact Reps.cons (ev_rep he hk.1 hx) (evs_reps he hk.2 hu)
      · cases hv
    · cases hv
  | [], _ :: _, _, hk, _ => by simp [chkOs] at hk
  | _ :: _, [], _, hk, _ => by simp [chkOs] at hk
theorem y20 {t : TypeId} {b : Bool} (h : aggB P t = some b) (w : World) : (isAgg t).run P w = .ok b w := by
  unfold aggB at h
  unfold isAgg
  split at h
  · rename_i fs hu; cases h; simp [run_underlying hu]
  · rename_i n e hu; cases h; simp [run_underlying hu]
  · rename_i d h1 h2 hu
    cases h
    simp only [Sem.run_bind, run_underlying hu, Result.andThen_ok]
    rfl
  · cases h
theorem run_sizeB {t n : Nat} (h : sizeB P t n = true) (w : World) : (sizeOf t).run P w = .ok n w := by
  unfold sizeB at h
  split at h
  · rename_i i hi
    have : i.size = n := by simpa using h
    simp [sizeOf, run_typeInfo _ hi, this]
  · cases h
theorem run_zeroB {t : TypeId} {zs : List AVal} (h : zeroB P t zs = true) (w : World) : ∃ z, (zeroValue t).run P w = .ok z w ∧ Reps Γ zs z.cells.toList ∧ ∀ c, c ∈ z.cells.toList → c.oneCell' = true := by
  unfold zeroB at h
  split at h
  · rename_i i hi
    split at h
    · rename_i z hz
      simp only [Bool.and_eq_true] at h
      exact ⟨z, by simp [zeroValue, run_typeInfo _ hi, hz], y49 Γ h.1, List.all_eq_true.1 h.2⟩
    · cases h
  · cases h
theorem run_zvalB {t : TypeId} {v : AVal} (h : zvalB P t v = true) (w : World) : ∃ z, (zeroValue t).run P w = .ok z w ∧ Rep Γ v z ∧ ∀ c, c ∈ z.cells.toList → c.oneCell' = true := by
  unfold zvalB at h
  split at h
  · rename_i i hi
    split at h
    · rename_i z hz
      simp only [Bool.and_eq_true] at h
      exact ⟨z, by simp [zeroValue, run_typeInfo _ hi, hz], chkV_rep Γ h.1, List.all_eq_true.1 h.2⟩
    · cases h
  · cases h
theorem exec_v {o : Oper} {w : World} {s : Sem Value} {c : Value} (h : execOp a.eval o = (do pure (Next.value (← s)))) (hs : s.run P w = .ok c w) :
    (execOp a.eval o).run P w = .ok (.value c) w := by
  rw [h]; simp [hs]
theorem y21 {s : List UInt8} : (ByteArray.mk s.toArray).size = s.length := by simp [ByteArray.size]
theorem y34 {s : List UInt8} : (ByteArray.mk s.toArray).toList = s := by
  rw [ByteArray.toList_eq]
theorem bin_sound {op : BinOp} {t : TypeId} {x y v : AVal} {c d : Value} {w : World} {X Y : Operand} (hx : Rep Γ x c) (hy : Rep Γ y d) (hv : binA op x y = some v) :
    ∃ r, (do eqGuard op t X Y c d; Go.binOp op t c d : Sem Value).run P w = .ok r w ∧ Rep Γ v r := by
  unfold binA at hv
  split at hv
  · rename_i k a k' b
    cases hx; cases hy
    split at hv
    · unfold shiftA at hv
      split at hv
      · cases hv
      · rename_i hb
        cases hv
        refine ⟨_, ?_, .int _ _⟩
        simp [eqGuard, Go.binOp, Op.shift, hb]
    · unfold shiftA at hv
      split at hv
      · cases hv
      · rename_i hb
        cases hv
        refine ⟨_, ?_, .int _ _⟩
        simp [eqGuard, Go.binOp, Op.shift, hb]
    · rename_i h1 h2
      split at hv
      · rename_i hk
        subst hk
        cases op <;> first | exact absurd rfl h1 | exact absurd rfl h2 | skip
        all_goals simp [binInt, bitsA] at hv
        all_goals first
          | (obtain ⟨hb, rfl⟩ := hv; refine ⟨_, ?_, .int _ _⟩; simp [eqGuard, Go.binOp, Op.intDiv, hb]; done)
          | (subst hv; refine ⟨_, ?_, by constructor⟩; simp [eqGuard, Go.binOp, Op.intArith, Op.intBits, Op.intCmp, bne]; done)
          | (subst hv; refine ⟨_, ?_, .bool _⟩; simp [eqGuard, Go.binOp, Op.intCmp]; rfl)
      · cases hv
  · rename_i a b
    cases hx; cases hy
    by_cases hadd : op = .add
    · subst hadd
      simp [binStr] at hv
      obtain ⟨hb, rfl⟩ := hv
      refine ⟨.string ⟨(a ++ b).toArray⟩, ?_, .str _⟩
      have hm : IntKind.i64.max = 9223372036854775807 := by decide
      have hab : (⟨a.toArray⟩ : ByteArray) ++ (⟨b.toArray⟩ : ByteArray) = ⟨(a ++ b).toArray⟩ := by apply ByteArray.ext; simp
      simp [eqGuard, Go.binOp, Op.stringOp, y21, hm, hab]
      omega
    · cases op <;> first | exact absurd rfl hadd | skip
      all_goals simp [binStr] at hv
      all_goals (subst hv; refine ⟨_, ?_, .bool _⟩; simp [eqGuard, Go.binOp, Op.stringOp, y34]; done)
  · cases hv
inductive NilEq : TypeDesc → Value → Value → Bool → Prop
  | b (a b : Bool) : NilEq .bool (.bool a) (.bool b) (a == b)
  | p1 (e : TypeId) : NilEq (.pointer e) (.pointer none) (.pointer none) true
  | p2 (e : TypeId) (a : Addr) : NilEq (.pointer e) (.pointer (some a)) (.pointer none) false
  | p3 (e : TypeId) (a : Addr) : NilEq (.pointer e) (.pointer none) (.pointer (some a)) false
  | i1 (ms : Array (String × TypeId)) : NilEq (.interface ms) .nilIface .nilIface true
  | i2 (ms : Array (String × TypeId)) (u : TypeId) (v : Value) : NilEq (.interface ms) (.iface u v) .nilIface false
  | i3 (ms : Array (String × TypeId)) (u : TypeId) (v : Value) : NilEq (.interface ms) .nilIface (.iface u v) false
  | s1 (e : TypeId) : NilEq (.slice e) (.slice none 0 0) (.slice none 0 0) true
  | s2 (e : TypeId) (a : Addr) (l c : Nat) : NilEq (.slice e) (.slice (some a) l c) (.slice none 0 0) false
  | s3 (e : TypeId) (a : Addr) (l c : Nat) : NilEq (.slice e) (.slice none 0 0) (.slice (some a) l c) false
  | m1 (k e : TypeId) : NilEq (.map k e) (.map none) (.map none) true
  | m2 (k e : TypeId) (g : Nat) : NilEq (.map k e) (.map (some g)) (.map none) false
  | m3 (k e : TypeId) (g : Nat) : NilEq (.map k e) (.map none) (.map (some g)) false
  | f1 (a b : Array TypeId) (v : Bool) : NilEq (.func a b v) .nilFunc .nilFunc true
  | f2 (a b : Array TypeId) (v : Bool) (f : Fn) (x y : Array Value) : NilEq (.func a b v) (.func f x y) .nilFunc false
  | f3 (a b : Array TypeId) (v : Bool) (f : Fn) (x y : Array Value) : NilEq (.func a b v) .nilFunc (.func f x y) false
theorem y1l {t : TypeId} {c d : Value} {w : World} {D : TypeDesc} {r : Bool} (hu : P.underlying t = some D) (h : NilEq D c d r) : (Op.equal t c d).run P w = .ok r w := by
  show (Op.equalIn (9999 + 1) t c d).run P w = _
  rw [Op.equalIn]
  rw [Sem.run_bind, run_underlying hu, Result.andThen_ok]
  cases h <;> rfl
theorem cmp_run {op : BinOp} {t : TypeId} {c d : Value} {w : World} {X Y : Operand} {r neg : Bool}
    (hb : Go.binOp .eql t c d = (do pure (.bool (← Op.equal t c d)))) (hb' : Go.binOp .neq t c d = (do pure (.bool (!(← Op.equal t c d)))))
    (hop : negB neg op = true) (he : (Op.equal t c d).run P w = .ok r w) (hg : (eqGuard op t X Y c d).run P w = .ok () w) :
    (do eqGuard op t X Y c d; Go.binOp op t c d : Sem Value).run P w = .ok (.bool (if neg then !r else r)) w := by
  rw [Sem.run_bind, hg, Result.andThen_ok]
  unfold negB at hop
  cases neg
  · simp at hop; subst hop; rw [hb]; simp [he]
  · simp at hop; subst hop; rw [hb']; simp [he]
def isConstO : Operand → Bool
  | .const _ => true
  | _ => false
theorem y3x {op : BinOp} {t : TypeId} {w : World} {X Y : Operand} (h : isConstO X = true ∨ isConstO Y = true) :
    (eqGuard op t X Y .nilIface .nilIface).run P w = .ok () w := by
  have hx : (isConstO X || isConstO Y) = true := by rcases h with h | h <;> simp [h]
  cases op <;> first
    | rfl
    | (cases X <;> cases Y <;> first | rfl | (simp [isConstO] at hx))
theorem y1d {op : BinOp} {t : TypeId} {c d : Value} {w : World} {X Y : Operand} (h : match c, d with | .nilIface, .nilIface => isConstO X = true ∨ isConstO Y = true | .agg _, .agg _ => False | _, _ => True) :
    (eqGuard op t X Y c d).run P w = .ok () w := by
  cases c <;> cases d
  all_goals first
    | exact y3x h
    | exact absurd h id
    | (cases op <;> rfl)
theorem y3q {k : NilK} {op : BinOp} {t : TypeId} {x : AVal} {c : Value} {w : World} {X Y : Operand} {r neg : Bool} (hx : Rep Γ x c) (hv : isNil k x = some r) (hn : negB neg op = true) :
    (constNil P k t Y = true → (do eqGuard op t X Y c (a.eval Y); Go.binOp op t c (a.eval Y) : Sem Value).run P w = .ok (.bool (if neg then !r else r)) w) ∧
    (constNil P k t X = true → (do eqGuard op t X Y (a.eval X) c; Go.binOp op t (a.eval X) c : Sem Value).run P w = .ok (.bool (if neg then !r else r)) w) := by
  constructor
  all_goals
    intro hc
    unfold constNil at hc
    split at hc
    case h_2 => cases hc
    rename_i c0
    simp only [Act.eval]
    split at hc
    all_goals first | (cases hc; done) | rename_i hu
    all_goals
      split at hc
      all_goals first | (cases hc; done) | skip
    all_goals
      cases hx <;> simp only [isNil, reduceCtorEq, Option.some.injEq] at hv
    all_goals first
      | (subst hv; refine cmp_run rfl rfl hn (y1l hu (by constructor)) (y1d (by simp [isConstO])); done)
      | (split at hv <;> first | (cases hv; done) | skip
         rename_i hlt
         cases hv
         rename_i hT ha
         obtain ⟨ad, rfl⟩ := Option.isSome_iff_exists.1 (ha hlt)
         exact cmp_run rfl rfl hn (y1l hu (by constructor)) (y1d (by simp [isConstO])))
      | (rename_i xs _ _ _ _ _ _ _ _ _ _ _ _ _
         cases xs with
         | nil => cases hv
         | cons y ys =>
           simp only [isNil, Option.some.injEq] at hv
           subst hv
           exact cmp_run rfl rfl hn (y1l hu (by constructor)) (y1d (by simp [isConstO])))
      | skip
theorem y13 {off : Nat} {sz : Option Nat} {t : TypeId} {cs : List AVal} {ds : List Value} {v : AVal} {w : World} (hr : Reps Γ cs ds) (h1 : ∀ d, d ∈ ds → d.oneCell' = true) (hs : szB P t sz = true) (hv : part off sz cs = some v) :
    ∃ c, (Go.part t ds.toArray off).run P w = .ok c w ∧ Rep Γ v c := by
  unfold part at hv
  unfold szB at hs
  cases sz with
  | none =>
    simp at hs hv
    obtain ⟨d, hd, hrep⟩ := hr.get hv
    refine ⟨d, ?_, hrep⟩
    simp [Go.part, y20 hs, hd]
  | some n =>
    simp at hs hv
    obtain ⟨hle, rfl⟩ := hv
    refine ⟨.agg ((ds.drop off).take n).toArray, ?_, ?_⟩
    · simp [Go.part, y20 hs.1, run_sizeB hs.2]
    · exact .agg (((hr.drop off).take n).1) (((hr.drop off).take n).2) (fun d hd => h1 d (List.mem_of_mem_drop (List.mem_of_mem_take hd)))
theorem opt_reps (he : EnvRel Γ e a.tmps) {x : Option AOpd} {y : Option Operand} {v : Option AVal} (hk : chkOpt x y = true) (hv : optEv e x = some v) :
    (v = none ∧ y = none) ∨ ∃ u z, v = some u ∧ y = some z ∧ Rep Γ u (a.eval z) := by
  cases x with
  | none =>
    cases y <;> simp [chkOpt] at hk
    simp [optEv] at hv
    exact .inl ⟨hv.symm, rfl⟩
  | some x =>
    cases y <;> simp only [chkOpt, Bool.false_eq_true] at hk
    simp only [optEv] at hv
    split at hv
    · rename_i u hu
      cases hv
      exact .inr ⟨_, _, rfl, rfl, ev_rep he hk hu⟩
    · cases hv
end
end Go.Ev
namespace Go.Ev
set_option linter.unusedVariables false
set_option linter.unusedSimpArgs false
open Go
section
variable {P : Program} {Γ : Gh} {e : Env} {a : Act}
theorem y3i {t : TypeId} {n m : Nat} {x : Value} {ty : TypeId} {args : Array Value} {ts : Array TypeId} (w : World) (ht : ts[0]? = some t) (hx : args[0]? = some x)
    (h : P.underlying t = some (.array m n) ∨ ∃ e, P.underlying t = some (.pointer e) ∧ P.underlying e = some (.array m n)) :
    (Builtin.len_ ts ty args).run P w = .ok (goInt m) w ∧ (Builtin.cap_ ts ty args).run P w = .ok (goInt m) w := by
  rcases h with h | ⟨e, h, h'⟩
  · simp [Builtin.len_, Builtin.cap_, ht, hx, run_underlying h]
  · simp [Builtin.len_, Builtin.cap_, ht, hx, run_underlying h, run_underlying h']
theorem y2w {x : AOpd} {t : TypeId} {v : AVal} (h : chkLenC P x t = true) (hv : x.ev e = some v) :
    ∃ m n, v = .int .i64 (m : Nat) ∧ (P.underlying t = some (.array m n) ∨ ∃ e, P.underlying t = some (.pointer e) ∧ P.underlying e = some (.array m n)) := by
  unfold chkLenC at h
  split at h
  · rename_i n
    simp [AOpd.ev] at hv
    subst hv
    split at h
    · rename_i m k hu
      simp at h; subst h
      exact ⟨m, k, rfl, .inl hu⟩
    · rename_i e' hu
      split at h
      · rename_i m k hu'
        simp at h; subst h
        exact ⟨m, k, rfl, .inr ⟨e', hu, hu'⟩⟩
      · cases h
    · cases h
  · cases h
theorem mv_sound {o : Oper} {x : AOpd} {v : AVal} {w : World} (he : EnvRel Γ e a.tmps) (hk : chkMv P x o.op = true) (hv : x.ev e = some v) :
    ∃ c, (execOp a.eval o).run P w = .ok (.value c) w ∧ Rep Γ v c := by
  obtain ⟨dst, op, ty, pos, after, guard⟩ := o
  simp only at hk ⊢
  unfold chkMv at hk
  split at hk
  · exact ⟨_, rfl, ev_rep he hk hv⟩
  · exact ⟨_, rfl, ev_rep he hk hv⟩
  · rename_i c
    split at hk
    · rename_i hcal
      split at hk
      · rename_i t x0 ht hx0
        obtain ⟨m, n, rfl, hu⟩ := y2w hk hv
        refine ⟨goInt m, ?_, .int _ _⟩
        simp only [execOp, resolve, hcal, invoke, builtin]
        have := (y3i (P := P) (ty := ty) (args := c.args.map a.eval) (x := a.eval x0) w ht (by simp [hx0]) hu).1
        simp [this]
      · cases hk
    · rename_i hcal
      split at hk
      · rename_i t x0 ht hx0
        obtain ⟨m, n, rfl, hu⟩ := y2w hk hv
        refine ⟨goInt m, ?_, .int _ _⟩
        simp only [execOp, resolve, hcal, invoke, builtin]
        have := (y3i (P := P) (ty := ty) (args := c.args.map a.eval) (x := a.eval x0) w ht (by simp [hx0]) hu).2
        simp [this]
      · cases hk
    · cases hk
  · cases hk
theorem run_bnd {v : AVal} {c : Value} {y n : Nat} (code : BoundsCode) (w : World) (hr : Rep Γ v c) (h : bnd y v = some n) : (Instr.sliceBound c y code).run P w = .ok n w ∧ n ≤ y := by
  cases v <;> simp only [bnd, reduceCtorEq] at h
  rename_i k i
  split at h
  · rename_i hi
    cases h
    cases hr
    refine ⟨by simp [Instr.sliceBound, asIntOf, hi], by omega⟩
  · cases h
theorem y0w {b0 : Bool} {len cap l h m : Nat} {lo hi mx : Option AVal} {lo' hi' mx' : Option Operand} (w : World) (hlc : len ≤ cap)
    (h1 : (lo = none ∧ lo' = none) ∨ ∃ u z, lo = some u ∧ lo' = some z ∧ Rep Γ u (a.eval z)) (h2 : (hi = none ∧ hi' = none) ∨ ∃ u z, hi = some u ∧ hi' = some z ∧ Rep Γ u (a.eval z))
    (h3 : (mx = none ∧ mx' = none) ∨ ∃ u z, mx = some u ∧ mx' = some z ∧ Rep Γ u (a.eval z)) (hb : bounds len cap lo hi mx = some (l, h, m)) :
    (Instr.sliceBounds b0 len cap (lo'.map a.eval) (hi'.map a.eval) (mx'.map a.eval)).run P w = .ok (l, h, m) w ∧ l ≤ h ∧ h ≤ m ∧ m ≤ cap := by
  unfold bounds at hb
  split at hb
  · cases hb
  rename_i m' hm
  split at hb
  · cases hb
  rename_i h' hh
  split at hb
  · cases hb
  rename_i l' hl
  cases hb
  have em : (∀ x, mx' = some x → ∀ code, (Instr.sliceBound (a.eval x) cap code).run P w = .ok m w) ∧ (mx' = none → m = cap) ∧ m ≤ cap := by
    rcases h3 with ⟨rfl, rfl⟩ | ⟨u, z, rfl, rfl, hr⟩
    · simp at hm; subst hm; exact ⟨by simp, fun _ => rfl, Nat.le_refl _⟩
    · have := fun code => run_bnd (P := P) code w hr hm
      exact ⟨fun x hx code => by cases hx; exact (this code).1, by simp, (this .index).2⟩
  have eh : (∀ x, hi' = some x → ∀ code, (Instr.sliceBound (a.eval x) m code).run P w = .ok h w) ∧ (hi' = none → h = len ∧ mx' = none) ∧ h ≤ m := by
    rcases h2 with ⟨rfl, rfl⟩ | ⟨u, z, rfl, rfl, hr⟩
    · simp at hh
      obtain ⟨hn, rfl⟩ := hh
      have hmn : mx' = none := by
        rcases h3 with ⟨rfl, rfl⟩ | ⟨u, z, rfl, rfl, hr⟩
        · rfl
        · simp at hn
      refine ⟨by simp, fun _ => ⟨rfl, hmn⟩, ?_⟩
      have := em.2.1 hmn
      omega
    · have := fun code => run_bnd (P := P) code w hr hh
      exact ⟨fun x hx code => by cases hx; exact (this code).1, by simp, (this .index).2⟩
  have el : (∀ x, lo' = some x → ∀ code, (Instr.sliceBound (a.eval x) h code).run P w = .ok l w) ∧ (lo' = none → l = 0) ∧ l ≤ h := by
    rcases h1 with ⟨rfl, rfl⟩ | ⟨u, z, rfl, rfl, hr⟩
    · simp at hl; subst hl; exact ⟨by simp, fun _ => rfl, Nat.zero_le _⟩
    · have := fun code => run_bnd (P := P) code w hr hl
      exact ⟨fun x hx code => by cases hx; exact (this code).1, by simp, (this .index).2⟩
  refine ⟨?_, el.2.2, eh.2.2, em.2.2⟩
  unfold Instr.sliceBounds
  cases hmx : mx' with
  | none =>
    have e1 := em.2.1 hmx
    cases hhi : hi' with
    | none =>
      have e2 := (eh.2.1 hhi).1
      cases hlo : lo' with
      | none => have e3 := el.2.1 hlo; simp [e1, e2, e3]
      | some x => have := el.1 x hlo; simp [e1, e2]; rw [e2] at this; simp [this]
    | some y =>
      have e2 := eh.1 y hhi
      rw [e1] at e2
      cases hlo : lo' with
      | none => have e3 := el.2.1 hlo; simp [e1, e2, e3]
      | some x => have := el.1 x hlo; simp [e1, e2, this]
  | some z =>
    have e1 := em.1 z hmx
    cases hhi : hi' with
    | none => exact absurd (eh.2.1 hhi).2 (by simp [hmx])
    | some y =>
      have e2 := eh.1 y hhi
      cases hlo : lo' with
      | none => have e3 := el.2.1 hlo; simp [e1, e2, e3]
      | some x => have := el.1 x hlo; simp [e1, e2, this]
theorem y0c {α : Type} (off : Nat) (new cs : List α) (h : off + new.length ≤ cs.length) : (putCells off new cs).length = cs.length := by
  simp [putCells]; omega
theorem y39 {α : Type} (off : Nat) (cs : List α) : putCells off [] cs = cs := by simp [putCells]
theorem y4x {α : Type} (off : Nat) (c : α) (new cs : List α) (h : off + (new.length + 1) ≤ cs.length) : putCells (off + 1) new (cs.set off c) = putCells off (c :: new) cs := by
  have h1 : off < cs.length := by omega
  simp only [putCells, List.length_cons]
  have h2 : (cs.set off c).take (off + 1) = cs.take off ++ [c] := by
    rw [List.take_add_one]
    simp [List.take_set_of_le, h1]
  have h3 : (cs.set off c).drop (off + 1 + new.length) = cs.drop (off + (new.length + 1)) := by
    rw [List.drop_set_of_lt (by omega)]
    congr 1
    omega
  rw [h2, h3]
  simp
theorem Reps.put {cs ns : List AVal} {ds ms : List Value} (off : Nat) (h : Reps Γ cs ds) (h' : Reps Γ ns ms) : Reps Γ (putCells off ns cs) (putCells off ms ds) := by
  unfold putCells
  rw [h'.1]
  exact ((h.take off).append h').append (h.drop _)
theorem foldl_put (off : Nat) : ∀ (l : List Value) (k : Nat) (arr : Array Value), off + k + l.length ≤ arr.size →
    (l.zipIdx k).foldl (fun cs x => cs.setIfInBounds (off + x.2) x.1) arr = (putCells (off + k) l arr.toList).toArray
  | [], k, arr, _ => by simp [y39]
  | c :: l, k, arr, h => by
    simp only [List.length_cons] at h
    rw [List.zipIdx_cons, List.foldl_cons, foldl_put off l (k + 1) _ (by simp; omega)]
    congr 1
    rw [← y4x _ _ _ _ (by simp; omega)]
    simp [Nat.add_assoc]
theorem fill_put {place : Nat → Option (Nat × Nat)} : ∀ {parts : List (Nat × Nat × AOpd)} {ps : List (Nat × Operand)} {cs cs' : List AVal} {ds : List Value}, EnvRel Γ e a.tmps → chkParts place parts ps = true → Reps Γ cs ds →
    (∀ d, d ∈ ds → d.oneCell' = true) → buildA e parts cs = some cs' →
    ∃ ds', Instr.fill place ds.toArray (ps.map fun x => (x.1, a.eval x.2)) = some ds'.toArray ∧ Reps Γ cs' ds' ∧ ∀ d, d ∈ ds' → d.oneCell' = true
  | [], [], cs, cs', ds, he, hk, hr, h1, hb => by
    simp [buildA] at hb; subst hb
    exact ⟨ds, rfl, hr, h1⟩
  | [], _ :: _, _, _, _, _, hk, _, _, _ => by simp [chkParts] at hk
  | _ :: _, [], _, _, _, _, hk, _, _, _ => by simp [chkParts] at hk
  | (off, sz, x) :: parts, (i, y) :: ps, cs, cs', ds, he, hk, hr, h1, hb => by
    simp only [chkParts, Bool.and_eq_true, decide_eq_true_eq] at hk
    simp only [buildA] at hb
    split at hb
    · rename_i v hv
      split at hb
      · rename_i hw
        have hrv := ev_rep he hk.1.2 hv
        have hcv := hrv.cells
        have ht : ∀ vs, v ≠ .tup vs := by
          intro vs hvs
          subst hvs
          simp [AVal.solid] at hw
        have hone := hrv.cells_one ht
        have hlen : (a.eval y).cells.toList.length = sz := by rw [hcv.1]; exact hw.2.1
        have hput := hr.put off hcv
        obtain ⟨ds', hf, hr', h1'⟩ := fill_put (ps := ps) (ds := putCells off (a.eval y).cells.toList ds) he hk.2 hput (by
          intro d hd
          simp only [putCells, List.mem_append] at hd
          rcases hd with (hd | hd) | hd
          · exact h1 d (List.mem_of_mem_take hd)
          · exact hone d hd
          · exact h1 d (List.mem_of_mem_drop hd)) hb
        refine ⟨ds', ?_, hr', h1'⟩
        simp only [List.map_cons, Instr.fill, hk.1.1]
        have hsz : (a.eval y).cells.size = sz := by simpa using hlen
        rw [if_neg (by simp [hsz]; rw [hr.1]; omega)]
        rw [← hf]
        congr 1
        rw [← Array.foldl_toList]
        have := foldl_put off (a.eval y).cells.toList 0 ds.toArray (by simp [hsz]; rw [hr.1]; omega)
        simpa using this
      · cases hb
    · cases hb
theorem y4u {fs : List Field} {l : List (Nat × Nat)} (h : fs.mapM (fun f => (P.info? f.type).map fun i => (f.offset, i.size)) = some l) (w : World) :
    (fs.mapM (m := Sem) fun f => do pure (f.offset, ← sizeOf f.type)).run P w = .ok l w := by
  induction fs generalizing l with
  | nil => simp at h; subst h; simp
  | cons f fs ih =>
    simp only [List.mapM_cons, Option.bind_eq_bind, Option.bind_eq_some_iff, Option.pure_def, Option.some.injEq] at h
    obtain ⟨x, hx, r, hr, rfl⟩ := h
    rw [Option.map_eq_some_iff] at hx
    obtain ⟨i, hi, rfl⟩ := hx
    have h2 := ih hr
    simp [List.mapM_cons, sizeOf, run_typeInfo _ hi]
    simp [sizeOf] at h2
    simp [h2]
theorem scalB_i {e : TypeId} (h : scalB P .i e = true) : ∃ k, P.underlying e = some (.int k) := by
  unfold scalB at h
  split at h <;> first | (cases h; done) | skip
  · exact ⟨_, by assumption⟩
  · rename_i hq _; cases hq
  · rename_i hq _; cases hq
theorem scalB_b {e : TypeId} (h : scalB P .b e = true) : P.underlying e = some .bool := by
  unfold scalB at h
  split at h <;> first | (cases h; done) | skip
  · rename_i hq _; cases hq
  · assumption
  · rename_i hq _; cases hq
theorem scalB_s {e : TypeId} (h : scalB P .s e = true) : P.underlying e = some .string := by
  unfold scalB at h
  split at h <;> first | (cases h; done) | skip
  · rename_i hq _; cases hq
  · rename_i hq _; cases hq
  · assumption
theorem y48 (d : Nat) {q : SK} {e : TypeId} {u v : AVal} {c c' : Value} {w : World} {r : Bool} (hs : scalB P q e = true) (hu : Rep Γ u c) (hv : Rep Γ v c') (h : eqOne q u v = some r) : (Op.equalIn (d + 1) e c c').run P w = .ok r w := by
  unfold eqOne at h
  split at h <;> first | (cases h; done) | skip
  · split at h <;> first | (cases h; done) | skip
    rename_i hk
    subst hk
    cases h
    obtain ⟨k, hk⟩ := scalB_i hs
    rw [hu.int_inv, hv.int_inv, run_equalIn_int w d e _ _ _ _ hk]
    rfl
  · cases h
    rw [hu.bool_inv, hv.bool_inv, run_equalIn_bool' w d e _ _ (scalB_b hs)]
  · cases h
    rw [hu.str_inv, hv.str_inv, run_equalIn_string w d e _ _ (scalB_s hs)]
    simp [y34]
theorem y3d {q : SK} {qs : List SK} {x y : AVal} {xs ys : List AVal} {r : Bool} (h : eqCells (q :: qs) (x :: xs) (y :: ys) = some r) : ∃ a b, eqOne q x y = some a ∧ eqCells qs xs ys = some b ∧ r = (a && b) := by
  simp only [eqCells] at h
  split at h <;> first | (cases h; done) | skip
  rename_i a b h1 h2
  cases h
  exact ⟨a, b, h1, h2, rfl⟩
theorem y3h (d : Nat) {e : TypeId} {cs cs' : List AVal} {xs ys : List Value} {w : World} (hx : Reps Γ cs xs) (hy : Reps Γ cs' ys) (h1 : ∀ v, v ∈ xs → v.oneCell' = true) (h2 : ∀ v, v ∈ ys → v.oneCell' = true) (hsz : szB P e none = true) :
    ∀ (qs : List SK) (i : Nat) (as bs : List AVal) (r : Bool), cs.drop i = as → cs'.drop i = bs → (∀ q, q ∈ qs → scalB P q e = true) → eqCells qs as bs = some r →
      (Op.eqItems (d + 1) e 1 xs.toArray ys.toArray ((List.range' i qs.length))).run P w = .ok r w
  | [], i, as, bs, r, ha, hb, hq, h => by
    cases as <;> cases bs <;> simp [eqCells] at h
    subst h; rfl
  | q :: qs, i, as, bs, r, ha, hb, hq, h => by
    cases as with
    | nil => cases bs <;> simp [eqCells] at h
    | cons a as =>
      cases bs with
      | nil => simp [eqCells] at h
      | cons b bs =>
        obtain ⟨r1, r2, k1, k2, rfl⟩ := y3d h
        have ga : cs[i]? = some a := by rw [← List.head?_drop, ha]; rfl
        have gb : cs'[i]? = some b := by rw [← List.head?_drop, hb]; rfl
        obtain ⟨c, p1, p2⟩ := y13 (P := P) (w := w) (off := i) (sz := none) (t := e) hx h1 hsz (by simpa [part] using ga)
        obtain ⟨c', q1, q2⟩ := y13 (P := P) (w := w) (off := i) (sz := none) (t := e) hy h2 hsz (by simpa [part] using gb)
        have da : cs.drop (i + 1) = as := by rw [← List.drop_drop, ha]; rfl
        have db : cs'.drop (i + 1) = bs := by rw [← List.drop_drop, hb]; rfl
        have ih := y3h (w := w) d hx hy h1 h2 hsz qs (i + 1) as bs r2 da db (fun z hz => hq z (List.mem_cons_of_mem _ hz)) k2
        rw [List.length_cons, List.range'_succ]
        simp only [Op.eqItems, Sem.run_bind, Nat.mul_one, p1, q1, Result.andThen_ok, y48 d (w := w) (hq q (by simp)) p2 q2 k1]
        cases r1
        · rfl
        · simpa using ih
theorem y3a (d : Nat) {cs cs' : List AVal} {xs ys : List Value} {w : World} (hx : Reps Γ cs xs) (hy : Reps Γ cs' ys) (h1 : ∀ v, v ∈ xs → v.oneCell' = true) (h2 : ∀ v, v ∈ ys → v.oneCell' = true) :
    ∀ (qs : List SK) (fs : List Field) (i : Nat) (as bs : List AVal) (r : Bool), fieldsB P i qs fs = true → cs.drop i = as → cs'.drop i = bs → eqCells qs as bs = some r →
      (Op.eqFields (d + 1) xs.toArray ys.toArray fs).run P w = .ok r w
  | [], [], i, as, bs, r, hf, ha, hb, h => by
    cases as <;> cases bs <;> simp [eqCells] at h
    subst h; rfl
  | [], _ :: _, i, as, bs, r, hf, ha, hb, h => by simp [fieldsB] at hf
  | _ :: _, [], i, as, bs, r, hf, ha, hb, h => by simp [fieldsB] at hf
  | q :: qs, f :: fs, i, as, bs, r, hf, ha, hb, h => by
    simp only [fieldsB, Bool.and_eq_true, decide_eq_true_eq] at hf
    obtain ⟨⟨⟨⟨f1, f2⟩, f3⟩, f4⟩, f5⟩ := hf
    cases as with
    | nil => cases bs <;> simp [eqCells] at h
    | cons a as =>
      cases bs with
      | nil => simp [eqCells] at h
      | cons b bs =>
        obtain ⟨r1, r2, k1, k2, rfl⟩ := y3d h
        have ga : cs[i]? = some a := by rw [← List.head?_drop, ha]; rfl
        have gb : cs'[i]? = some b := by rw [← List.head?_drop, hb]; rfl
        obtain ⟨c, p1, p2⟩ := y13 (P := P) (w := w) (off := i) (sz := none) (t := f.type) hx h1 f4 (by simpa [part] using ga)
        obtain ⟨c', q1, q2⟩ := y13 (P := P) (w := w) (off := i) (sz := none) (t := f.type) hy h2 f4 (by simpa [part] using gb)
        have da : cs.drop (i + 1) = as := by rw [← List.drop_drop, ha]; rfl
        have db : cs'.drop (i + 1) = bs := by rw [← List.drop_drop, hb]; rfl
        have ih := y3a (w := w) d hx hy h1 h2 qs fs (i + 1) as bs r2 f5 da db k2
        simp only [Op.eqFields, f2, ne_eq, not_false_eq_true, if_true, Sem.run_bind, f1, p1, q1, Result.andThen_ok, y48 d (w := w) f3 p2 q2 k1]
        cases r1
        · rfl
        · simpa using ih
theorem eqv_sound {neg : Bool} {b : BinOp} {t : TypeId} {ks : List SK} {xs ys : List AVal} {c d : Value} {w : World} {X Y : Operand} {r : Bool} (hn : negB neg b = true) (hk : eqB P t ks = true) (h1 : Rep Γ (.agg xs) c) (h2 : Rep Γ (.agg ys) d)
    (hr : eqCells ks xs ys = some r) : (do eqGuard b t X Y c d; Go.binOp b t c d : Sem Value).run P w = .ok (.bool (if neg then !r else r)) w := by
  obtain ⟨cs, rfl, hx, ox⟩ := h1.agg_inv
  obtain ⟨ds, rfl, hy, oy⟩ := h2.agg_inv
  simp only [eqB, Bool.and_eq_true, Bool.not_eq_true'] at hk
  obtain ⟨hg, hk⟩ := hk
  refine cmp_run rfl rfl hn ?_ (run_eqGuard_agg w b t X Y _ _ hg)
  show (Op.equalIn 10000 t _ _).run P w = _
  split at hk
  · rename_i n e hu
    simp only [Bool.and_eq_true, decide_eq_true_eq] at hk
    obtain ⟨⟨⟨k1, k2⟩, k3⟩, k4⟩ := hk
    unfold sizeB at k4
    split at k4 <;> first | (cases k4; done) | skip
    rename_i inf hi
    have hc : P.cellsOf e = 1 := by
      have := of_decide_eq_true k4
      simp [Program.cellsOf, hi, this]
    rw [run_equalIn_array (w := w) 9999 cs.toArray ds.toArray hu hi, hc, List.range_eq_range', ← k1]
    exact y3h 9998 hx hy ox oy k3 ks 0 xs ys r rfl rfl (fun q hq => List.all_eq_true.1 k2 q hq) hr
  · rename_i fs hu
    simp only [Bool.and_eq_true, Bool.not_eq_true'] at hk
    have hf : P.fieldsOf t = fs := by simp [Program.fieldsOf, hu]
    rw [run_equalIn_struct w 9999 t _ _ (by rw [hf]; exact hu) hk.2, hf]
    exact y3a 9998 hx hy ox oy ks fs.toList 0 xs ys r hk.1 rfl rfl hr
  · cases hk
theorem evP_sound {o : Oper} {p : AOp} {v : AVal} {w : World} (he : EnvRel Γ e a.tmps) (hp : p.kind = .pure) (hk : chkP P p o.op = true) (hv : evP e p = some v) :
    ∃ c, (execOp a.eval o).run P w = .ok (.value c) w ∧ Rep Γ v c := by
  cases p <;> simp only [AOp.kind, reduceCtorEq] at hp
  case mv x => exact mv_sound he hk hv
  all_goals
    obtain ⟨dst, op, ty, pos, after, guard⟩ := o
    simp only at hk
  case pick c x y =>
    cases op <;> simp only [chkP, Bool.false_eq_true, Bool.and_eq_true] at hk
    rename_i c' x' y'
    simp only [evP] at hv
    split at hv
    · rename_i hc
      have h1 := ev_rep he hk.1.1 hc
      have h2 := ev_rep he hk.1.2 hv
      refine ⟨_, ?_, h2⟩
      simp only [execOp]
      generalize a.eval c' = cc at h1
      cases h1
      simp [asBool]
    · rename_i hc
      have h1 := ev_rep he hk.1.1 hc
      have h2 := ev_rep he hk.2 hv
      refine ⟨_, ?_, h2⟩
      simp only [execOp]
      generalize a.eval c' = cc at h1
      cases h1
      simp [asBool]
    · cases hv
  case bin b x y =>
    cases op <;> simp only [chkP, Bool.false_eq_true, Bool.and_eq_true, decide_eq_true_eq] at hk
    rename_i b' t x' y' yt
    simp only [evP] at hv
    split at hv
    · rename_i u v' hx hy
      obtain ⟨r, hr, hrep⟩ := bin_sound (t := t) (w := w) (X := x') (Y := y') (P := P) (ev_rep he hk.1.2 hx) (ev_rep he hk.2 hy) hv
      rw [hk.1.1] at hr
      exact ⟨r, exec_v rfl hr, hrep⟩
    · cases hv
  case eqv neg d x y =>
    cases op <;> simp only [chkP, Bool.false_eq_true, Bool.and_eq_true] at hk
    rename_i b t x' y' yt
    simp only [evP] at hv
    split at hv
    · rename_i u v' hx hy
      split at hv
      · rename_i r hr
        cases hv
        cases d
        · simp only [eqA] at hr
          split at hr
          · cases hr
            have h1 := ev_rep he hk.1.1.2 hx
            have h2 := ev_rep he hk.1.2 hy
            have h3 := hk.2
            simp only [Bool.and_eq_true] at h3
            replace h3 := h3.2
            split at h3 <;> first | (cases h3; done) | skip
            rename_i hu
            refine ⟨_, exec_v rfl ?_, .bool _⟩
            generalize a.eval x' = cx at h1 ⊢
            generalize a.eval y' = cy at h2 ⊢
            cases h1; cases h2
            exact cmp_run rfl rfl hk.1.1.1 (y1l hu (.b _ _)) (y1d (by simp))
          · cases hr
        · rename_i ks
          simp only [eqA] at hr
          split at hr
          · rename_i xs ys
            have h1 := ev_rep he hk.1.1.2 hx
            have h2 := ev_rep he hk.1.2 hy
            exact ⟨_, exec_v rfl (eqv_sound hk.1.1.1 hk.2 h1 h2 hr), .bool _⟩
          · cases hr
      · cases hv
    · cases hv
  case isnil k neg x =>
    cases op <;> simp only [chkP, Bool.false_eq_true, Bool.and_eq_true, Bool.or_eq_true] at hk
    rename_i b t x' y' yt
    simp only [evP] at hv
    split at hv
    · rename_i u hx
      split at hv
      · rename_i r hr
        cases hv
        rcases hk.2 with ⟨h1, h2⟩ | ⟨h1, h2⟩
        · exact ⟨_, exec_v rfl ((y3q (X := x') (w := w) (t := t) (a := a) (ev_rep he h1 hx) hr hk.1).1 h2), .bool _⟩
        · exact ⟨_, exec_v rfl ((y3q (Y := y') (w := w) (t := t) (a := a) (ev_rep he h1 hx) hr hk.1).2 h2), .bool _⟩
      · cases hv
    · cases hv
  case un u x =>
    cases op <;> simp only [chkP, Bool.false_eq_true, Bool.and_eq_true, decide_eq_true_eq] at hk
    rename_i u' t x'
    simp only [evP] at hv
    split at hv
    · rename_i y hx
      have h1 := ev_rep he hk.2 hx
      obtain ⟨rfl, _⟩ := hk
      generalize hcx : a.eval x' = cx at h1
      cases u <;> cases y <;> simp [unA] at hv
      · subst hv; cases h1
        exact ⟨_, exec_v rfl (by rw [hcx]; simp [Op.unary, Op.intArith]), .int _ _⟩
      · subst hv; cases h1
        exact ⟨_, exec_v rfl (by rw [hcx]; simp [Op.unary, Op.intBits]), .int _ _⟩
      · subst hv; cases h1
        exact ⟨_, exec_v rfl (by rw [hcx]; simp [Op.unary]), .bool _⟩
    · cases hv
  case cvi k x =>
    cases op <;> simp only [chkP, Bool.false_eq_true, Bool.and_eq_true] at hk
    rename_i s d x'
    simp only [evP] at hv
    split at hv
    · rename_i k' n hx
      cases hv
      have h1 := ev_rep he hk.1.1 hx
      have h3 := hk.2
      obtain ⟨D, hD⟩ := Option.isSome_iff_exists.1 hk.1.2
      split at h3 <;> first | (cases h3; done) | skip
      rename_i k'' hu
      have : k = k'' := by simpa using h3
      subst this
      refine ⟨_, exec_v rfl ?_, .int _ _⟩
      generalize a.eval x' = cx at h1
      cases h1
      simp only [Go.convert, Sem.run_bind, run_underlying hD, run_underlying hu, Result.andThen_ok]
      rfl
    · cases hv
  case cvs x =>
    cases op <;> simp only [chkP, Bool.false_eq_true, Bool.and_eq_true] at hk
    rename_i s d x'
    simp only [evP] at hv
    split at hv
    · rename_i k' hx
      cases hv
      have h1 := ev_rep he hk.1.1 hx
      have h2 := hk.1.2
      have h3 := hk.2
      unfold isStrB at h2 h3
      split at h2 <;> first | (cases h2; done) | skip
      rename_i hu
      split at h3 <;> first | (cases h3; done) | skip
      rename_i hu'
      refine ⟨_, exec_v rfl ?_, h1⟩
      generalize a.eval x' = cx at h1
      cases h1
      simp only [Go.convert, Sem.run_bind, run_underlying hu, run_underlying hu', Result.andThen_ok]
      rfl
    · cases hv
  case mki t x =>
    cases op <;> simp only [chkP, Bool.false_eq_true, Bool.and_eq_true, decide_eq_true_eq] at hk
    rename_i t' x'
    simp only [evP] at hv
    split at hv
    · rename_i y hx
      cases hv
      have h1 := ev_rep he hk.1.2 hx
      obtain ⟨⟨rfl, _⟩, h3⟩ := hk
      refine ⟨_, exec_v rfl ?_, .iface t h1⟩
      split at h3 <;> first | (cases h3; done) | skip
      rename_i D hne hu
      simp only [Instr.makeInterface, Sem.run_bind, run_underlying hu, Result.andThen_ok]
      rfl
    · cases hv
  case mkf f caps =>
    cases op <;> simp only [chkP, Bool.false_eq_true] at hk
    rename_i fn first caps'
    cases fn <;> simp only [Bool.false_eq_true, Bool.and_eq_true, decide_eq_true_eq] at hk
    rename_i f'
    simp only [evP] at hv
    split at hv
    · rename_i vs hvs
      cases hv
      have h1 := evs_reps he hk.2 hvs
      obtain ⟨⟨rfl, h2⟩, _⟩ := hk
      have h2' : first = #[] := by simpa using h2
      subst h2'
      refine ⟨.func (.func f) #[] (caps'.map a.eval), exec_v rfl ?_, ?_⟩
      · simp [Instr.makeFunc]
      · rw [show caps'.map a.eval = (caps'.toList.map a.eval).toArray from by apply Array.ext'; simp]
        exact Rep.fn f h1.1 h1.2
    · cases hv
  case fld off sz x =>
    cases op <;> simp only [chkP, Bool.false_eq_true, Bool.and_eq_true] at hk
    rename_i t x' i
    simp only [evP] at hv
    split at hv
    · rename_i cs hx
      have h1 := ev_rep he hk.1 hx
      have h2 := hk.2
      unfold fieldB at h2
      split at h2 <;> first | (cases h2; done) | skip
      rename_i fs hu
      split at h2 <;> first | (cases h2; done) | skip
      rename_i f hf
      simp only [Bool.and_eq_true, decide_eq_true_eq] at h2
      obtain ⟨ds, hcx, hr, h1⟩ := h1.agg_inv
      obtain ⟨c, hc, hrep⟩ := y13 (P := P) (w := w) hr h1 h2.2 hv
      refine ⟨c, exec_v rfl ?_, hrep⟩
      rw [hcx]
      simp only [Instr.field, Sem.run_bind, run_underlying hu, Result.andThen_ok, hf, asAgg, Sem.run_pure, h2.1]
      exact hc
    · cases hv
  case ixs x i =>
    cases op <;> simp only [chkP, Bool.false_eq_true, Bool.and_eq_true] at hk
    rename_i t x' i'
    simp only [evP] at hv
    split at hv
    · rename_i s k n hx hi
      split at hv
      · rename_i h0
        rw [Option.map_eq_some_iff] at hv
        obtain ⟨b, hb, rfl⟩ := hv
        have h1 := ev_rep he hk.1.1 hx
        have h2 := ev_rep he hk.1.2 hi
        have h3 := hk.2
        unfold isStrB at h3
        split at h3 <;> first | (cases h3; done) | skip
        rename_i hu
        refine ⟨_, exec_v rfl ?_, .int _ _⟩
        generalize a.eval x' = cx at h1
        generalize a.eval i' = ci at h2
        cases h1; cases h2
        have hlt : n.toNat < s.length := (List.getElem?_eq_some_iff.1 hb).1
        have hbs : (ByteArray.mk s.toArray)[n.toNat]? = some b := by
          rw [getElem?_pos _ _ (by simpa [ByteArray.size] using hlt)]
          have : s[n.toNat] = b := by simpa [hlt] using hb
          rw [← this]
          rfl
        simp [Instr.index, asIntOf, run_underlying hu, h0, hbs]
      · cases hv
    · cases hv
  case ixa len es sz x i =>
    cases op <;> simp only [chkP, Bool.false_eq_true, Bool.and_eq_true] at hk
    rename_i t x' i'
    simp only [evP] at hv
    split at hv
    · rename_i cs k n hx hi
      split at hv
      · rename_i h0
        have h1 := ev_rep he hk.1.1 hx
        have h2 := ev_rep he hk.1.2 hi
        have h3 := hk.2
        unfold arrB at h3
        split at h3 <;> first | (cases h3; done) | skip
        rename_i m el hu
        simp only [Bool.and_eq_true, decide_eq_true_eq] at h3
        obtain ⟨rfl, h4, h5⟩ := h3
        obtain ⟨ds, hcx, hr, h1⟩ := h1.agg_inv
        have hci := h2.int_inv
        obtain ⟨c, hc, hrep⟩ := y13 (P := P) (w := w) hr h1 h5 hv
        refine ⟨c, exec_v rfl ?_, hrep⟩
        rw [hcx, hci]
        simp [Instr.index, asIntOf, run_underlying hu, h0, run_sizeB h4, hc]
      · cases hv
    · cases hv
  case fa off x =>
    cases op <;> simp only [chkP, Bool.false_eq_true, Bool.and_eq_true] at hk
    rename_i t x' i
    have h2 := hk.2
    unfold fieldB at h2
    split at h2 <;> first | (cases h2; done) | skip
    rename_i fs hu
    split at h2 <;> first | (cases h2; done) | skip
    rename_i f hf
    simp only [Bool.and_eq_true, decide_eq_true_eq] at h2
    obtain ⟨rfl, h3⟩ := h2
    split at h3 <;> first | (cases h3; done) | skip
    rename_i fi hfi
    have h4 : ¬ fi.size = 0 := by have : 0 < fi.size := by simpa using h3
                                  omega
    have place : ∀ ad : Addr, (Instr.fieldAt t (.pointer (some ad)) i).run P w = .ok (.pointer (some (ad.add f.offset))) w := by
      intro ad
      simp only [Instr.fieldAt, Sem.run_bind, run_underlying hu, Result.andThen_ok, hf, Instr.sureAddr, Sem.run_pure, fieldPlace, sizeOf, run_typeInfo _ hfi, h4, if_false]
    simp only [evP] at hv
    split at hv
    · rename_i b o hx
      cases hv
      obtain ⟨g, hc, hm⟩ := (ev_rep he hk.1 hx).ptr_inv
      refine ⟨.pointer (some ((⟨g, o, none⟩ : Addr).add f.offset)), exec_v rfl ?_, ?_⟩
      · rw [hc]; exact place _
      · have : (⟨g, o, none⟩ : Addr).add f.offset = ⟨g, o + f.offset, none⟩ := by
          unfold Addr.add; split <;> simp_all
        rw [this]; exact .ptr hm
    · rename_i cs hx
      split at hv
      · rename_i hlt
        cases hv
        obtain ⟨g, off, fv, hc, h5, h6, h7, h8⟩ := (ev_rep he hk.1 hx).ro_inv
        refine ⟨.pointer (some ((⟨g, off, none⟩ : Addr).add f.offset)), exec_v rfl ?_, ?_⟩
        · rw [hc]; exact place _
        · have : (⟨g, off, none⟩ : Addr).add f.offset = ⟨g, off + f.offset, none⟩ := by
            unfold Addr.add; split <;> simp_all
          rw [this]
          refine .ro (fun j => fv (f.offset + j)) (fun c hc => h5 c (List.mem_of_mem_drop hc)) ?_ ?_ ?_
          · intro j c hj; rw [List.getElem?_drop] at hj; rw [Nat.add_assoc]; exact h6 _ c hj
          · intro j c hj; rw [List.getElem?_drop] at hj; exact h7 _ c hj
          · intro j c hj; rw [List.getElem?_drop] at hj; exact h8 _ c hj
      · cases hv
    · rename_i o l c hx
      cases hv
      obtain ⟨g, cap, hc, hm⟩ := (ev_rep he hk.1 hx).lptr_inv
      refine ⟨.pointer (some ((⟨g, c, none⟩ : Addr).add f.offset)), exec_v rfl ?_, ?_⟩
      · rw [hc]; exact place _
      · have : (⟨g, c, none⟩ : Addr).add f.offset = ⟨g, c + f.offset, none⟩ := by
          unfold Addr.add; split <;> simp_all
        rw [this]; exact .lptr hm
    · cases hv
  case nc x =>
    cases op <;> simp only [chkP, Bool.false_eq_true] at hk
    rename_i x'
    simp only [evP] at hv
    split at hv
    · rename_i b o hx
      cases hv
      have h1 := ev_rep he hk hx
      obtain ⟨g, hc, hm⟩ := h1.ptr_inv
      exact ⟨_, by simp only [execOp, hc]; rfl, hc ▸ h1⟩
    · rename_i cs hx
      cases hv
      have h1 := ev_rep he hk hx
      obtain ⟨g, off, fv, hc, _⟩ := h1.ro_inv
      exact ⟨_, by simp only [execOp, hc]; rfl, hc ▸ h1⟩
    · rename_i o l c hx
      cases hv
      have h1 := ev_rep he hk hx
      obtain ⟨g, cap, hc, hm⟩ := h1.lptr_inv
      exact ⟨_, by simp only [execOp, hc]; rfl, hc ▸ h1⟩
    · cases hv
  case iaa len es x i =>
    cases op <;> simp only [chkP, Bool.false_eq_true, Bool.and_eq_true] at hk
    rename_i t x' i'
    have h3 := hk.2
    unfold arrB at h3
    split at h3 <;> first | (cases h3; done) | skip
    rename_i m el hu
    simp only [Bool.and_eq_true, decide_eq_true_eq] at h3
    obtain ⟨rfl, h4⟩ := h3
    have place : ∀ (ad : Addr) (k : IntKind) (n : Int), 0 ≤ n → n < m → (Instr.indexAt t (.pointer (some ad)) (.int k n)).run P w = .ok (.pointer (some (ad.add (n.toNat * es)))) w := by
      intro ad k n h0 h1
      simp only [Instr.indexAt, Sem.run_bind, asIntOf, Sem.run_pure, run_underlying hu, Result.andThen_ok, Instr.sureAddr, h0, h1, and_self, if_true, run_sizeB h4]
    simp only [evP] at hv
    split at hv
    · rename_i b o k n hx hi
      split at hv
      · rename_i h0
        cases hv
        obtain ⟨g, hc, hm⟩ := (ev_rep he hk.1.1 hx).ptr_inv
        have hci := (ev_rep he hk.1.2 hi).int_inv
        refine ⟨.pointer (some ((⟨g, o, none⟩ : Addr).add (n.toNat * es))), exec_v rfl ?_, ?_⟩
        · rw [hc, hci]; exact place _ _ _ h0.1 h0.2
        · have : (⟨g, o, none⟩ : Addr).add (n.toNat * es) = ⟨g, o + n.toNat * es, none⟩ := by
            unfold Addr.add; split <;> simp_all
          rw [this]; exact .ptr hm
      · cases hv
    · rename_i cs k n hx hi
      split at hv
      · rename_i h0
        cases hv
        obtain ⟨g, off, fv, hc, h5, h6, h7, h8⟩ := (ev_rep he hk.1.1 hx).ro_inv
        have hci := (ev_rep he hk.1.2 hi).int_inv
        refine ⟨.pointer (some ((⟨g, off, none⟩ : Addr).add (n.toNat * es))), exec_v rfl ?_, ?_⟩
        · rw [hc, hci]; exact place _ _ _ h0.1 h0.2.1
        · have : (⟨g, off, none⟩ : Addr).add (n.toNat * es) = ⟨g, off + n.toNat * es, none⟩ := by
            unfold Addr.add; split <;> simp_all
          rw [this]
          refine .ro (fun j => fv (n.toNat * es + j)) (fun c hc => h5 c (List.mem_of_mem_drop hc)) ?_ ?_ ?_
          · intro j c hj; rw [List.getElem?_drop] at hj; rw [Nat.add_assoc]; exact h6 _ c hj
          · intro j c hj; rw [List.getElem?_drop] at hj; exact h7 _ c hj
          · intro j c hj; rw [List.getElem?_drop] at hj; exact h8 _ c hj
      · cases hv
    · cases hv
  case ext i x =>
    cases op <;> simp only [chkP, Bool.false_eq_true, Bool.and_eq_true, decide_eq_true_eq] at hk
    rename_i x' j
    obtain ⟨hk, rfl⟩ := hk
    simp only [evP] at hv
    split at hv
    · rename_i vs hx
      obtain ⟨ds, hc, hr⟩ := (ev_rep he hk hx).tup_inv
      obtain ⟨d, hd, hrep⟩ := hr.get hv
      refine ⟨d, exec_v rfl ?_, hrep⟩
      rw [hc]
      simp [Instr.extract, hd]
    · cases hv
  case build zs parts =>
    cases op <;> simp only [chkP, Bool.false_eq_true, Bool.and_eq_true] at hk
    rename_i t ps
    simp only [evP] at hv
    split at hv
    · rename_i cs hb
      cases hv
      obtain ⟨z, hz, hrz, h1⟩ := run_zeroB (Γ := Γ) hk.1 w
      have h2 := hk.2
      split at h2 <;> first | (cases h2; done) | skip
      rename_i pl hpl
      obtain ⟨ds', hf, hr', h1'⟩ := fill_put (ps := ps.toList) he h2 hrz h1 hb
      refine ⟨.agg ds'.toArray, exec_v rfl ?_, .agg hr'.1 hr'.2 h1'⟩
      have hf' : Instr.fill pl z.cells ((ps.map fun x => (x.1, a.eval x.2)).toList) = some ds'.toArray := by
        rw [← hf]; simp
      unfold placesOf at hpl
      split at hpl
      · rename_i fs hu
        split at hpl <;> first | (cases hpl; done) | skip
        rename_i l hl
        cases hpl
        have hm := y4u hl w
        have hm' : (fs.mapM (m := Sem) fun f => do pure (f.offset, ← sizeOf f.type)).run P w = .ok l.toArray w := by
          rw [← Array.toArray_toList (xs := fs), List.mapM_toArray, Sem.run_map, hm]
          rfl
        simp only [Instr.build, Sem.run_bind, Result.andThen_ok, hz, run_underlying hu, hm', Sem.run_pure]
        have : (fun (i : Nat) => l.toArray[i]?) = fun (i : Nat) => l[i]? := by funext i; simp
        simp only [this, hf']
        rfl
      · rename_i n el hu
        split at hpl <;> first | (cases hpl; done) | skip
        rename_i ti hti
        cases hpl
        simp only [Instr.build, Sem.run_bind, Result.andThen_ok, hz, run_underlying hu, sizeOf, run_typeInfo _ hti, Sem.run_pure, hf']
      · cases hpl
    · cases hv
  case mm isMax x y =>
    cases op <;> simp only [chkP, Bool.false_eq_true, Bool.and_eq_true] at hk
    rename_i c
    obtain ⟨hk1, hk2⟩ := hk
    split at hk1 <;> first | (cases hk1; done) | skip
    rename_i b hcal
    split at hk2 <;> first | (cases hk2; done) | skip
    rename_i x' y' hargs
    simp only [Bool.and_eq_true] at hk2
    have hb : b = if isMax = true then .max else .min := by simpa using hk1
    simp only [evP] at hv
    split at hv
    · rename_i k m k' n hx hy
      split at hv
      · rename_i hkk
        subst hkk
        cases hv
        have hcx := (ev_rep he hk2.1 hx).int_inv
        have hcy := (ev_rep he hk2.2 hy).int_inv
        have hmap : (c.args.map a.eval).toList = [.int k m, .int k n] := by simp [hargs, hcx, hcy]
        refine ⟨_, ?_, .int _ _⟩
        subst hb
        cases isMax
        · simp [execOp, resolve, hcal, invoke, builtin, Builtin.min_, Builtin.min2, hargs, hcx, hcy]
        · simp [execOp, resolve, hcal, invoke, builtin, Builtin.max_, Builtin.max2, hargs, hcx, hcy]
      · cases hv
    · cases hv
  case slcs x lo hi =>
    cases op <;> simp only [chkP, Bool.false_eq_true, Bool.and_eq_true] at hk
    rename_i t x' lo' hi' mx'
    simp only [evP] at hv
    split at hv
    · rename_i s lov hiv hx hlo hhi
      split at hv
      · rename_i l h m hb
        cases hv
        have hc := (ev_rep he hk.1.1.1.1 hx).str_inv
        have hmx : mx' = none := by simpa using hk.1.2
        subst hmx
        have h3 := hk.2
        unfold isStrB at h3
        split at h3 <;> first | (cases h3; done) | skip
        rename_i hu
        obtain ⟨hbr, h1, h2, h4⟩ := y0w (P := P) (b0 := false) (mx' := none) w (Nat.le_refl _) (opt_reps he hk.1.1.1.2 hlo) (opt_reps he hk.1.1.2 hhi) (.inl ⟨rfl, rfl⟩) hb
        refine ⟨.string ⟨((s.take h).drop l).toArray⟩, exec_v rfl ?_, .str _⟩
        rw [hc]
        have hsz : (ByteArray.mk s.toArray).size = s.length := y21
        simp only [Option.map_none] at hbr
        have hex : (ByteArray.mk s.toArray).extract l h = ⟨((s.take h).drop l).toArray⟩ := by
          apply ByteArray.ext
          simp [List.drop_take]
        simp only [Instr.sliceAt, Sem.run_bind, run_underlying hu, Result.andThen_ok, Instr.slice, Option.map_none, Option.isSome_none, hsz, Bool.false_eq_true, if_false]
        simp only [Sem.run_bind, hbr, Result.andThen_ok, Sem.run_pure, hex]
      · cases hv
    · cases hv
end
end Go.Ev
namespace Go.Ev
set_option linter.unusedVariables false
set_option linter.unusedSimpArgs false
open Go
theorem addr_add (g o n : Nat) : (⟨g, o, none⟩ : Addr).add n = ⟨g, o + n, none⟩ := by
  unfold Addr.add; split <;> simp_all
theorem OkB.step {Γ Γ' : Gh} {w w' : World} {b : Nat} {B : ABlock} (h : OkB Γ w b B) (hl : Γ.le Γ')
    (hown : ∀ g, Γ.own g = some b → Γ'.own g = some b ∧ w'.heap[g]? = w.heap[g]? ∧ ∀ o, Γ'.M g o = Γ.M g o)
    (hk : Γ'.mu b = Γ.mu b ∧ ∀ l, Γ'.T b l = Γ.T b l) : OkB Γ' w' b B := by
  cases B with
  | hole => exact ⟨hk.1.trans h.1, fun l => (hk.2 l).trans (h.2 l)⟩
  | dead => trivial
  | cells vs =>
    obtain ⟨g, cs, ty, h1, h2, h3, h4, h5, h6⟩ := h
    obtain ⟨o1, o2, o3⟩ := hown g h2
    exact ⟨g, cs, ty, hl.mu _ _ h1, o1, o2.trans h3, fun o => (o3 o).trans (h4 o), h5.mono hl, h6⟩
  | grow es xs op =>
    obtain ⟨c, h1, h0, h2, h3⟩ := h
    refine ⟨c, hl.T _ _ _ h1, fun l hlt => (hk.2 l).trans (h0 l hlt), h2, ?_⟩
    rcases h3 with ⟨h3, h4⟩ | ⟨g, cap, cs, ty, e1, e2, e3, e4, e5, e6, e7, e8, e9, e10, e11, e12⟩
    · exact .inl ⟨h3, h4.mono hl⟩
    · obtain ⟨o1, o2, o3⟩ := hown g e2
      exact .inr ⟨g, cap, cs, ty, e1, o1, o2.trans e3, e4, e5, e6, e7, e8.mono hl, e9, e10, fun j hj => (o3 j).trans (e11 j hj), fun j hj => (o3 j).trans (e12 j hj)⟩
  | mp es =>
    obtain ⟨g, ents, clock, h1, h2, h3, h4, h5⟩ := h
    obtain ⟨o1, o2, _⟩ := hown g h2
    exact ⟨g, ents, clock, hl.mu _ _ h1, o1, o2.trans h3, h4, fun i k v e hk he => ⟨(h5 i k v e hk he).1.mono hl, (h5 i k v e hk he).2.mono hl⟩⟩
theorem y2n {H H' : Heap} {id : Nat} {B : ABlock} (h : newAt H id B = some H') :
    H'[id]? = some B ∧ (∀ b, b ≠ id → H'[b]? = H[b]?) ∧ H.length ≤ H'.length ∧ id < H'.length ∧ (∀ b, H'.length ≤ b → H.length ≤ b ∧ b ≠ id) ∧ (id = H.length ∨ H[id]? = some .hole) := by
  unfold newAt at h
  split at h
  · rename_i he
    cases h
    subst he
    refine ⟨by simp, ?_, by simp, by simp, fun b hb => by simp at hb; omega, .inl rfl⟩
    intro b hb
    by_cases hlt : b < H.length
    · rw [List.getElem?_append_left hlt]
    · rw [List.getElem?_append_right (by omega), List.getElem?_eq_none (l := H) (by omega)]
      rw [List.getElem?_eq_none]; simp; omega
  · split at h
    · rename_i hh
      cases h
      have hlt := (List.getElem?_eq_some_iff.1 hh).1
      refine ⟨by simp [hlt], ?_, by simp, by simpa using hlt, fun b hb => by simp at hb; omega, .inr hh⟩
      intro b hb
      rw [List.getElem?_set_ne (Ne.symm hb)]
    · cases h
theorem y2i {Γ : Gh} {H H' : Heap} {w : World} {id : Nat} {B : ABlock} (hR : Rel Γ H w) (h : newAt H id B = some H') : Γ.mu id = none ∧ ∀ l, Γ.T id l = none := by
  rcases (y2n h).2.2.2.2.2 with rfl | hh
  · exact hR.dom _ (Nat.le_refl _)
  · exact hR.blk _ _ hh
def Gh.place (Γ : Gh) (id g : Nat) : Gh := { Γ with mu := fun b => if b = id then some g else Γ.mu b, own := fun k => if k = g then some id else Γ.own k }
theorem Gh.le_place {Γ : Gh} {id g : Nat} (h : Γ.mu id = none) : Γ.le (Γ.place id g) := by
  refine ⟨fun _ _ _ h => h, ?_, fun _ _ _ h => h⟩
  intro b k hb
  simp only [Gh.place]
  split
  · rename_i e; subst e; rw [h] at hb; cases hb
  · exact hb
theorem y0p (w : World) (o : Obj) {g : Nat} (h : g < w.heap.size) : (w.alloc o).heap[g]? = w.heap[g]? := by
  exact heap_alloc_old w o g h
theorem y1e (w : World) (o : Obj) : (w.alloc o).heap[w.heap.size]? = some o := heap_alloc_new w o
theorem Rel.memLt {Γ : Gh} {H : Heap} {w : World} (hR : Rel Γ H w) {g o : Nat} {c : Value} (h : Γ.M g o = some c) : g < w.heap.size :=
  World.block_lt_of_cell? w _ (hR.mem g o c h)
theorem Rel.noM {Γ : Gh} {H : Heap} {w : World} (hR : Rel Γ H w) {g : Nat} (h : w.heap.size ≤ g) (o : Nat) : Γ.M g o = none := by
  cases hm : Γ.M g o with
  | none => rfl
  | some c => have := hR.memLt hm; omega
theorem y1z (w : World) (o : Obj) {a : Addr} (h : a.block < w.heap.size) : (w.alloc o).cell? a = w.cell? a := by
  simp only [World.cell?, y0p w o h]
theorem Rel.place {Γ : Gh} {H H' : Heap} {w : World} {id : Nat} {B : ABlock} {o : Obj} (hR : Rel Γ H w) (hn : newAt H id B = some H')
    (hB : ∀ Γ' w', Γ.le Γ' → Γ'.mu id = some w.heap.size → Γ'.own w.heap.size = some id → w'.heap[w.heap.size]? = some o → (∀ j, Γ'.M w.heap.size j = none) → OkB Γ' w' id B) :
    Rel (Γ.place id w.heap.size) H' (w.alloc o) ∧ Stp Γ w (Γ.place id w.heap.size) (w.alloc o) ∧ (Γ.place id w.heap.size).mu id = some w.heap.size := by
  have hf := y2i hR hn
  have hs := y2n hn
  have hle := Gh.le_place (g := w.heap.size) hf.1
  have hmu : (Γ.place id w.heap.size).mu id = some w.heap.size := by simp [Gh.place]
  have hown : (Γ.place id w.heap.size).own w.heap.size = some id := by simp [Gh.place]
  have hownlt : ∀ g b, Γ.own g = some b → g < w.heap.size := hR.owned
  refine ⟨⟨?_, ?_, ?_, ?_⟩, ?_, hmu⟩
  · intro g k c hm
    have hlt := hR.memLt hm
    rw [y1z w o hlt]
    exact hR.mem g k c hm
  · intro b B' hb
    by_cases e : b = id
    · subst e
      rw [hs.1] at hb
      cases hb
      exact hB _ _ hle hmu hown (y1e w o) (fun j => hR.noM (Nat.le_refl _) j)
    · rw [hs.2.1 b e] at hb
      refine (hR.blk b B' hb).step hle ?_ ?_
      · intro g hg
        have hlt := hownlt g b hg
        refine ⟨?_, y0p w o hlt, fun _ => rfl⟩
        simp only [Gh.place]
        rw [if_neg (by omega)]; exact hg
      · simp only [Gh.place]
        exact ⟨by rw [if_neg e], fun _ => trivial⟩
  · intro b hb
    obtain ⟨h1, h2⟩ := hs.2.2.2.2.1 b hb
    simp only [Gh.place]
    rw [if_neg h2]
    exact hR.dom b h1
  · intro g b hg
    simp only [Gh.place] at hg
    split at hg
    · rename_i e; subst e; simp
    · have := hownlt g b hg; simp; omega
  · refine ⟨hle, ?_, fun _ _ _ _ => rfl, by simp, fun g hg _ => y0p w o hg, rfl, rfl, rfl⟩
    intro g hg ho
    simp only [Gh.place]
    rw [if_neg (by omega)]; exact ho
theorem Rel.newCells {Γ : Gh} {H H' : Heap} {w : World} {id : Nat} {vs : List AVal} {cs : Array Value} {ty : TypeId} (hR : Rel Γ H w) (hn : newAt H id (.cells vs) = some H')
    (hr : Reps Γ vs cs.toList) (h1 : ∀ c, c ∈ cs.toList → c.oneCell' = true) :
    Rel (Γ.place id w.heap.size) H' (w.alloc (.cells cs ty)) ∧ Stp Γ w (Γ.place id w.heap.size) (w.alloc (.cells cs ty)) ∧ (Γ.place id w.heap.size).mu id = some w.heap.size :=
  hR.place hn fun Γ' w' hle hmu hown hh hM => ⟨_, cs, ty, hmu, hown, hh, hM, hr.mono hle, h1⟩
theorem Rel.newMap {Γ : Gh} {H H' : Heap} {w : World} {id : Nat} (hR : Rel Γ H w) (hn : newAt H id (.mp []) = some H') :
    Rel (Γ.place id w.heap.size) H' (w.alloc (.map #[] 0)) ∧ Stp Γ w (Γ.place id w.heap.size) (w.alloc (.map #[] 0)) ∧ (Γ.place id w.heap.size).mu id = some w.heap.size :=
  hR.place hn fun Γ' w' hle hmu hown hh hM => ⟨_, #[], 0, hmu, hown, hh, rfl, by simp⟩
theorem y02 (w : World) (g : Nat) (cur c : Array Value) (t : TypeId) (fr : Nat × Nat) (hg : w.heap[g]? = some (.cells cur t fr)) : (w.setRow g c).heap[g]? = some (.cells c t fr) :=
  setRow_heap w g cur c t fr hg
theorem y0n (w : World) (g k : Nat) (c : Array Value) (h : k ≠ g) : (w.setRow g c).heap[k]? = w.heap[k]? := setRow_other w g k c h
theorem y19 (w : World) (g : Nat) (c : Array Value) : (w.setRow g c).heap.size = w.heap.size := by simp [World.setRow]
theorem Rel.write {Γ Γ' : Gh} {H : Heap} {w : World} {b g : Nat} {B B0 : ABlock} {o : Obj} {w' : World} (hR : Rel Γ H w) (hb : H[b]? = some B0) (hown : Γ.own g = some b)
    (hle : Γ.le Γ') (hOwn : ∀ k, Γ'.own k = Γ.own k) (hmu : ∀ k, k ≠ b → Γ'.mu k = Γ.mu k ∧ ∀ l, Γ'.T k l = Γ.T k l) (hM : ∀ k j, k ≠ g → Γ'.M k j = Γ.M k j)
    (hw1 : w'.heap[g]? = some o) (hw2 : ∀ k, k ≠ g → w'.heap[k]? = w.heap[k]?) (hsz : w'.heap.size = w.heap.size) (hos : w'.os = w.os) (htp : w'.tape = w.tape) (hout : w'.output = w.output)
    (hmem : ∀ j c, Γ'.M g j = some c → w'.cell? ⟨g, j, none⟩ = some c) (hB : OkB Γ' w' b B) :
    Rel Γ' (H.set b B) w' ∧ Stp Γ w Γ' w' := by
  have hlt : b < H.length := (List.getElem?_eq_some_iff.1 hb).1
  refine ⟨⟨?_, ?_, ?_, ?_⟩, ?_⟩
  · intro k j c hm
    by_cases e : k = g
    · subst e; exact hmem j c hm
    · rw [hM k j e] at hm
      have := hR.mem k j c hm
      simpa [World.cell?, hw2 k e] using this
  · intro k B' hk
    by_cases e : k = b
    · subst e
      rw [List.getElem?_set_self hlt] at hk
      cases hk
      exact hB
    · rw [List.getElem?_set_ne (Ne.symm e)] at hk
      refine (hR.blk k B' hk).step hle ?_ ?_
      · intro g' hg'
        have hne : g' ≠ g := by intro e2; subst e2; rw [hown] at hg'; cases hg'; exact e rfl
        exact ⟨(hOwn g').trans hg', hw2 g' hne, fun o => hM g' o hne⟩
      · exact hmu k e
  · intro k hk
    simp only [List.length_set] at hk
    have hne : k ≠ b := by omega
    exact ⟨(hmu k hne).1.trans (hR.dom k hk).1, fun l => ((hmu k hne).2 l).trans ((hR.dom k hk).2 l)⟩
  · intro k x hk
    rw [hsz]
    exact hR.owned k x ((hOwn k).symm.trans hk)
  · refine ⟨hle, fun k _ h => (hOwn k).trans h, ?_, Nat.le_of_eq hsz.symm, ?_, hos, htp, hout⟩
    · intro k o hk ho
      have hne : k ≠ g := by intro e; subst e; rw [hown] at ho; cases ho
      exact hM k o hne
    · intro k hk ho
      have hne : k ≠ g := by intro e; subst e; rw [hown] at ho; cases ho
      exact hw2 k hne
theorem Rel.cells {Γ : Gh} {H : Heap} {w : World} {b : Nat} {vs : List AVal} (hR : Rel Γ H w) (hb : H[b]? = some (.cells vs)) :
    ∃ g cs ty, Γ.mu b = some g ∧ Γ.own g = some b ∧ w.heap[g]? = some (.cells cs ty (0, 0)) ∧ (∀ o, Γ.M g o = none) ∧ Reps Γ vs cs.toList ∧ ∀ c, c ∈ cs.toList → c.oneCell' = true := hR.blk b _ hb
theorem Rel.writeCells {Γ : Gh} {H : Heap} {w : World} {b g : Nat} {vs vs' : List AVal} {cs cs' : Array Value} {ty : TypeId} (hR : Rel Γ H w) (hb : H[b]? = some (.cells vs)) (hmu : Γ.mu b = some g) (hown : Γ.own g = some b)
    (hg : w.heap[g]? = some (.cells cs ty (0, 0))) (hM : ∀ o, Γ.M g o = none) (hr : Reps Γ vs' cs'.toList) (h1 : ∀ c, c ∈ cs'.toList → c.oneCell' = true) :
    Rel Γ (H.set b (.cells vs')) (w.setRow g cs') ∧ Stp Γ w Γ (w.setRow g cs') := by
  refine hR.write hb hown (.refl Γ) (fun _ => rfl) (fun _ _ => ⟨rfl, fun _ => rfl⟩) (fun _ _ _ => rfl) (y02 w g cs cs' ty (0, 0) hg) (fun k hk => y0n w g k cs' hk) (y19 w g cs') rfl rfl rfl ?_ ?_
  · intro j c hm; rw [hM j] at hm; cases hm
  · exact ⟨g, cs', ty, hmu, hown, y02 w g cs cs' ty (0, 0) hg, hM, hr, h1⟩
theorem cell_at {w : World} {g o : Nat} {cs : Array Value} {ty : TypeId} {fr : Nat × Nat} (hg : w.heap[g]? = some (.cells cs ty fr)) : w.cell? ⟨g, o, none⟩ = cs[o]? := cell_of_row w g o cs ty fr hg
section
variable {P : Program}
theorem y10 {t : TypeId} {w : World} {g o : Nat} {c : Value} (ha : aggB P t = some false) (hc : w.cell? ⟨g, o, none⟩ = some c) : (loadVar t ⟨g, o, none⟩).run P w = .ok c w := by
  simp [loadVar, y20 ha, hc]
theorem y1j {t : TypeId} {w : World} {g o n : Nat} {cs : List Value} (ha : aggB P t = some true) (hs : sizeB P t n = true) (hl : cs.length = n)
    (hc : ∀ j v, cs[j]? = some v → w.cell? ⟨g, o + j, none⟩ = some v) : (loadVar t ⟨g, o, none⟩).run P w = .ok (.agg cs.toArray) w := by
  have := run_loadCells_list (P := P) w ⟨g, o, none⟩ cs (fun j v hv => by rw [addr_add]; exact hc j v hv)
  rw [hl] at this
  simp [loadVar, y20 ha, run_sizeB hs, this]
theorem y28 {t : TypeId} {w : World} {g o n : Nat} {c : Value} {cs : Array Value} {ty : TypeId} (hs : sizeB P t n = true) (hl : c.cells.size = n) (h1 : ∀ d, d ∈ c.cells.toList → d.oneCell' = true)
    (hg : w.heap[g]? = some (.cells cs ty (0, 0))) (hle : o + n ≤ cs.size) :
    (storeVar t ⟨g, o, none⟩ c).run P w = .ok () (w.setRow g (putCells o c.cells.toList cs.toList).toArray) := by
  have hst := run_storeCells_at P g o ty c.cells.toList 0 cs w hg (by simp [hl]; omega) h1
  simp only [Nat.add_zero] at hst
  simp only [storeVar, Sem.run_bind, run_sizeB hs, Result.andThen_ok, hl]
  simp [hst, putCells]
end
end Go.Ev
namespace Go.Ev
set_option linter.unusedVariables false
set_option linter.unusedSimpArgs false
open Go
theorem y1g (xs ys : List AVal) : flatL (xs ++ ys) = flatL xs ++ flatL ys := by
  induction xs with
  | nil => rfl
  | cons x xs ih => simp [flatL, ih]
theorem y01 {xs : List AVal} {es : Nat} (h : ∀ x, x ∈ xs → x.width = es) : (flatL xs).length = xs.length * es := by
  induction xs with
  | nil => simp [flatL]
  | cons x xs ih =>
    simp only [flatL, List.length_append, List.length_cons]
    rw [ih (fun y hy => h y (by simp [hy]))]
    have : x.flat.length = es := h x (by simp)
    rw [this, Nat.add_mul]; omega
theorem flatL_get {xs : List AVal} {es n : Nat} {y : AVal} (h : ∀ x, x ∈ xs → x.width = es) (hn : xs[n]? = some y) {j : Nat} {c : AVal} (hj : y.flat[j]? = some c) : (flatL xs)[n * es + j]? = some c := by
  induction xs generalizing n with
  | nil => simp at hn
  | cons x xs ih =>
    have hx : x.flat.length = es := h x (by simp)
    cases n with
    | zero =>
      simp at hn; subst hn
      simp only [flatL, Nat.zero_mul, Nat.zero_add]
      rw [List.getElem?_append_left (by rw [hx]; have := (List.getElem?_eq_some_iff.1 hj).1; rw [hx] at this; exact this)]
      exact hj
    | succ n =>
      simp at hn
      simp only [flatL]
      have e : (n + 1) * es + j = es + (n * es + j) := by rw [Nat.add_mul]; omega
      rw [e, List.getElem?_append_right (by omega), hx]
      rw [show es + (n * es + j) - es = n * es + j by omega]
      exact ih (fun y hy => h y (by simp [hy])) hn
theorem y24 {xs : List AVal} {es : Nat} (h : ∀ x, x ∈ xs → x.width = es) (n : Nat) : flatL (xs.take n) = (flatL xs).take (n * es) := by
  induction xs generalizing n with
  | nil => simp [flatL]
  | cons x xs ih =>
    have hx : x.flat.length = es := h x (by simp)
    cases n with
    | zero => simp [flatL]
    | succ n =>
      simp only [List.take_succ_cons, flatL]
      rw [ih (fun y hy => h y (by simp [hy])), List.take_append]
      rw [hx, show (n + 1) * es - es = n * es by rw [Nat.add_mul]; omega]
      rw [List.take_of_length_le (l := x.flat) (by rw [hx, Nat.add_mul]; omega)]
theorem y5x {xs : List AVal} {es : Nat} (h : ∀ x, x ∈ xs → x.width = es) (n : Nat) : flatL (xs.drop n) = (flatL xs).drop (n * es) := by
  induction xs generalizing n with
  | nil => simp [flatL]
  | cons x xs ih =>
    have hx : x.flat.length = es := h x (by simp)
    cases n with
    | zero => simp
    | succ n =>
      simp only [List.drop_succ_cons, flatL]
      rw [ih (fun y hy => h y (by simp [hy])), List.drop_append]
      rw [hx, show (n + 1) * es - es = n * es by rw [Nat.add_mul]; omega]
      rw [List.drop_of_length_le (l := x.flat) (by rw [hx, Nat.add_mul]; omega)]
      simp
theorem width_all {es : Nat} {xs : List AVal} (h : xs.all (fun y => decide (y.width = es)) = true) : ∀ x, x ∈ xs → x.width = es := by
  intro x hx
  simpa using List.all_eq_true.1 h x hx
theorem grow_lst {Γ : Gh} {w : World} {b es : Nat} {xs : List AVal} (h : OkB Γ w b (.grow es xs none)) : ∃ c, Γ.T b xs.length = some c ∧ Rep Γ (.lst xs false) c := by
  obtain ⟨c, h1, _, h2, h3⟩ := h
  refine ⟨c, h1, ?_⟩
  rcases h3 with ⟨_, h4⟩ | ⟨g, cap, cs, ty, rfl, e2, e3, e4, e5, e6, e7, e8, e9, e10, e11, e12⟩
  · rcases h4.lst_inv with ⟨rfl, base, cap, rfl, hE⟩ | ⟨g, off, cap, es, f, rfl, k1, k2, k3, k4, k5, k6, k7⟩
    · exact Rep.emp (hE.imp id fun h => ⟨h.1, by simp⟩)
    · exact .lst f k1 (by simp) k3 k4 k5 k6 k7
  · have hfl := y01 e7
    simp only [Option.getD_none] at e10 e11 e12
    have get : ∀ (j : Nat) (c : AVal), (flatL xs)[j]? = some c → ∃ d, cs[j]? = some d ∧ Γ.M g (0 + j) = some d ∧ d.oneCell' = true ∧ Rep Γ c d := by
      intro j c hj
      obtain ⟨d, hd, hr⟩ := e8.get hj
      have hlt : j < (flatL xs).length := (List.getElem?_eq_some_iff.1 hj).1
      rw [List.getElem?_take, if_pos hlt] at hd
      have hd' : cs[j]? = some d := by simpa using hd
      refine ⟨d, hd', ?_, e9 d (List.mem_of_getElem? hd), hr⟩
      rw [Nat.zero_add, e11 j (by omega), hd']
    refine .lst (fun j => cs.getD j undef) e4 (by simp) e7 h2 ?_ ?_ ?_
    · intro j c hj
      obtain ⟨d, hd, hm, _, _⟩ := get j c hj
      rw [hm]; simp [Array.getD_eq_getD_getElem?, hd]
    · intro j c hj
      obtain ⟨d, hd, _, h1, _⟩ := get j c hj
      simp [Array.getD_eq_getD_getElem?, hd, h1]
    · intro j c hj
      obtain ⟨d, hd, _, _, hr⟩ := get j c hj
      simpa [Array.getD_eq_getD_getElem?, hd] using hr
theorem Rep.lst_false {Γ : Gh} {xs : List AVal} {e : Bool} {c : Value} (h : Rep Γ (.lst xs e) c) : Rep Γ (.lst xs false) c := by
  rcases h.lst_inv with ⟨rfl, base, cap, rfl, hE⟩ | ⟨g, off, cap, es, f, rfl, k1, k2, k3, k4, k5, k6, k7⟩
  · exact Rep.emp (hE.imp id fun h => ⟨h.1, by simp⟩)
  · exact .lst f k1 (by simp) k3 k4 k5 k6 k7
theorem y26 {Γ : Gh} {H : Heap} {w : World} {o len : Nat} {v : AVal} {c : Value} (hR : Rel Γ H w) (h : Rep Γ (.gl o len) c) (hv : growAt H o len = some v) :
    ∃ es xs, v = .lst xs false ∧ xs.length = len ∧ H[o]? = some (.grow es xs none) ∧ Rep Γ v c := by
  unfold growAt at hv
  split at hv
  · rename_i es xs hx
    split at hv
    · rename_i hl
      cases hv
      obtain ⟨c', h1, h2⟩ := grow_lst (hR.blk _ _ hx)
      obtain ⟨ad, cap, rfl, h3, _⟩ := h.gl_inv
      rw [hl] at h1
      rw [h1] at h3
      cases h3
      exact ⟨es, xs, rfl, hl, hx, h2⟩
    · cases hv
  · cases hv
theorem shut_both {Γ : Gh} {H : Heap} {w : World} (hR : Rel Γ H w) : ∀ v, (∀ v' c, shutV H v = some v' → Rep Γ v c → Rep Γ v' c ∧ rfree v' ∧ v'.solid = v.solid) := by
  intro v
  induction v using AVal.rec (motive_2 := fun vs => ∀ vs' cs, shutL H vs = some vs' → Reps Γ vs cs → Reps Γ vs' cs ∧ lowL 0 vs' = true) with
  | nil =>
    rename_i hv hr
    simp [shutL] at hv; subst hv; exact ⟨hr, rfl⟩
  | cons v vs ih1 ih2 =>
    rename_i vs' cs hv hr
    simp only [shutL] at hv
    split at hv
    · rename_i a ha
      split at hv
      · rename_i b hb
        cases hv
        cases cs with
        | nil => have := hr.1; simp at this
        | cons d ds =>
          have h0 : Rep Γ v d := hr.2 0 v d rfl rfl
          have hs : Reps Γ vs ds := ⟨by simpa using hr.1, fun i x y hx hy => hr.2 (i + 1) x y (by simpa using hx) (by simpa using hy)⟩
          have r1 := ih1 a d ha h0
          have r2 := ih2 b ds hb hs
          exact ⟨Reps.cons r1.1 r2.1, by simp only [lowL, Bool.and_eq_true]; exact ⟨r1.2.1, r2.2⟩⟩
      · cases hv
    · cases hv
  | int k n => intro v' c hv hr; simp [shutV] at hv; subst hv; exact ⟨hr, rfl, rfl⟩
  | bool b => intro v' c hv hr; simp [shutV] at hv; subst hv; exact ⟨hr, rfl, rfl⟩
  | str b => intro v' c hv hr; simp [shutV] at hv; subst hv; exact ⟨hr, rfl, rfl⟩
  | nilp => intro v' c hv hr; simp [shutV] at hv; subst hv; exact ⟨hr, rfl, rfl⟩
  | nili => intro v' c hv hr; simp [shutV] at hv; subst hv; exact ⟨hr, rfl, rfl⟩
  | nilf => intro v' c hv hr; simp [shutV] at hv; subst hv; exact ⟨hr, rfl, rfl⟩
  | nilm => intro v' c hv hr; simp [shutV] at hv; subst hv; exact ⟨hr, rfl, rfl⟩
  | ro b => intro v' c hv hr; simp [shutV] at hv; subst hv; exact ⟨hr, rfl, rfl⟩
  | lst xs e => intro v' c hv hr; simp [shutV] at hv; subst hv; exact ⟨hr.lst_false, rfl, rfl⟩
  | emp b =>
    intro v' c hv hr
    simp [shutV] at hv; subst hv
    cases hr with
    | empN => exact ⟨.lstN _, rfl, rfl⟩
    | empE => exact ⟨.lstE (by simp), rfl, rfl⟩
  | gl o len =>
    intro v' c hv hr
    simp only [shutV] at hv
    obtain ⟨_, xs, rfl, _, _, h⟩ := y26 hR hr hv
    exact ⟨h, rfl, rfl⟩
  | agg cs ih =>
    intro v' c hv hr
    simp only [shutV] at hv
    split at hv
    · rename_i cs' hc
      cases hv
      obtain ⟨ds, rfl, hrs, h1⟩ := hr.agg_inv
      obtain ⟨r1, r2⟩ := ih _ _ hc hrs
      exact ⟨.agg r1.1 r1.2 h1, by simpa [rfree, lowV] using r2, rfl⟩
    · cases hv
  | tup cs ih =>
    intro v' c hv hr
    simp only [shutV] at hv
    split at hv
    · rename_i cs' hc
      cases hv
      obtain ⟨ds, rfl, hrs⟩ := hr.tup_inv
      obtain ⟨r1, r2⟩ := ih _ _ hc hrs
      exact ⟨.tup r1.1 r1.2, by simpa [rfree, lowV] using r2, rfl⟩
    · cases hv
  | iface t v ih =>
    intro v' c hv hr
    simp only [shutV] at hv
    split at hv
    · rename_i u hu
      cases hv
      cases hr with | iface _ h =>
      obtain ⟨r1, r2, _⟩ := ih _ _ hu h
      exact ⟨.iface t r1, by simpa [rfree, lowV] using r2, rfl⟩
    · cases hv
  | fn f cs ih =>
    intro v' c hv hr
    simp only [shutV] at hv
    split at hv
    · rename_i cs' hc
      cases hv
      obtain ⟨ds, rfl, hrs⟩ := hr.fn_inv
      obtain ⟨r1, r2⟩ := ih _ _ hc hrs
      exact ⟨.fn f r1.1 r1.2, by simpa [rfree, lowV] using r2, rfl⟩
    · cases hv
  | _ => intro v' c hv hr; simp [shutV] at hv
theorem y3t {Γ : Gh} {H : Heap} {w : World} (hR : Rel Γ H w) {v v' : AVal} {c : Value} (hv : shutV H v = some v') (hr : Rep Γ v c) : Rep Γ v' c ∧ rfree v' := ⟨(shut_both hR v v' c hv hr).1, (shut_both hR v v' c hv hr).2.1⟩
theorem y1v {Γ : Gh} {H : Heap} {w : World} (hR : Rel Γ H w) : ∀ {vs vs' : List AVal} {cs : List Value}, shutL H vs = some vs' → Reps Γ vs cs → Reps Γ vs' cs ∧ ∀ x, x ∈ vs' → rfree x
  | [], vs', cs, hv, hr => by simp [shutL] at hv; subst hv; exact ⟨hr, by simp⟩
  | v :: vs, vs', cs, hv, hr => by
    simp only [shutL] at hv
    split at hv
    · rename_i a ha
      split at hv
      · rename_i b hb
        cases hv
        cases cs with
        | nil => have := hr.1; simp at this
        | cons d ds =>
          have h0 : Rep Γ v d := hr.2 0 v d rfl rfl
          have hs : Reps Γ vs ds := ⟨by simpa using hr.1, fun i x y hx hy => hr.2 (i + 1) x y (by simpa using hx) (by simpa using hy)⟩
          have r1 := y3t hR ha h0
          have r2 := y1v hR hb hs
          refine ⟨Reps.cons r1.1 r2.1, ?_⟩
          intro x hx
          simp only [List.mem_cons] at hx
          rcases hx with rfl | hx
          · exact r1.2
          · exact r2.2 x hx
      · cases hv
    · cases hv
end Go.Ev
namespace Go.Ev
set_option linter.unusedVariables false
set_option linter.unusedSimpArgs false
open Go
def flatV (l : List Value) : List Value := l.flatMap fun v => v.cells.toList
theorem y2o {Γ : Gh} : ∀ {ys : List AVal} {cs : List Value}, Reps Γ ys cs → Reps Γ (flatL ys) (flatV cs)
  | [], cs, h => by
    have : cs = [] := List.eq_nil_of_length_eq_zero (by simpa using h.1)
    subst this; exact Reps.nil Γ
  | y :: ys, [], h => by have := h.1; simp at this
  | y :: ys, c :: cs, h => by
    have h0 : Rep Γ y c := h.2 0 y c rfl rfl
    have hs : Reps Γ ys cs := ⟨by simpa using h.1, fun i x y hx hy => h.2 (i + 1) x y (by simpa using hx) (by simpa using hy)⟩
    simp only [flatL, flatV, List.flatMap_cons]
    exact h0.cells.append (y2o hs)
def groupV (w : Option Nat) : (n : Nat) → List Value → List Value
  | 0, _ => []
  | n + 1, cs => match w with
    | none => (cs.take 1) ++ groupV w n (cs.drop 1)
    | some k => .agg (cs.take k).toArray :: groupV w n (cs.drop k)
theorem y1n {Γ : Gh} {w : Option Nat} : ∀ {n : Nat} {cs : List AVal} {ds : List Value}, Reps Γ cs ds → (∀ d, d ∈ ds → d.oneCell' = true) → Reps Γ (group w n cs) (groupV w n ds)
  | 0, cs, ds, h, h1 => Reps.nil Γ
  | n + 1, cs, ds, h, h1 => by
    cases w with
    | none =>
      simp only [group, groupV]
      exact (h.take 1).append (y1n (h.drop 1) (fun d hd => h1 d (List.mem_of_mem_drop hd)))
    | some k =>
      simp only [group, groupV]
      exact Reps.cons (.agg (h.take k).1 (h.take k).2 (fun d hd => h1 d (List.mem_of_mem_take hd))) (y1n (h.drop k) (fun d hd => h1 d (List.mem_of_mem_drop hd)))
theorem cells_one {d : Value} (h : d.oneCell' = true) : d.cells.toList = [d] := by cases d <;> simp_all [Value.oneCell', Value.cells]
theorem flatV_one {l : List Value} (h : ∀ d, d ∈ l → d.oneCell' = true) : flatV l = l := by
  induction l with
  | nil => rfl
  | cons d l ih =>
    simp only [flatV, List.flatMap_cons]
    rw [cells_one (h d (by simp))]
    have := ih (fun x hx => h x (by simp [hx]))
    simp only [flatV] at this
    simp [this]
theorem y1q {w : Option Nat} : ∀ {n : Nat} {ds : List Value}, (∀ d, d ∈ ds → d.oneCell' = true) → flatV (groupV w n ds) = ds.take (n * wide w)
  | 0, ds, h1 => by simp [groupV, flatV]
  | n + 1, ds, h1 => by
    cases w with
    | none =>
      simp only [groupV, wide, Option.getD_none, Nat.mul_one]
      have ih := y1q (w := none) (n := n) (ds := ds.drop 1) (fun d hd => h1 d (List.mem_of_mem_drop hd))
      simp only [wide, Option.getD_none, Nat.mul_one] at ih
      have e1 : flatV (ds.take 1 ++ groupV none n (ds.drop 1)) = flatV (ds.take 1) ++ flatV (groupV none n (ds.drop 1)) := by simp [flatV]
      rw [e1, ih, flatV_one (fun d hd => h1 d (List.mem_of_mem_take hd)), ← List.take_add, Nat.add_comm 1 n]
    | some k =>
      simp only [groupV, wide, Option.getD_some]
      have ih := y1q (w := some k) (n := n) (ds := ds.drop k) (fun d hd => h1 d (List.mem_of_mem_drop hd))
      simp only [wide, Option.getD_some] at ih
      have e1 : flatV (.agg (ds.take k).toArray :: groupV (some k) n (ds.drop k)) = ds.take k ++ flatV (groupV (some k) n (ds.drop k)) := by simp [flatV, Value.cells]
      rw [e1, ih, ← List.take_add]
      congr 1
      rw [Nat.add_mul]; omega
theorem y1k {w : Option Nat} : ∀ {n : Nat} {cs : List AVal}, n * wide w ≤ cs.length → (group w n cs).length = n
  | 0, cs, h => rfl
  | n + 1, cs, h => by
    cases w with
    | none =>
      simp only [wide, Option.getD_none, Nat.mul_one] at h
      simp only [group, List.length_append, List.length_take]
      rw [y1k (w := none) (by simp [wide]; omega)]
      omega
    | some k =>
      simp only [wide, Option.getD_some] at h
      have h' : n * k + k ≤ cs.length := by rw [Nat.add_mul] at h; omega
      simp only [group, List.length_cons]
      rw [y1k (w := some k) (by simp only [wide, Option.getD_some, List.length_drop]; omega)]
structure Holds (P : Program) (Γ : Gh) (w : World) (ys : List AVal) (c : Value) (ds : List Value) : Prop where
  reps : Reps Γ (flatL ys) ds
  one : ∀ d, d ∈ ds → d.oneCell' = true
  free : ∀ y, y ∈ ys → rfree y
  len : (Builtin.lenOf c).run P w = .ok ys.length w
  first : ∀ size n, (∀ y, y ∈ ys → y.width = size) → n ≤ ys.length → (Builtin.firstCells size n c).run P w = .ok (ds.take (n * size)).toArray w
theorem y1m {P : Program} {w : World} {g off len cap size n : Nat} {ds : List Value} {m : Nat} (hl : ds.length = m * size) (hn : n ≤ m) (hc : ∀ (j : Nat) (v : Value), ds[j]? = some v → w.cell? ⟨g, off + j, none⟩ = some v) :
    (Builtin.firstCells size n (.slice (some ⟨g, off, none⟩) len cap)).run P w = .ok (ds.take (n * size)).toArray w := by
  refine run_firstCells_some w size n ⟨g, off, none⟩ len cap (ds.take (n * size)) ?_ ?_
  · rw [List.length_take, hl]
    exact Nat.min_eq_left (Nat.mul_le_mul_right _ hn)
  · intro j v hv
    rw [List.getElem?_take] at hv
    split at hv
    · rw [addr_add]; exact hc j v hv
    · cases hv
theorem lst_holds {P : Program} {Γ : Gh} {H : Heap} {w : World} {xs : List AVal} {e : Bool} {c : Value} (hR : Rel Γ H w) (h : Rep Γ (.lst xs e) c) : ∃ ds, Holds P Γ w xs c ds := by
  rcases h.lst_inv with ⟨rfl, base, cap, rfl, hE⟩ | ⟨g, off, cap, es, f, rfl, k1, k2, k3, k4, k5, k6, k7⟩
  · refine ⟨[], Reps.nil Γ, by simp, by simp, by simp [Builtin.lenOf], ?_⟩
    intro size n _ hn
    have : n = 0 := by simpa using hn
    subst this
    cases base <;> simp [Builtin.firstCells, loadCells, loadCellsFrom]
  · have hfl := y01 k3
    refine ⟨(List.range (flatL xs).length).map f, ⟨by simp, ?_⟩, ?_, k4, by simp [Builtin.lenOf], ?_⟩
    · intro i x d hx hd
      have hi : i < (flatL xs).length := (List.getElem?_eq_some_iff.1 hx).1
      simp [hi] at hd
      subst hd
      exact k7 i x hx
    · intro d hd
      simp only [List.mem_map, List.mem_range] at hd
      obtain ⟨i, hi, rfl⟩ := hd
      exact k6 i _ (List.getElem?_eq_getElem hi)
    · intro size n hw hn
      by_cases he : xs = []
      · subst he
        have : n = 0 := by simpa using hn
        subst this
        simp [Builtin.firstCells, loadCells, loadCellsFrom]
      · have hsz : size = es := by
          cases xs with
          | nil => exact absurd rfl he
          | cons x xs => rw [← hw x (by simp), k3 x (by simp)]
        subst hsz
        refine y1m (m := xs.length) (by simp [hfl]) hn ?_
        intro j v hv
        have hj : j < (flatL xs).length := by
          have := (List.getElem?_eq_some_iff.1 hv).1
          simpa using this
        simp [hj] at hv
        subst hv
        exact hR.mem _ _ _ (k5 j _ (List.getElem?_eq_getElem hj))
theorem gl_holds {P : Program} {Γ : Gh} {H : Heap} {w : World} {o len es : Nat} {ys : List AVal} {op : Option Nat} {c : Value} (hR : Rel Γ H w) (hb : H[o]? = some (.grow es ys op)) (hlen : ys.length = len) (h : Rep Γ (.gl o len) c) :
    ∃ ds, Holds P Γ w ys c ds := by
  subst hlen
  obtain ⟨c0, k1, k0, k2, k3⟩ := hR.blk _ _ hb
  obtain ⟨ad, cap0, hcs, hT, had⟩ := h.gl_inv
  rw [hcs] at hT
  rw [k1] at hT
  cases hT
  rcases k3 with ⟨_, k3⟩ | ⟨g, cap, cs, ty, e1, _, e3, e4, e5, e6, e7, e8, e9, _, _, _⟩
  · rw [hcs]
    exact lst_holds hR k3
  · rw [hcs]
    have hfl := y01 e7
    have htl : (cs.toList.take (flatL ys).length).length = ys.length * es := by
      rw [List.length_take, hfl, Nat.min_eq_left (by simpa [e5] using Nat.mul_le_mul_right _ e4)]
    refine ⟨cs.toList.take (flatL ys).length, e8, fun d hd => e9 d (List.mem_of_mem_take hd), k2, by simp [Builtin.lenOf], ?_⟩
    intro size n hw hn
    by_cases he : ys = []
    · subst he
      have : n = 0 := by simpa using hn
      subst this
      cases ad <;> simp [Builtin.firstCells, loadCells, loadCellsFrom]
    · have hsz : size = es := by
        cases ys with
        | nil => exact absurd rfl he
        | cons x xs => rw [← hw x (by simp), e7 x (by simp)]
      subst hsz
      rw [e1]
      refine y1m (m := ys.length) htl hn ?_
      intro j v hv
      rw [List.getElem?_take] at hv
      split at hv
      · simp only [World.cell?, e3]
        simpa using hv
      · cases hv
theorem y1s {P : Program} {Γ : Gh} {H : Heap} {w : World} {v : AVal} {ys : List AVal} {c : Value} (hR : Rel Γ H w) (hv : elemsOf H v = some ys) (h : Rep Γ v c) :
    ∃ ds, Holds P Γ w ys c ds := by
  cases v <;> simp only [elemsOf, reduceCtorEq] at hv
  case lst xs e => cases hv; exact lst_holds hR h
  case emp b => cases hv; exact lst_holds hR h.emp_lst
  case gl o len =>
    split at hv
    · rename_i es xs op hb
      split at hv
      · rename_i hlen
        cases hv
        exact gl_holds hR hb hlen h
      · cases hv
    · cases hv
  case str s =>
    cases hv
    have hc := h.str_inv
    subst hc
    have hflat : ∀ l : List UInt8, flatL (l.map fun b => AVal.int .u8 b.toNat) = l.map fun b => AVal.int .u8 b.toNat := by
      intro l
      induction l with
      | nil => rfl
      | cons b l ih => simp [flatL, AVal.flat, ih]
    refine ⟨s.map fun b => .int .u8 b.toNat, ⟨by rw [hflat]; simp, ?_⟩, ?_, by intro y hy; simp at hy; obtain ⟨b, _, rfl⟩ := hy; rfl, by simp [Builtin.lenOf, y21], ?_⟩
    · intro i x d hx hd
      rw [hflat] at hx
      simp at hx hd
      obtain ⟨b, hb, rfl⟩ := hx
      rw [hb] at hd
      simp at hd
      subst hd
      exact .int _ _
    · intro d hd
      simp at hd
      obtain ⟨b, _, rfl⟩ := hd
      rfl
    · intro size n hw hn
      by_cases he : s = []
      · subst he
        have : n = 0 := by simpa using hn
        subst this
        simp [Builtin.firstCells]
      · have hsz : size = 1 := by
          cases s with
          | nil => exact absurd rfl he
          | cons b s => rw [← hw (.int .u8 b.toNat) (by simp)]; rfl
        subst hsz
        simp [Builtin.firstCells]
  case sl b off len cap wd =>
    unfold y22 at hv
    split at hv
    · rename_i vs hb
      split at hv
      · rename_i hle
        obtain ⟨g, cs, ty, h1, h2, h3, h4, h5, h6⟩ := hR.cells hb
        obtain ⟨g', rfl, hmu⟩ := h.sl_inv
        rw [h1] at hmu; cases hmu
        have hone : ∀ d, d ∈ cs.toList.drop off → d.oneCell' = true := fun d hd => h6 d (List.mem_of_mem_drop hd)
        obtain ⟨r1, r2⟩ := y1v hR hv (y1n (w := wd) (n := len) (h5.drop off) hone)
        have hr := y2o r1
        rw [y1q hone] at hr
        have hlen : ys.length = len := by
          rw [← r1.1]
          have := (y1n (w := wd) (n := len) (h5.drop off) hone).1
          rw [this, y1k (by simp; omega)]
        refine ⟨_, hr, fun d hd => hone d (List.mem_of_mem_take hd), r2, by simp [Builtin.lenOf, hlen], ?_⟩
        intro size n hw hn
        have hfl := y01 hw
        refine y1m (m := ys.length) (by rw [hr.1, hfl]) hn ?_
        intro j v hj
        rw [List.getElem?_take] at hj
        split at hj
        · rw [List.getElem?_drop] at hj
          rw [cell_at h3]
          simpa using hj
        · cases hj
      · cases hv
    · cases hv
end Go.Ev
namespace Go.Ev
set_option linter.unusedVariables false
set_option linter.unusedSimpArgs false
open Go
def zlenB (P : Program) (t es : Nat) : Bool :=
  match P.info? t with
  | some i => match i.zero with
    | some z => decide (z.cells.size = es) && z.cells.toList.all (·.oneCell')
    | none => false
  | none => false
def keyB (P : Program) (ks : Bool) (t : TypeId) (q : TypeId → Bool) : Bool :=
  match P.underlying t with
  | some (.map k e) => (match P.underlying k with | some (.int _) => !ks | some .string => ks | _ => false) && q e
  | _ => false
def chkBs : List (Nat × AOpd) → List (Nat × Operand) → Bool
  | [], [] => true
  | (i, x) :: r, (j, y) :: s => decide (i = j) && chkO x y && chkBs r s
  | _, _ => false
def args1 (l : List Operand) (q : Operand → Bool) : Bool :=
  match l with
  | [x] => q x
  | _ => false
def args2 (l : List Operand) (q : Operand → Operand → Bool) : Bool :=
  match l with
  | [x, y] => q x y
  | _ => false
def isIntB (P : Program) (t : TypeId) : Option Bool :=
  match P.underlying t with
  | some (.int _) => some true
  | some (.slice _) => some false
  | some .string => some false
  | _ => none
def lenTy (P : Program) (k : LenK) (t : TypeId) : Bool :=
  match P.underlying t with
  | some (.slice _) => decide (k = .slice)
  | some .string => decide (k = .str)
  | some (.map _ _) => decide (k = .map)
  | _ => false
def builtinB (c : Call) (b : Builtin) : Bool :=
  match c.callee with
  | .builtin b' => decide (b' = b)
  | _ => false
def chkN (P : Program) (p : AOp) (op : Op) : Bool :=
  match p with
  | .alloc zs => match op with
    | .alloc t => zeroB P t zs
    | _ => false
  | .box x => match op with
    | .box _ y => chkO x y
    | _ => false
  | .mks es bytes wd zs l c => match op with
    | .makeSlice t l' c' => chkO l l' && chkO c c' && decide (0 < es) && elemB P t fun e => sizeB P e es && bytesB P e bytes && zeroB P e zs
    | _ => false
  | .mkm => match op with
    | .makeMap t r => r.isNone
    | _ => false
  | _ => false
def chkH (P : Program) (p : AOp) (op : Op) : Bool :=
  match p with
  | .ia es x i => match op with
    | .indexAddr t y j => chkO x y && chkO i j && elemB P t fun e => sizeB P e es
    | _ => false
  | .bsl es z len parts => match op with
    | .buildSlice t len' ps => decide (len = len') && decide (0 < es) && chkBs parts ps.toList && elemB P t fun e => sizeB P e es && zvalB P e z && lowV 0 z && z.solid
    | _ => false
  | .lds x => match op with
    | .load t y => chkO x y && decide (aggB P t = some false)
    | _ => false
  | .lda n x => match op with
    | .load t y => chkO x y && decide (aggB P t = some true) && sizeB P t n
    | _ => false
  | .sts x v => match op with
    | .store t y u => chkO x y && chkO v u && sizeB P t 1
    | _ => false
  | .sta n x v => match op with
    | .store t y u => chkO x y && chkO v u && sizeB P t n
    | _ => false
  | .stk n x v => match op with
    | .store t y u => chkO x y && chkO v u && sizeB P t n
    | _ => false
  | .slc es x lo hi mx => match op with
    | .slice t y lo' hi' mx' => chkO x y && chkOpt lo lo' && chkOpt hi hi' && chkOpt mx mx' && elemB P t fun e => sizeB P e es
    | _ => false
  | .slca len es wd x lo hi mx => match op with
    | .slice t y lo' hi' mx' => chkO x y && chkOpt lo lo' && chkOpt hi hi' && chkOpt mx mx' && arrB P t len fun e => sizeB P e es
    | _ => false
  | .len k x => match op with
    | .call c => builtinB c .len && args1 c.args.toList (chkO x) && (match c.argTypes[0]? with | some t => lenTy P k t | none => false)
    | _ => false
  | .cap x => match op with
    | .call c => builtinB c .cap && args1 c.args.toList (chkO x) && (match c.argTypes[0]? with | some t => lenTy P .slice t | none => false)
    | _ => false
  | .app es bytes opn s x => match op with
    | .call c => builtinB c .append && args2 c.args.toList (fun y z => chkO s y && chkO x z) && decide (0 < es) && decide (0 < bytes) &&
      (match c.argTypes.toList with
        | [t, u] => decide (isIntB P u = some false) && elemB P t fun e => sizeB P e es && bytesB P e bytes && zlenB P e es
        | _ => false)
    | _ => false
  | .appz es bytes z s n => match op with
    | .call c => builtinB c .append && args2 c.args.toList (fun y m => chkO s y && chkO n m) && decide (0 < es) && decide (0 < bytes) &&
      (match c.argTypes.toList with
        | [t, u] => decide (isIntB P u = some true) && elemB P t fun e => sizeB P e es && bytesB P e bytes && zlenB P e es && zvalB P e z && lowV 0 z
        | _ => false)
    | _ => false
  | .copy es d s => match op with
    | .call c => builtinB c .copy && args2 c.args.toList (fun y z => chkO d y && chkO s z) && (match c.argTypes[0]? with | some t => elemB P t fun e => sizeB P e es | none => false)
    | _ => false
  | .clear es zs x => match op with
    | .call c => builtinB c .clear && args1 c.args.toList (chkO x) && decide (0 < es) && (match c.argTypes[0]? with | some t => elemB P t fun e => sizeB P e es && zeroB P e zs | none => false)
    | _ => false
  | .s2b x => match op with
    | .convert s d y => chkO x y && isStrB P s && elemB P d fun e => (match P.underlying e with | some (.int k) => decide (k = .u8) | _ => false)
    | _ => false
  | .b2s x => match op with
    | .convert s d y => chkO x y && isStrB P d && elemB P s fun e => (match P.underlying e with | some (.int k) => decide (k = .u8) | _ => false)
    | _ => false
  | .look ks ok z m k => match op with
    | .lookup t m' k' ok' => decide (ok = ok') && chkO m m' && chkO k k' && keyB P ks t fun e => zvalB P e z
    | _ => false
  | .upd ks m k v => match op with
    | .mapUpdate t m' k' v' => chkO m m' && chkO k k' && chkO v v' && keyB P ks t fun _ => true
    | .insert t m' k' v' => chkO m m' && chkO k k' && chkO v v' && keyB P ks t fun _ => true
    | _ => false
  | _ => false
section
variable {P : Program} {Γ : Gh} {e : Env} {a : Act}
def Done (P : Program) (o : Oper) (a : Act) (w : World) (Γ : Gh) (v : AVal) (H' : Heap) : Prop :=
  ∃ nx c w' Γ', (execOp a.eval o).run P w = .ok nx w' ∧ (nx = .value c ∨ (nx = .skip ∧ c = undef)) ∧ Rep Γ' v c ∧ Rel Γ' H' w' ∧ Stp Γ w Γ' w'
theorem Done.same {o : Oper} {w : World} {v : AVal} {c : Value} {H : Heap} (hR : Rel Γ H w) (h : (execOp a.eval o).run P w = .ok (.value c) w) (hr : Rep Γ v c) : Done P o a w Γ v H :=
  ⟨_, c, w, Γ, h, .inl rfl, hr, hR, Stp.refl Γ w⟩
theorem y0r {t : TypeId} {q : TypeId → Bool} (h : elemB P t q = true) : ∃ el, P.underlying t = some (.slice el) ∧ q el = true := by
  unfold elemB at h
  split at h
  · rename_i el hu; exact ⟨el, hu, h⟩
  · cases h
theorem y2g {t n : Nat} (h : bytesB P t n = true) : ∃ i, P.info? t = some i ∧ i.bytes = n := by
  unfold bytesB at h
  split at h
  · rename_i i hi; exact ⟨i, hi, by simpa using h⟩
  · cases h
theorem y1h {t n : Nat} (h : sizeB P t n = true) : ∃ i, P.info? t = some i ∧ i.size = n := by
  unfold sizeB at h
  split at h
  · rename_i i hi; exact ⟨i, hi, by simpa using h⟩
  · cases h
theorem y5m {t : TypeId} {zs : List AVal} (h : zeroB P t zs = true) : ∃ i z, P.info? t = some i ∧ i.zero = some z ∧ Reps Γ zs z.cells.toList ∧ ∀ c, c ∈ z.cells.toList → c.oneCell' = true := by
  unfold zeroB at h
  split at h
  · rename_i i hi
    split at h
    · rename_i z hz
      simp only [Bool.and_eq_true] at h
      exact ⟨i, z, hi, hz, y49 Γ h.1, List.all_eq_true.1 h.2⟩
    · cases h
  · cases h
theorem y60 (l : List Value) (f : Nat → Value) (hf : ∀ j, j < l.length → f j = l.getD j undef) (n : Nat) : (List.range (n * l.length)).map (fun i => f (i % l.length)) = (List.replicate n l).flatten := by
  induction n with
  | zero => simp
  | succ n ih =>
    rw [Nat.add_mul, Nat.one_mul, List.range_add, List.map_append, ih, List.replicate_succ', List.flatten_append]
    congr 1
    simp only [List.map_map, List.flatten_cons, List.flatten_nil, List.append_nil]
    apply List.ext_getElem
    · simp
    · intro i h1 h2
      have hi : i < l.length := h2
      simp only [List.getElem_map, List.getElem_range, Function.comp]
      have hmod : (n * l.length + i) % l.length = i := by
        rw [Nat.mul_comm, Nat.mul_add_mod, Nat.mod_eq_of_lt hi]
      rw [hmod, hf i hi]
      simp [List.getD, hi]
theorem zeros_eq (z : Array Value) (n : Nat) : ((Array.range (n * z.size)).map (fun i => z[i % z.size]!)).toList = (List.replicate n z.toList).flatten := by
  have := y60 z.toList (fun i => z[i]!) (by
    intro j hj
    simp at hj
    simp [hj, List.getD]) n
  simp only [Array.length_toList] at this
  rw [← this]
  simp
theorem y29 (zs : List AVal) (n : Nat) : flatL (List.replicate n (.agg zs)) = (List.replicate n zs).flatten := by
  induction n with
  | zero => rfl
  | succ n ih => simp [List.replicate_succ, flatL, AVal.flat, ih]
theorem y12 {zs : List AVal} {ds : List Value} (h : Reps Γ zs ds) (n : Nat) : Reps Γ (List.replicate n zs).flatten (List.replicate n ds).flatten := by
  induction n with
  | zero => exact Reps.nil Γ
  | succ n ih => simp only [List.replicate_succ, List.flatten_cons]; exact h.append ih
theorem y1t {ds : List Value} (h : ∀ d, d ∈ ds → d.oneCell' = true) (n : Nat) : ∀ d, d ∈ (List.replicate n ds).flatten → d.oneCell' = true := by
  intro d hd
  simp only [List.mem_flatten, List.mem_replicate] at hd
  obtain ⟨l, ⟨_, rfl⟩, hd⟩ := hd
  exact h d hd
theorem wrap_i64 {n : Int} (h0 : -9223372036854775808 ≤ n) (h1 : n < 9223372036854775808) : IntKind.i64.wrap n = n := by
  unfold IntKind.wrap
  simp only [IntKind.signed, IntKind.bits]
  simp
  omega
theorem evN_sound {o : Oper} {p : AOp} {v : AVal} {B : ABlock} {id : Nat} {H H' : Heap} {w : World} (he : EnvRel Γ e a.tmps) (hR : Rel Γ H w) (hk : chkN P p o.op = true) (hv : evN e id p = some (v, B)) (hn : newAt H id B = some H') :
    Done P o a w Γ v H' := by
  obtain ⟨dst, op, ty, pos, after, guard⟩ := o
  simp only at hk
  cases p <;> simp only [evN, reduceCtorEq] at hv
  case alloc zs =>
    cases op <;> simp only [chkN, Bool.false_eq_true] at hk
    rename_i t
    cases hv
    obtain ⟨z, hz, hr, h1⟩ := run_zeroB (Γ := Γ) hk w
    obtain ⟨r1, r2, r3⟩ := hR.newCells (ty := t) hn hr h1
    refine ⟨.value (.pointer (some ⟨w.heap.size, 0, none⟩)), _, w.alloc (.cells z.cells t), _, ?_, .inl rfl, .ptr r3, r1, r2⟩
    simp [execOp, Instr.alloc, hz, newVar, newRow]
  case box x =>
    cases op <;> simp only [chkN, Bool.false_eq_true] at hk
    rename_i t y
    split at hv
    · rename_i u hu
      split at hv
      · rename_i hs
        cases hv
        have hrep := ev_rep he hk hu
        have ht : ∀ vs, u ≠ .tup vs := by intro vs hvs; subst hvs; simp [AVal.solid] at hs
        obtain ⟨r1, r2, r3⟩ := hR.newCells (ty := t) (cs := (a.eval y).cells) hn hrep.cells (hrep.cells_one ht)
        refine ⟨.value (.pointer (some ⟨w.heap.size, 0, none⟩)), _, w.alloc (.cells (a.eval y).cells t), _, ?_, .inl rfl, .ptr r3, r1, r2⟩
        simp [execOp, Instr.box, newVar, newRow]
      · cases hv
    · cases hv
  case mks es bytes wd zs l c =>
    cases op <;> simp only [chkN, Bool.false_eq_true, Bool.and_eq_true, decide_eq_true_eq] at hk
    rename_i t l' c'
    obtain ⟨⟨⟨hkl, hkc⟩, hes⟩, hke⟩ := hk
    obtain ⟨el, hu, hq⟩ := y0r hke
    simp only [Bool.and_eq_true] at hq
    obtain ⟨⟨hsz, hby⟩, hze⟩ := hq
    split at hv
    · rename_i k1 lv k2 cv hl hc
      split at hv
      · rename_i hcond
        cases hv
        have e1 := (ev_rep he hkl hl).int_inv
        have e2 := (ev_rep he hkc hc).int_inv
        obtain ⟨i, hi, hib⟩ := y2g hby
        obtain ⟨i', hi', his⟩ := y1h hsz
        rw [hi] at hi'; cases hi'
        obtain ⟨i2, z, hi2, hz, hr, h1⟩ := y5m (Γ := Γ) hze
        rw [hi] at hi2; cases hi2
        obtain ⟨h0, h1', h2, h3, h4, h5⟩ := hcond
        have hzs : z.cells.size = es := by
          have := hr.1
          simp at this
          omega
        have hcells : Reps Γ (flatL (List.replicate cv.toNat (.agg zs))) ((Array.range (cv.toNat * es)).map (fun i => z.cells[i % z.cells.size]!)).toList := by
          rw [y29, ← hzs, zeros_eq]
          exact y12 hr _
        have hone : ∀ c, c ∈ ((Array.range (cv.toNat * es)).map (fun i => z.cells[i % z.cells.size]!)).toList → c.oneCell' = true := by
          rw [← hzs, zeros_eq]
          exact y1t h1 _
        obtain ⟨r1, r2, r3⟩ := hR.newCells (ty := el) hn hcells hone
        refine ⟨.value (.slice (some ⟨w.heap.size, 0, none⟩) lv.toNat cv.toNat), _, _, _, ?_, .inl rfl, .sl r3, r1, r2⟩
        have w1 := wrap_i64 (n := lv) (by omega) (by omega)
        have w2 := wrap_i64 (n := cv) (by omega) (by omega)
        have b1 : ¬ cv < 0 := by omega
        have b2 : ¬ 281474976710656 < (bytes : Int) * cv := by omega
        have b3 : ¬ lv < 0 := by omega
        have b4 : ¬ cv < lv := by omega
        simp only [execOp, Instr.makeSlice, Sem.run_bind, run_underlying hu, Result.andThen_ok, e1, e2, asInt, asIntOf, Sem.run_pure, run_typeInfo _ hi, hib, w1, w2, sizeOf, his, run_askRoom]
        by_cases hc0 : cv.toNat * es = 0
        · have hc1 : cv.toNat = 0 := by
            rcases Nat.mul_eq_zero.1 hc0 with h | h
            · exact h
            · omega
          have r0 : Array.range 0 = #[] := rfl
          simp [b1, b2, b3, b4, hc1, newRow, run_typeInfo _ hi, r0]
        · simp [b1, b2, b3, b4, hc0, newRow, zeroValue, run_typeInfo _ hi, hz, his]
      · cases hv
    · cases hv
  case mkm =>
    cases op <;> simp only [chkN, Bool.false_eq_true] at hk
    rename_i t r
    cases hv
    have : r = none := by simpa using hk
    subst this
    obtain ⟨r1, r2, r3⟩ := hR.newMap hn
    refine ⟨.value (.map (some w.heap.size)), _, w.alloc (.map #[] 0), _, ?_, .inl rfl, .map r3, r1, r2⟩
    simp [execOp, Instr.makeMap]
theorem y45 {t : TypeId} {v : AVal} (h : zvalB P t v = true) : ∃ i z, P.info? t = some i ∧ i.zero = some z ∧ Rep Γ v z ∧ ∀ c, c ∈ z.cells.toList → c.oneCell' = true := by
  unfold zvalB at h
  split at h
  · rename_i i hi
    split at h
    · rename_i z hz
      simp only [Bool.and_eq_true] at h
      exact ⟨i, z, hi, hz, chkV_rep Γ h.1, List.all_eq_true.1 h.2⟩
    · cases h
  · cases h
def Gh.mem (Γ : Gh) (g : Nat) (cs : Array Value) : Gh := { Γ with M := fun k j => if k = g then cs[j]? else Γ.M k j }
theorem Rel.newMem {H : Heap} {w : World} {cs : Array Value} {ty : TypeId} {fr : Nat × Nat} (hR : Rel Γ H w) :
    Rel (Γ.mem w.heap.size cs) H (w.alloc (.cells cs ty fr)) ∧ Stp Γ w (Γ.mem w.heap.size cs) (w.alloc (.cells cs ty fr)) := by
  have hle : Γ.le (Γ.mem w.heap.size cs) := by
    refine ⟨?_, fun _ _ h => h, fun _ _ _ h => h⟩
    intro g o c h
    have := hR.memLt h
    simp only [Gh.mem]
    rw [if_neg (by omega)]; exact h
  refine ⟨⟨?_, ?_, hR.dom, ?_⟩, ⟨hle, fun _ _ h => h, ?_, by simp, fun g hg _ => y0p w _ hg, rfl, rfl, rfl⟩⟩
  · intro g o c h
    simp only [Gh.mem] at h
    split at h
    · rename_i e; subst e
      rw [cell_at (y1e w _)]; exact h
    · rw [y1z w _ (hR.memLt h)]; exact hR.mem g o c h
  · intro b B hb
    refine (hR.blk b B hb).step hle ?_ ⟨rfl, fun _ => rfl⟩
    intro g hg
    have := hR.owned g b hg
    refine ⟨hg, y0p w _ this, ?_⟩
    intro o
    simp only [Gh.mem]
    rw [if_neg (by omega)]
  · intro g b hg
    have := hR.owned g b hg
    simp; omega
  · intro g o hg _
    simp only [Gh.mem]
    rw [if_neg (by omega)]
theorem lst_mem {xs : List AVal} {es cap g : Nat} {cs : Array Value} (hM : ∀ j, j < cs.size → Γ.M g j = cs[j]?) (hw : ∀ x, x ∈ xs → x.width = es) (hf : ∀ x, x ∈ xs → rfree x) (hr : Reps Γ (flatL xs) (cs.toList.take (flatL xs).length))
    (h1 : ∀ c, c ∈ cs.toList → c.oneCell' = true) (hc : xs.length ≤ cap) {e : Bool} (he : e = true → cap = xs.length) : Rep Γ (.lst xs e) (.slice (some ⟨g, 0, none⟩) xs.length cap) := by
  have get : ∀ (j : Nat) (c : AVal), (flatL xs)[j]? = some c → ∃ d, cs[j]? = some d ∧ Γ.M g (0 + j) = some d ∧ d.oneCell' = true ∧ Rep Γ c d := by
    intro j c hj
    obtain ⟨d, hd, hrep⟩ := hr.get hj
    have hlt : j < (flatL xs).length := (List.getElem?_eq_some_iff.1 hj).1
    rw [List.getElem?_take, if_pos hlt] at hd
    have hd' : cs[j]? = some d := by simpa using hd
    have hj2 : j < cs.size := (Array.getElem?_eq_some_iff.1 hd').1
    exact ⟨d, hd', by rw [Nat.zero_add, hM j hj2, hd'], h1 d (List.mem_of_getElem? hd), hrep⟩
  refine .lst (fun j => cs.getD j undef) hc he hw hf ?_ ?_ ?_
  · intro j c hj
    obtain ⟨d, hd, hm, _, _⟩ := get j c hj
    rw [hm]; simp [Array.getD_eq_getD_getElem?, hd]
  · intro j c hj
    obtain ⟨d, hd, _, h1, _⟩ := get j c hj
    simp [Array.getD_eq_getD_getElem?, hd, h1]
  · intro j c hj
    obtain ⟨d, hd, _, _, hrep⟩ := get j c hj
    simpa [Array.getD_eq_getD_getElem?, hd] using hrep
theorem flatL_set {es : Nat} {v : AVal} : ∀ {xs : List AVal} {i : Nat}, (∀ x, x ∈ xs → x.width = es) → v.width = es → i < xs.length → flatL (xs.set i v) = putCells (i * es) v.flat (flatL xs)
  | [], i, _, _, h => by simp at h
  | x :: xs, 0, hw, hv, _ => by
    have hx : x.flat.length = es := hw x (by simp)
    have hv' : v.flat.length = es := hv
    simp only [List.set_cons_zero, flatL, putCells, Nat.zero_mul, List.take_zero, List.nil_append, Nat.zero_add]
    rw [hv', List.drop_left' hx]
  | x :: xs, i + 1, hw, hv, h => by
    have hx : x.flat.length = es := hw x (by simp)
    have ih := flatL_set (v := v) (xs := xs) (i := i) (fun y hy => hw y (by simp [hy])) hv (by simpa using h)
    simp only [List.set_cons_succ, flatL, ih, putCells]
    have e1 : (i + 1) * es = es + i * es := by rw [Nat.add_mul]; omega
    rw [e1, List.take_append, List.drop_append, hx]
    rw [List.take_of_length_le (l := x.flat) (by omega), List.drop_of_length_le (l := x.flat) (by omega)]
    rw [show es + i * es - es = i * es by omega, show es + i * es + v.flat.length - es = i * es + v.flat.length by omega]
    simp
theorem fillB_put {es : Nat} {H : Heap} {w : World} (hR : Rel Γ H w) (he : EnvRel Γ e a.tmps) : ∀ {parts : List (Nat × AOpd)} {ps : List (Nat × Operand)} {xs xs' : List AVal} {ds : List Value}, chkBs parts ps = true → Reps Γ (flatL xs) ds →
    (∀ d, d ∈ ds → d.oneCell' = true) → (∀ x, x ∈ xs → x.width = es) → (∀ x, x ∈ xs → rfree x) → bslGo e H es parts xs = some xs' →
    ∃ ds', Instr.fill (fun i => some (i * es, es)) ds.toArray (ps.map fun x => (x.1, a.eval x.2)) = some ds'.toArray ∧ Reps Γ (flatL xs') ds' ∧ (∀ d, d ∈ ds' → d.oneCell' = true) ∧ (∀ x, x ∈ xs' → x.width = es) ∧ (∀ x, x ∈ xs' → rfree x) ∧ xs'.length = xs.length
  | [], [], xs, xs', ds, hk, hr, h1, hw, hf, hb => by
    simp [bslGo] at hb; subst hb
    exact ⟨ds, rfl, hr, h1, hw, hf, rfl⟩
  | [], _ :: _, _, _, _, hk, _, _, _, _, _ => by simp [chkBs] at hk
  | _ :: _, [], _, _, _, hk, _, _, _, _, _ => by simp [chkBs] at hk
  | (i, x) :: parts, (j, y) :: ps, xs, xs', ds, hk, hr, h1, hw, hf, hb => by
    simp only [chkBs, Bool.and_eq_true, decide_eq_true_eq] at hk
    obtain ⟨⟨rfl, hko⟩, hk⟩ := hk
    simp only [bslGo] at hb
    split at hb
    · rename_i v hv
      split at hb
      · rename_i v' hsv
        split at hb
        · rename_i hc
          have hrv := ev_rep he hko hv
          obtain ⟨hrv', hfree, hsol⟩ := shut_both hR v v' _ hsv hrv
          have hcv := hrv'.cells
          have ht : ∀ vs, v' ≠ .tup vs := by intro vs hvs; subst hvs; simp [AVal.solid] at hc
          have hone := hrv'.cells_one ht
          have hlen : (a.eval y).cells.toList.length = es := by rw [hcv.1]; exact hc.2.1
          have hdl : ds.length = xs.length * es := by rw [hr.1, y01 hw]
          have hle : i * es + es ≤ ds.length := by
            rw [hdl]
            have : (i + 1) * es ≤ xs.length * es := Nat.mul_le_mul_right _ hc.2.2
            rw [Nat.add_mul] at this; omega
          have hput := hr.put (i * es) hcv
          rw [← flatL_set hw hc.2.1 hc.2.2] at hput
          obtain ⟨ds', hf', hr', h1', hw', hfr', hl'⟩ := fillB_put hR he (ps := ps) (ds := putCells (i * es) (a.eval y).cells.toList ds) hk hput (by
            intro d hd
            simp only [putCells, List.mem_append] at hd
            rcases hd with (hd | hd) | hd
            · exact h1 d (List.mem_of_mem_take hd)
            · exact hone d hd
            · exact h1 d (List.mem_of_mem_drop hd)) (by
            intro z hz
            rcases List.mem_or_eq_of_mem_set hz with hz | hz
            · exact hw z hz
            · subst hz; exact hc.2.1) (by
            intro z hz
            rcases List.mem_or_eq_of_mem_set hz with hz | hz
            · exact hf z hz
            · subst hz; exact hfree) hb
          refine ⟨ds', ?_, hr', h1', hw', hfr', by simpa using hl'⟩
          simp only [List.map_cons, Instr.fill]
          have hsz : (a.eval y).cells.size = es := by simpa using hlen
          rw [if_neg (by simp [hsz]; omega)]
          rw [← hf']
          congr 1
          rw [← Array.foldl_toList]
          have := foldl_put (i * es) (a.eval y).cells.toList 0 ds.toArray (by simp [hsz]; omega)
          simpa using this
        · cases hb
      · cases hb
    · cases hb
theorem bsl_sound {o : Oper} {C : Ctx} {es len id : Nat} {z : AVal} {parts : List (Nat × AOpd)} {v : AVal} {H H' : Heap} {w : World} (he : EnvRel Γ e a.tmps) (hR : Rel Γ H w) (hk : chkH P (.bsl es z len parts) o.op = true)
    (hv : evH C e id H (.bsl es z len parts) = some (.ok v, H')) : Done P o a w Γ v H' := by
  obtain ⟨dst, op, ty, pos, after, guard⟩ := o
  simp only at hk
  cases op <;> simp only [chkH, Bool.false_eq_true, Bool.and_eq_true, decide_eq_true_eq] at hk
  rename_i t len' ps
  obtain ⟨⟨⟨rfl, hes⟩, hkb⟩, hke⟩ := hk
  obtain ⟨el, hu, hq⟩ := y0r hke
  simp only [Bool.and_eq_true] at hq
  obtain ⟨⟨⟨hsz, hz⟩, hlow⟩, hsol⟩ := hq
  obtain ⟨i, hi, his⟩ := y1h hsz
  obtain ⟨i2, zv, hi2, hzv, hrz, h1⟩ := y45 (Γ := Γ) hz
  rw [hi] at hi2; cases hi2
  simp only [evH] at hv
  split at hv
  · rename_i hcond
    split at hv
    · rename_i xs hgo
      simp only [Option.some.injEq, Prod.mk.injEq, Ex.ok.injEq] at hv
      obtain ⟨rfl, rfl⟩ := hv
      have hzc := hrz.cells
      have hzs : zv.cells.size = es := by
        have := hzc.1
        simp at this
        rw [this]; exact hcond.1
      have hrep : Reps Γ (flatL (List.replicate len z)) (List.replicate len zv.cells.toList).flatten := by
        have : flatL (List.replicate len z) = (List.replicate len z.flat).flatten := by
          clear hcond hgo hke
          induction len with
          | zero => rfl
          | succ n ih => simp [List.replicate_succ, flatL, ih]
        rw [this]
        exact y12 hzc _
      have hreps : ∀ x, x ∈ List.replicate len z → x.width = es := by intro x hx; rw [List.eq_of_mem_replicate hx]; exact hcond.1
      have hfree : ∀ x, x ∈ List.replicate len z → rfree x := by intro x hx; rw [List.eq_of_mem_replicate hx]; exact hlow
      obtain ⟨ds', hf, hr', h1', hw', hfr', hl'⟩ := fillB_put hR he (ps := ps.toList) hkb hrep (y1t h1 _) hreps hfree hgo
      have hzeros : (Array.range (len * es)).map (fun k => zv.cells[k % zv.cells.size]!) = (List.replicate len zv.cells.toList).flatten.toArray := by
        apply Array.ext'
        have := zeros_eq zv.cells len
        rw [hzs] at this
        rw [hzs, this]
      obtain ⟨r1, r2⟩ := hR.newMem (cs := ds'.toArray) (ty := el) (fr := (0, 0))
      have hlen : xs.length = len := by simpa using hl'
      refine ⟨.value (.slice (some ⟨w.heap.size, 0, none⟩) len len), _, _, _, ?_, .inl rfl, ?_, r1, r2⟩
      · have hf2 : Instr.fill (fun k => some (k * es, es)) ((Array.range (len * es)).map (fun k => zv.cells[k % zv.cells.size]!)) (ps.map fun x => (x.1, a.eval x.2)).toList = some ds'.toArray := by
          rw [hzeros, ← hf]; simp
        simp only [execOp, Instr.buildSlice, Sem.run_bind, run_underlying hu, Result.andThen_ok, sizeOf, run_typeInfo _ hi, Sem.run_pure, his]
        rw [if_neg (by omega)]
        by_cases h0 : len * es = 0
        · have hemp : ((Array.range (len * es)).map (fun k => (#[] : Array Value)[k % (#[] : Array Value).size]!)) = (Array.range (len * es)).map (fun k => zv.cells[k % zv.cells.size]!) := by rw [h0, show Array.range 0 = #[] from rfl]; simp
          simp only [h0, if_true, Sem.run_bind, Sem.run_pure, Result.andThen_ok]
          simp only [h0] at hemp hf2
          rw [hemp, hf2]
          simp [newRow]
        · simp only [h0, if_false, Sem.run_bind, Sem.run_pure, Result.andThen_ok, zeroValue, run_typeInfo _ hi, hzv]
          rw [hf2]
          simp [newRow]
      · have := lst_mem (Γ := Γ.mem w.heap.size ds'.toArray) (g := w.heap.size) (cs := ds'.toArray) (xs := xs) (cap := len) (e := true) (fun j hj => by simp [Gh.mem]) hw' hfr'
          (by
            have hll : ds'.length = (flatL xs).length := hr'.1
            simp only []
            rw [List.take_of_length_le (by simp [hll])]
            exact hr'.mono r2.le) (by simpa using h1') (by omega) (fun _ => hlen.symm)
        rw [hlen] at this
        exact this
    · cases hv
  · cases hv
end
end Go.Ev
namespace Go.Ev
set_option linter.unusedVariables false
set_option linter.unusedSimpArgs false
open Go
theorem y2y {α : Type} {n j : Nat} {f : Nat → α} {v : α} (h : ((List.range n).map f)[j]? = some v) : j < n ∧ v = f j := by
  have hj : j < n := by have := (List.getElem?_eq_some_iff.1 h).1; simpa using this
  rw [List.getElem?_eq_getElem (by simpa using hj)] at h
  simp at h
  exact ⟨hj, h.symm⟩
theorem y0o {α : Type} {off : Nat} {new cs : List α} (h : off + new.length ≤ cs.length) (j : Nat) :
    (putCells off new cs)[j]? = if j < off then cs[j]? else if j < off + new.length then new[j - off]? else cs[j]? := by
  unfold putCells
  rw [List.append_assoc]
  by_cases h1 : j < off
  · rw [if_pos h1, List.getElem?_append_left (by simp; omega), List.getElem?_take, if_pos h1]
  · rw [if_neg h1, List.getElem?_append_right (by simp; omega)]
    have e1 : (cs.take off).length = off := by simp; omega
    rw [e1]
    by_cases h2 : j < off + new.length
    · rw [if_pos h2, List.getElem?_append_left (by omega)]
    · rw [if_neg h2, List.getElem?_append_right (by omega), List.getElem?_drop]
      congr 1; omega
theorem y2u {α : Type} {off n : Nat} {new cs : List α} (h : off + new.length ≤ n) (hn : n ≤ cs.length) : (putCells off new cs).take n = putCells off new (cs.take n) := by
  apply List.ext_getElem?
  intro j
  rw [List.getElem?_take, y0o (by omega), y0o (by simp; omega)]
  by_cases hj : j < n
  · simp only [hj, if_true, List.getElem?_take]
  · simp only [hj, if_false, List.getElem?_take]
    rw [if_neg (by omega), if_neg (by omega)]
theorem _root_.Nat.div_mul_comm_add (b es : Nat) : b / es * es + b % es = b := by rw [Nat.mul_comm]; exact Nat.div_add_mod b es
section
variable {P : Program} {Γ : Gh} {e : Env} {a : Act}
theorem y47 {H : Heap} {w : World} {o l b es f : Nat} {xs : List AVal} {c : Value} (hR : Rel Γ H w) (hb : H[o]? = some (.grow es xs (some f))) (hl : l = xs.length) (hr : Rep Γ (.lptr o l b) c) :
    ∃ g cs ty, c = .pointer (some ⟨g, b, none⟩) ∧ w.heap[g]? = some (.cells cs ty (0, 0)) ∧ (∀ x, x ∈ xs → x.width = es) ∧ Reps Γ (flatL xs) (cs.toList.take (flatL xs).length) ∧ ∀ c, c ∈ cs.toList → c.oneCell' = true := by
  obtain ⟨c', k1, k0, k2, k3⟩ := hR.blk _ _ hb
  rcases k3 with ⟨hbad, _⟩ | ⟨g, cap, cs, ty, rfl, e2, e3, e4, e5, e6, e7, e8, e9, _⟩
  · cases hbad
  · obtain ⟨g', cap', rfl, hT⟩ := hr.lptr_inv
    rw [hl, k1] at hT
    cases hT
    exact ⟨g, cs, ty, rfl, e3, e7, e8, e9⟩
theorem open_get {es b : Nat} {xs : List AVal} {y v : AVal} (h : ∀ x, x ∈ xs → x.width = es) (hy : xs[b / es]? = some y) (hv : y.flat[b % es]? = some v) : (flatL xs)[b]? = some v := by
  have := flatL_get h hy hv
  rwa [Nat.div_mul_comm_add b es] at this
theorem y3u {H : Heap} {w : World} {p v : AVal} {c : Value} {t : TypeId} (hR : Rel Γ H w) (ht : aggB P t = some false) (hv : loadS H p = some v) (hr : Rep Γ p c) :
    ∃ d, (Instr.loadAt t c).run P w = .ok d w ∧ Rep Γ v d := by
  unfold loadS at hv
  split at hv
  · rename_i b off
    split at hv
    · rename_i vs hb
      obtain ⟨g, cs, ty, h1, h2, h3, h4, h5, h6⟩ := hR.cells hb
      obtain ⟨g', rfl, hmu⟩ := hr.ptr_inv
      rw [h1] at hmu; cases hmu
      obtain ⟨d, hd, hrep⟩ := h5.get hv
      refine ⟨d, ?_, hrep⟩
      simp only [Instr.loadAt, Instr.sureAddr, Sem.run_bind, Sem.run_pure, Result.andThen_ok]
      exact y10 ht (by rw [cell_at h3]; simpa using hd)
    · cases hv
  · rename_i x xs
    cases hv
    obtain ⟨g, off, f, rfl, h1, h2, h3, h4⟩ := hr.ro_inv
    refine ⟨f 0, ?_, h4 0 _ rfl⟩
    simp only [Instr.loadAt, Instr.sureAddr, Sem.run_bind, Sem.run_pure, Result.andThen_ok]
    exact y10 ht (by have := hR.mem _ _ _ (h2 0 _ rfl); simpa using this)
  · rename_i o l b
    split at hv <;> first | (cases hv; done) | skip
    rename_i es xs f hb
    split at hv <;> first | (cases hv; done) | skip
    rename_i hl
    split at hv <;> first | (cases hv; done) | skip
    rename_i y hy
    obtain ⟨g, cs, ty, rfl, e3, e7, e8, _⟩ := y47 hR hb hl hr
    obtain ⟨d, hd, hrep⟩ := e8.get (open_get e7 hy hv)
    refine ⟨d, ?_, hrep⟩
    simp only [Instr.loadAt, Instr.sureAddr, Sem.run_bind, Sem.run_pure, Result.andThen_ok]
    refine y10 ht ?_
    rw [cell_at e3]
    rw [List.getElem?_take] at hd
    split at hd
    · simpa using hd
    · cases hd
  · cases hv
theorem y3p {H : Heap} {w : World} {p v : AVal} {c : Value} {t : TypeId} {n : Nat} (hR : Rel Γ H w) (ht : aggB P t = some true) (hs : sizeB P t n = true) (hv : loadA H n p = some v) (hr : Rep Γ p c) :
    ∃ d, (Instr.loadAt t c).run P w = .ok d w ∧ Rep Γ v d := by
  unfold loadA at hv
  split at hv
  · rename_i b off
    split at hv
    · rename_i vs hb
      split at hv
      · rename_i hle
        cases hv
        obtain ⟨g, cs, ty, h1, h2, h3, h4, h5, h6⟩ := hR.cells hb
        obtain ⟨g', rfl, hmu⟩ := hr.ptr_inv
        rw [h1] at hmu; cases hmu
        have hrr := (h5.drop off).take n
        refine ⟨.agg ((cs.toList.drop off).take n).toArray, ?_, .agg hrr.1 hrr.2 (fun d hd => h6 d (List.mem_of_mem_drop (List.mem_of_mem_take hd)))⟩
        simp only [Instr.loadAt, Instr.sureAddr, Sem.run_bind, Sem.run_pure, Result.andThen_ok]
        refine y1j ht hs (by rw [hrr.1]; simp; omega) ?_
        intro j v hj
        rw [List.getElem?_take] at hj
        split at hj
        · rw [List.getElem?_drop] at hj
          rw [cell_at h3]; simpa using hj
        · cases hj
      · cases hv
    · cases hv
  · rename_i xs
    split at hv
    · rename_i hle
      cases hv
      obtain ⟨g, off, f, rfl, h1, h2, h3, h4⟩ := hr.ro_inv
      refine ⟨.agg ((List.range n).map f).toArray, ?_, ?_⟩
      · simp only [Instr.loadAt, Instr.sureAddr, Sem.run_bind, Sem.run_pure, Result.andThen_ok]
        refine y1j ht hs (by simp) ?_
        intro j v hj
        obtain ⟨hjn, rfl⟩ := y2y hj
        exact hR.mem _ _ _ (h2 j _ (List.getElem?_eq_getElem (by omega)))
      · refine .agg (by simp; omega) ?_ ?_
        · intro i x d hx hd
          rw [List.getElem?_take] at hx
          split at hx
          · obtain ⟨_, rfl⟩ := y2y hd
            exact h4 i x hx
          · cases hx
        · intro d hd
          simp only [List.mem_map, List.mem_range] at hd
          obtain ⟨i, hi, rfl⟩ := hd
          exact h3 i _ (List.getElem?_eq_getElem (by omega))
    · cases hv
  · rename_i o l b
    split at hv <;> first | (cases hv; done) | skip
    rename_i es xs f hb
    split at hv <;> first | (cases hv; done) | skip
    rename_i hl
    split at hv <;> first | (cases hv; done) | skip
    rename_i y hy
    cases hv
    obtain ⟨g, cs, ty, rfl, e3, e7, e8, e9⟩ := y47 hR hb hl.1 hr
    have hyw : y.flat.length = es := e7 y (List.mem_of_getElem? hy)
    have hdt : (y.flat.drop (b % es)).take n = ((flatL xs).drop b).take n := by
      apply List.ext_getElem?
      intro j
      rw [List.getElem?_take, List.getElem?_take]
      split
      · rename_i hj
        rw [List.getElem?_drop, List.getElem?_drop]
        have hlt : b % es + j < y.flat.length := by omega
        have h1 := flatL_get e7 hy (List.getElem?_eq_getElem hlt)
        rw [List.getElem?_eq_getElem hlt, ← h1, ← Nat.add_assoc, Nat.div_mul_comm_add b es]
      · rfl
    rw [hdt]
    have hrr := (e8.drop b).take n
    have hlen : b + n ≤ (flatL xs).length := by
      rw [y01 e7]
      have h1 : b / es < xs.length := (List.getElem?_eq_some_iff.1 hy).1
      have h2 : (b / es + 1) * es ≤ xs.length * es := Nat.mul_le_mul_right _ h1
      rw [Nat.add_mul] at h2
      have h3 := Nat.div_mul_comm_add b es
      omega
    refine ⟨.agg (((cs.toList.take (flatL xs).length).drop b).take n).toArray, ?_, .agg hrr.1 hrr.2 (fun d hd => e9 d (List.mem_of_mem_take (List.mem_of_mem_drop (List.mem_of_mem_take hd))))⟩
    simp only [Instr.loadAt, Instr.sureAddr, Sem.run_bind, Sem.run_pure, Result.andThen_ok]
    refine y1j ht hs (by rw [hrr.1]; simp; omega) ?_
    intro j v hj
    rw [List.getElem?_take] at hj
    split at hj
    · rw [List.getElem?_drop, List.getElem?_take] at hj
      split at hj
      · rw [cell_at e3]; simpa using hj
      · cases hj
    · cases hj
  · cases hv
theorem lds_sound {o : Oper} {C : Ctx} {id : Nat} {x : AOpd} {v : AVal} {H H' : Heap} {w : World} (he : EnvRel Γ e a.tmps) (hR : Rel Γ H w) (hk : chkH P (.lds x) o.op = true)
    (hv : evH C e id H (.lds x) = some (.ok v, H')) : Done P o a w Γ v H' := by
  obtain ⟨dst, op, ty, pos, after, guard⟩ := o
  simp only at hk
  cases op <;> simp only [chkH, Bool.false_eq_true, Bool.and_eq_true, decide_eq_true_eq] at hk
  rename_i t y
  simp only [evH] at hv
  split at hv
  · rename_i p hp
    unfold okv at hv
    split at hv
    · rename_i u hu
      simp only [Option.some.injEq, Prod.mk.injEq, Ex.ok.injEq] at hv
      obtain ⟨rfl, rfl⟩ := hv
      obtain ⟨d, hd, hrep⟩ := y3u hR hk.2 hu (ev_rep he hk.1 hp)
      exact Done.same hR (exec_v rfl hd) hrep
    · cases hv
  · cases hv
theorem lda_sound {o : Oper} {C : Ctx} {id n : Nat} {x : AOpd} {v : AVal} {H H' : Heap} {w : World} (he : EnvRel Γ e a.tmps) (hR : Rel Γ H w) (hk : chkH P (.lda n x) o.op = true)
    (hv : evH C e id H (.lda n x) = some (.ok v, H')) : Done P o a w Γ v H' := by
  obtain ⟨dst, op, ty, pos, after, guard⟩ := o
  simp only at hk
  cases op <;> simp only [chkH, Bool.false_eq_true, Bool.and_eq_true, decide_eq_true_eq] at hk
  rename_i t y
  simp only [evH] at hv
  split at hv
  · rename_i p hp
    unfold okv at hv
    split at hv
    · rename_i u hu
      simp only [Option.some.injEq, Prod.mk.injEq, Ex.ok.injEq] at hv
      obtain ⟨rfl, rfl⟩ := hv
      obtain ⟨d, hd, hrep⟩ := y3p hR hk.1.2 hk.2 hu (ev_rep he hk.1.1 hp)
      exact Done.same hR (exec_v rfl hd) hrep
    · cases hv
  · cases hv
def Gh.shutM (Γ : Gh) (g n : Nat) (cs : Array Value) : Gh := { Γ with M := fun k j => if k = g then (if j < n then cs[j]? else none) else Γ.M k j }
theorem y51 {H H' : Heap} {w : World} {p v : AVal} {c d : Value} {t : TypeId} {n : Nat} (hR : Rel Γ H w) (hs : sizeB P t n = true) (hv : storeA H n p v = some H') (hr : Rep Γ p c) (hd : Rep Γ v d) :
    ∃ w' Γ', (Instr.storeAt t c d).run P w = .ok () w' ∧ Rel Γ' H' w' ∧ Stp Γ w Γ' w' := by
  unfold storeA at hv
  split at hv
  · rename_i hw
    have ht : ∀ vs, v ≠ .tup vs := by intro vs hvs; subst hvs; simp [AVal.solid] at hw
    have hone := hd.cells_one ht
    have hcells := hd.cells
    have hlen : d.cells.size = n := by
      have := hcells.1
      simp at this
      rw [this]; exact hw.2
    split at hv
    · rename_i b off
      split at hv
      · rename_i vs hb
        split at hv
        · rename_i hle
          cases hv
          obtain ⟨g, cs, ty, h1, h2, h3, h4, h5, h6⟩ := hR.cells hb
          obtain ⟨g', rfl, hmu⟩ := hr.ptr_inv
          rw [h1] at hmu; cases hmu
          have hcl : cs.size = vs.length := by have := h5.1; simpa using this
          obtain ⟨r1, r2⟩ := hR.writeCells (vs' := putCells off v.flat vs) (cs' := (putCells off d.cells.toList cs.toList).toArray) hb h1 h2 h3 h4 (by simpa using h5.put off hcells) (by
            intro c hc
            simp only [putCells, List.mem_append] at hc
            rcases hc with (hc | hc) | hc
            · exact h6 c (List.mem_of_mem_take hc)
            · exact hone c hc
            · exact h6 c (List.mem_of_mem_drop hc))
          refine ⟨_, Γ, ?_, r1, r2⟩
          simp only [Instr.storeAt, Instr.sureAddr, Sem.run_bind, Sem.run_pure, Result.andThen_ok]
          exact y28 hs hlen hone h3 (by omega)
        · cases hv
      · cases hv
    · rename_i o l b
      split at hv
      · rename_i es xs f hb
        split at hv
        · rename_i v' hsv
          split at hv
          · rename_i hc
            cases hv
            obtain ⟨hfi, hil, hbb, hn, hvw⟩ := hc
            have hes : es = n := hn.symm
            subst hes
            subst hbb
            obtain ⟨c', k1, k0, k2, k3⟩ := hR.blk _ _ hb
            obtain ⟨i, rfl⟩ : ∃ i, l = i + 1 := ⟨l - 1, by omega⟩
            simp only [Nat.add_sub_cancel] at hr ⊢
            have hfi : f ≤ i := by omega
            have hin : i < xs.length := by omega
            rcases k3 with ⟨hbad, _⟩ | ⟨g, cap, cs, ty, rfl, e2, e3, e4, e5, e6, e7, e8, e9, e10, e11, e12⟩
            · cases hbad
            · have hp : c = .pointer (some ⟨g, i * es, none⟩) := by
                obtain ⟨g', cap', rfl, hT⟩ := hr.lptr_inv
                rw [hil, k1] at hT
                cases hT; rfl
              subst hp
              obtain ⟨hrv', hfree, _⟩ := shut_both hR v v' d hsv hd
              have hcv := hrv'.cells
              simp only [Option.getD_some] at e10 e11 e12
              have hfl := y01 e7
              have hcap : i * es + es ≤ cs.size := by
                rw [e5]
                have : (i + 1) * es ≤ cap * es := Nat.mul_le_mul_right _ (by omega)
                rw [Nat.add_mul] at this; omega
              have hw' : ∀ x, x ∈ xs.set i v' → x.width = es := by
                intro z hz
                rcases List.mem_or_eq_of_mem_set hz with hz | hz
                · exact e7 z hz
                · subst hz; exact hvw
              have hf' : ∀ x, x ∈ xs.set i v' → rfree x := by
                intro z hz
                rcases List.mem_or_eq_of_mem_set hz with hz | hz
                · exact k2 z hz
                · subst hz; exact hfree
              let cs' : Array Value := (putCells (i * es) d.cells.toList cs.toList).toArray
              have hcs' : cs'.toList = putCells (i * es) d.cells.toList cs.toList := by simp [cs']
              have hsz' : cs'.size = cs.size := by
                have := y0c (i * es) d.cells.toList cs.toList (by simp [hlen]; omega)
                simpa [cs'] using this
              have hold : ∀ j, j < i * es → cs'[j]? = cs[j]? := by
                intro j hj
                have : cs'.toList[j]? = cs.toList[j]? := by
                  rw [hcs', putCells, List.append_assoc, List.getElem?_append_left (by simp; omega), List.getElem?_take, if_pos hj]
                simpa using this
              have hle : Γ.le (Γ.shutM g (xs.length * es) cs') := by
                refine ⟨?_, fun _ _ h => h, fun _ _ _ h => h⟩
                intro k j c hm
                simp only [Gh.shutM]
                split
                · rename_i ek; subst ek
                  by_cases hj : j < f * es
                  · have hfi' : f * es ≤ i * es := Nat.mul_le_mul_right _ hfi
                    have hli : i * es ≤ xs.length * es := Nat.mul_le_mul_right _ (by omega)
                    rw [if_pos (by omega), hold j (by omega), ← e11 j hj]
                    exact hm
                  · rw [e12 j (by omega)] at hm; cases hm
                · exact hm
              have hflen : (flatL (xs.set i v')).length = xs.length * es := by
                rw [y01 hw']; simp
              have hreps : Reps Γ (flatL (xs.set i v')) (cs'.toList.take (flatL (xs.set i v')).length) := by
                rw [hflen, flatL_set e7 hvw hin]
                have hh := (e8.put (i * es) hcv)
                have : (putCells (i * es) d.cells.toList cs.toList).take (xs.length * es) = putCells (i * es) d.cells.toList (cs.toList.take (flatL xs).length) := by
                  rw [hfl]
                  have l1 : (i + 1) * es ≤ xs.length * es := Nat.mul_le_mul_right _ (by omega)
                  rw [Nat.add_mul] at l1
                  have l2 : d.cells.toList.length = es := by simpa using hlen
                  have l3 : xs.length * es ≤ cap * es := Nat.mul_le_mul_right _ e4
                  exact y2u (by omega) (by simp; omega)
                rw [hcs', this]
                exact hh
              obtain ⟨r1, r2⟩ := hR.write (Γ' := Γ.shutM g (xs.length * es) cs') (B := .grow es (xs.set i v') none) (o := .cells cs' ty) (w' := w.setRow g cs') hb e2 hle (fun _ => rfl) (fun _ _ => ⟨rfl, fun _ => rfl⟩)
                (fun k j hk => by simp [Gh.shutM, hk]) (y02 w g cs cs' ty (0, 0) e3) (fun k hk => y0n w g k cs' hk) (y19 w g cs') rfl rfl rfl
                (fun j c hm => by
                  simp only [Gh.shutM, if_true] at hm
                  rw [cell_at (y02 w g cs cs' ty (0, 0) e3)]
                  split at hm
                  · exact hm
                  · cases hm)
                ⟨_, by rw [List.length_set]; exact k1, by rw [List.length_set]; exact k0, hf', .inr ⟨g, cap, cs', ty, by simp, e2, y02 w g cs cs' ty (0, 0) e3, by simpa using e4, hsz'.trans e5, e6, hw', hreps.mono hle, by
                    intro c hc
                    rw [hcs'] at hc
                    simp only [putCells, List.mem_append] at hc
                    rcases hc with (hc | hc) | hc
                    · exact e9 c (List.mem_of_mem_take hc)
                    · exact hone c hc
                    · exact e9 c (List.mem_of_mem_drop hc), by simp, fun j hj => by simp at hj; simp [Gh.shutM, hj], fun j hj => by simp at hj; simp [Gh.shutM]; omega⟩⟩
              refine ⟨_, _, ?_, r1, r2⟩
              simp only [Instr.storeAt, Instr.sureAddr, Sem.run_bind, Sem.run_pure, Result.andThen_ok]
              exact y28 hs hlen hone e3 hcap
          · cases hv
        · cases hv
      · cases hv
    · cases hv
  · cases hv
theorem y5w {off : Nat} {v y : AVal} (h0 : 0 < v.flat.length) (h : off + v.flat.length ≤ y.flat.length) : (putEl off v y).flat = putCells off v.flat y.flat := by
  cases y with
  | agg cs => rfl
  | _ =>
    have h' : off + v.flat.length ≤ 1 := h
    have e1 : off = 0 := by omega
    have e2 : v.flat.length = 1 := by omega
    subst e1
    simp only [putEl, putCells, List.take_zero, List.nil_append, Nat.zero_add, e2]
    simp [AVal.flat]
theorem y5j {off es : Nat} {v y : AVal} (hy : y.width = es) (h : (putEl off v y).flat = putCells off v.flat y.flat) (hle : off + v.flat.length ≤ es) : (putEl off v y).width = es := by
  show (putEl off v y).flat.length = es
  rw [h, y0c _ _ _ (by show off + v.flat.length ≤ y.width; omega)]
  exact hy
theorem y5d {off : Nat} {v y : AVal} (hv : rfree v) (hy : rfree y) : rfree (putEl off v y) := by
  unfold putEl
  split
  · refine lowL_iff.2 ?_
    intro c hc
    simp only [putCells, List.mem_append] at hc
    rcases hc with (hc | hc) | hc
    · exact y1f hy c (List.mem_of_mem_take hc)
    · exact y1f hv c hc
    · exact y1f hy c (List.mem_of_mem_drop hc)
  · exact hv
theorem y53 {H H' : Heap} {w : World} {p v : AVal} {c d : Value} {t : TypeId} {n : Nat} (hR : Rel Γ H w) (hs : sizeB P t n = true) (hv : storeK H n p v = some H') (hr : Rep Γ p c) (hd : Rep Γ v d) :
    ∃ w' Γ', (Instr.storeAt t c d).run P w = .ok () w' ∧ Rel Γ' H' w' ∧ Stp Γ w Γ' w' := by
  unfold storeK at hv
  split at hv <;> first | (cases hv; done) | skip
  rename_i hw
  have ht : ∀ vs, v ≠ .tup vs := by intro vs hvs; subst hvs; simp [AVal.solid] at hw
  have hone := hd.cells_one ht
  have hcells := hd.cells
  have hlen : d.cells.size = n := by
    have := hcells.1
    simp at this
    rw [this]; exact hw.2
  split at hv <;> first | (cases hv; done) | skip
  rename_i o l b
  split at hv <;> first | (cases hv; done) | skip
  rename_i es xs f hb
  split at hv <;> first | (cases hv; done) | skip
  rename_i v' hsv
  split at hv <;> first | (cases hv; done) | skip
  rename_i y hy
  split at hv <;> first | (cases hv; done) | skip
  rename_i hc
  cases hv
  obtain ⟨hfi, hil, hoff, hn0⟩ := hc
  obtain ⟨c', k1, k0, k2, k3⟩ := hR.blk _ _ hb
  have hin : b / es < xs.length := (List.getElem?_eq_some_iff.1 hy).1
  have hym := List.mem_of_getElem? hy
  have hbe := Nat.div_mul_comm_add b es
  generalize hi : b / es = i at *
  generalize ho : b % es = off at *
  rcases k3 with ⟨hbad, _⟩ | ⟨g, cap, cs, ty, rfl, e2, e3, e4, e5, e6, e7, e8, e9, e10, e11, e12⟩
  · cases hbad
  · have hp : c = .pointer (some ⟨g, b, none⟩) := by
      obtain ⟨g', cap', rfl, hT⟩ := hr.lptr_inv
      rw [hil, k1] at hT
      cases hT; rfl
    subst hp
    obtain ⟨hrv', hfree, _⟩ := shut_both hR v v' d hsv hd
    have hcv := hrv'.cells
    have hvl : v'.flat.length = n := by have := hcv.1; simp at this; omega
    simp only [Option.getD_some] at e10 e11 e12
    have hfl := y01 e7
    have hyw := e7 y hym
    have hput := y5w (off := off) (v := v') (y := y) (by omega) (by have : y.flat.length = es := hyw; omega)
    have hpw : (putEl off v' y).width = es := y5j hyw hput (by omega)
    have hw' : ∀ x, x ∈ xs.set i (putEl off v' y) → x.width = es := by
      intro z hz
      rcases List.mem_or_eq_of_mem_set hz with hz | hz
      · exact e7 z hz
      · subst hz; exact hpw
    have hf' : ∀ x, x ∈ xs.set i (putEl off v' y) → rfree x := by
      intro z hz
      rcases List.mem_or_eq_of_mem_set hz with hz | hz
      · exact k2 z hz
      · subst hz; exact y5d hfree (k2 y hym)
    have hli : (i + 1) * es ≤ xs.length * es := Nat.mul_le_mul_right _ hin
    rw [Nat.add_mul] at hli
    have hlc : xs.length * es ≤ cap * es := Nat.mul_le_mul_right _ e4
    have hcap : b + n ≤ cs.size := by omega
    let cs' : Array Value := (putCells b d.cells.toList cs.toList).toArray
    have hcs' : cs'.toList = putCells b d.cells.toList cs.toList := by simp [cs']
    have hsz' : cs'.size = cs.size := by
      have := y0c b d.cells.toList cs.toList (by simp [hlen]; omega)
      simpa [cs'] using this
    have hfi' : f * es ≤ i * es := Nat.mul_le_mul_right _ hfi
    have hold : ∀ j, j < f * es → cs'[j]? = cs[j]? := by
      intro j hj
      have : cs'.toList[j]? = cs.toList[j]? := by
        rw [hcs', putCells, List.append_assoc, List.getElem?_append_left (by simp; omega), List.getElem?_take, if_pos (by omega)]
      simpa using this
    have hflat : flatL (xs.set i (putEl off v' y)) = putCells b v'.flat (flatL xs) := by
      rw [flatL_set e7 hpw hin, hput]
      apply List.ext_getElem?
      intro j
      have hyl : y.flat.length = es := hyw
      rw [y0o (off := i * es) (by rw [y0c _ _ _ (by omega), hyl, hfl]; omega), y0o (off := b) (cs := flatL xs) (by rw [hfl]; omega), y0c _ _ _ (by omega), hyl]
      by_cases h1 : j < i * es
      · rw [if_pos h1, if_pos (by omega)]
      · rw [if_neg h1]
        by_cases h2 : j < i * es + es
        · rw [if_pos h2, y0o (by omega)]
          by_cases h3 : j - i * es < off
          · rw [if_pos h3, if_pos (by omega)]
            have := flatL_get e7 hy (List.getElem?_eq_getElem (show j - i * es < y.flat.length by omega))
            rw [List.getElem?_eq_getElem (show j - i * es < y.flat.length by omega), ← this]
            congr 1; omega
          · rw [if_neg h3]
            by_cases h4 : j - i * es < off + v'.flat.length
            · rw [if_pos h4, if_neg (by omega), if_pos (by omega)]
              congr 1; omega
            · rw [if_neg h4, if_neg (by omega), if_neg (by omega)]
              have := flatL_get e7 hy (List.getElem?_eq_getElem (show j - i * es < y.flat.length by omega))
              rw [List.getElem?_eq_getElem (show j - i * es < y.flat.length by omega), ← this]
              congr 1; omega
        · rw [if_neg h2, if_neg (by omega), if_neg (by omega)]
    have hflen : (flatL (xs.set i (putEl off v' y))).length = xs.length * es := by
      rw [y01 hw']; simp
    have hreps : Reps Γ (flatL (xs.set i (putEl off v' y))) (cs'.toList.take (flatL (xs.set i (putEl off v' y))).length) := by
      rw [hflen, hflat]
      have hh := (e8.put b hcv)
      have : (putCells b d.cells.toList cs.toList).take (xs.length * es) = putCells b d.cells.toList (cs.toList.take (flatL xs).length) := by
        rw [hfl]
        have l2 : d.cells.toList.length = n := by simpa using hlen
        exact y2u (by omega) (by simp; omega)
      rw [hcs', this]
      exact hh
    obtain ⟨r1, r2⟩ := hR.write (Γ' := Γ) (B := .grow es (xs.set i (putEl off v' y)) (some f)) (o := .cells cs' ty) (w' := w.setRow g cs') hb e2 (.refl Γ) (fun _ => rfl) (fun _ _ => ⟨rfl, fun _ => rfl⟩)
      (fun k j hk => rfl) (y02 w g cs cs' ty (0, 0) e3) (fun k hk => y0n w g k cs' hk) (y19 w g cs') rfl rfl rfl
      (fun j c hm => by
        rw [cell_at (y02 w g cs cs' ty (0, 0) e3)]
        by_cases hj : j < f * es
        · rw [hold j hj, ← e11 j hj]; exact hm
        · rw [e12 j (by omega)] at hm; cases hm)
      ⟨_, by rw [List.length_set]; exact k1, by rw [List.length_set]; exact k0, hf', .inr ⟨g, cap, cs', ty, by simp, e2, y02 w g cs cs' ty (0, 0) e3, by simpa using e4, hsz'.trans e5, e6, hw', hreps, by
          intro c hc
          rw [hcs'] at hc
          simp only [putCells, List.mem_append] at hc
          rcases hc with (hc | hc) | hc
          · exact e9 c (List.mem_of_mem_take hc)
          · exact hone c hc
          · exact e9 c (List.mem_of_mem_drop hc), by simpa using e10, fun j hj => by simp only [Option.getD_some] at hj; rw [hold j hj]; exact e11 j hj, fun j hj => e12 j (by simpa using hj)⟩⟩
    refine ⟨_, _, ?_, r1, r2⟩
    simp only [Instr.storeAt, Instr.sureAddr, Sem.run_bind, Sem.run_pure, Result.andThen_ok]
    exact y28 hs hlen hone e3 hcap
end
end Go.Ev
namespace Go.Ev
set_option linter.unusedVariables false
set_option linter.unusedSimpArgs false
open Go
section
variable {P : Program} {Γ : Gh} {e : Env} {a : Act}
theorem y5a {u : TypeId} (h : isIntB P u = some true) : ∃ k, P.underlying u = some (.int k) := by
  unfold isIntB at h
  split at h <;> first | (rename_i k hu; exact ⟨k, hu⟩) | cases h
theorem y50 {u : TypeId} (h : isIntB P u = some false) : (∃ k, P.underlying u = some (.slice k)) ∨ P.underlying u = some .string := by
  unfold isIntB at h
  split at h
  · cases h
  · rename_i k hu; exact .inl ⟨k, hu⟩
  · rename_i hu; exact .inr hu
  · cases h
theorem y43 {t es : Nat} (h : zlenB P t es = true) : ∃ i z, P.info? t = some i ∧ i.zero = some z ∧ z.cells.size = es ∧ ∀ c, c ∈ z.cells.toList → c.oneCell' = true := by
  unfold zlenB at h
  split at h
  · rename_i i hi
    split at h
    · rename_i z hz
      simp only [Bool.and_eq_true] at h
      exact ⟨i, z, hi, hz, by simpa using h.1, List.all_eq_true.1 h.2⟩
    · cases h
  · cases h
theorem y4s {w : World} {t u ty el : TypeId} {i : TypeInfo} {z : Value} {base : Option Addr} {sLen sCap n : Nat} {cx : Value} {olds news : List Value}
    (ht : P.underlying t = some (.slice el)) (hu : (∃ k, P.underlying u = some (.slice k)) ∨ P.underlying u = some .string) (hi : P.info? el = some i) (hz : i.zero = some z)
    (hlen : (Builtin.lenOf cx).run P w = .ok n w) (hold : (Builtin.firstCells i.size sLen (.slice base sLen sCap)).run P w.drew = .ok olds.toArray w.drew) (hnew : (Builtin.firstCells i.size n cx).run P w.drew = .ok news.toArray w.drew)
    (hgt : sCap < sLen + n) (hb : (sLen + n) * i.bytes ≤ 140737488355328) (hb0 : 0 < i.bytes) :
    ∃ cap, sLen + n ≤ cap ∧ (Builtin.append_ #[t, u] ty #[.slice base sLen sCap, cx]).run P w =
      .ok (.slice (some ⟨w.heap.size, 0, none⟩) (sLen + n) cap) (w.drew.alloc (.cells (olds.toArray ++ news.toArray ++ Builtin.zeroCells z.cells (cap - (sLen + n))) el)) := by
  have hn : ¬ (sLen + n ≤ sCap) := by omega
  have hsmall : sLen + n ≤ 140737488355328 := Nat.le_trans (Nat.le_mul_of_pos_right _ hb0) hb
  have h63' : ¬ (9223372036854775807 < ((sLen : Int) + (n : Int))) := by omega
  have hfit := growslice_fits (old := sCap) hgt hb
  have h48' : ¬ (281474976710656 < Builtin.nextslicecap (sLen + n) sCap * i.bytes) := by omega
  refine ⟨grownCap w (sLen + n) sCap el, ?_, ?_⟩
  · unfold grownCap Question.cut; simp
  · have hmax : IntKind.i64.max = 9223372036854775807 := by decide
    rcases hu with ⟨k, hu⟩ | hu
    all_goals
      simp [Builtin.append_, run_underlying ht, run_underlying hu, sizeOf, run_typeInfo _ hi, zeroValue, hz, hlen, hn, h63', h48', hmax, Question.forced, hold, hnew, newRow, grownCap]
      congr 2
      apply Array.ext'
      simp [List.append_assoc]
theorem y42 {w : World} {t u ty el : TypeId} {i : TypeInfo} {base : Option Addr} {sLen sCap : Nat} {cx : Value}
    (ht : P.underlying t = some (.slice el)) (hu : (∃ k, P.underlying u = some (.slice k)) ∨ P.underlying u = some .string) (hi : P.info? el = some i)
    (hlen : (Builtin.lenOf cx).run P w = .ok 0 w) (hnew : (Builtin.firstCells i.size 0 cx).run P w = .ok #[] w) (hle : sLen ≤ sCap) :
    (Builtin.append_ #[t, u] ty #[.slice base sLen sCap, cx]).run P w = .ok (.slice base sLen sCap) w := by
  rcases hu with ⟨k, hu⟩ | hu
  all_goals
    cases base <;> simp [Builtin.append_, run_underlying ht, run_underlying hu, sizeOf, run_typeInfo _ hi, hlen, hle, hnew, storeCells]
theorem y4t {w : World} {t u ty el : TypeId} {i : TypeInfo} {g sLen sCap n : Nat} {cx : Value} {news : List Value} {cs : Array Value} {ct : TypeId}
    (ht : P.underlying t = some (.slice el)) (hu : (∃ k, P.underlying u = some (.slice k)) ∨ P.underlying u = some .string) (hi : P.info? el = some i)
    (hlen : (Builtin.lenOf cx).run P w = .ok n w) (hnew : (Builtin.firstCells i.size n cx).run P w = .ok news.toArray w) (hle : sLen + n ≤ sCap)
    (hg : w.heap[g]? = some (.cells cs ct (0, 0))) (hfit : sLen * i.size + news.length ≤ cs.size) (h1 : ∀ d, d ∈ news → d.oneCell' = true) :
    (Builtin.append_ #[t, u] ty #[.slice (some ⟨g, 0, none⟩) sLen sCap, cx]).run P w = .ok (.slice (some ⟨g, 0, none⟩) (sLen + n) sCap) (w.setRow g (putCells (sLen * i.size) news cs.toList).toArray) := by
  have hst := run_storeCells_at P g (sLen * i.size) ct news 0 cs w hg (by simpa using hfit) h1
  simp only [Nat.add_zero] at hst
  have hadd := addr_add g 0 (sLen * i.size)
  simp only [Nat.zero_add] at hadd
  rcases hu with ⟨k, hu⟩ | hu
  all_goals
    simp [Builtin.append_, run_underlying ht, run_underlying hu, sizeOf, run_typeInfo _ hi, hlen, hle, hnew, hadd, hst, putCells]
def Gh.list (Γ : Gh) (b g n : Nat) (c : Value) (lim : Nat) (cs : Array Value) : Gh :=
  { M := fun k j => if k = g then (if j < lim then cs[j]? else none) else Γ.M k j, mu := Γ.mu, T := fun o l => if o = b ∧ l = n then some c else Γ.T o l, own := fun k => if k = g then some b else Γ.own k }
theorem Rel.listNew {H H' : Heap} {w : World} {b cap es : Nat} {xs : List AVal} {op : Option Nat} {cs : Array Value} {el : TypeId} (hR : Rel Γ H w) (hH1 : H'[b]? = some (.grow es xs op)) (hH2 : ∀ k, k ≠ b → H'[k]? = H[k]?)
    (hH3 : ∀ k, H'.length ≤ k → H.length ≤ k ∧ k ≠ b) (hT : ∀ l, xs.length ≤ l → Γ.T b l = none) (hf : ∀ x, x ∈ xs → rfree x) (hw : ∀ x, x ∈ xs → x.width = es) (hes : 0 < es) (hsz : cs.size = cap * es) (hcap : xs.length ≤ cap)
    (hr : Reps Γ (flatL xs) (cs.toList.take (flatL xs).length)) (h1 : ∀ c, c ∈ cs.toList → c.oneCell' = true) (hop : op.getD xs.length ≤ xs.length) :
    Rel (Γ.list b w.heap.size xs.length (.slice (some ⟨w.heap.size, 0, none⟩) xs.length cap) (op.getD xs.length * es) cs) H' (w.alloc (.cells cs el)) ∧
    Stp Γ w (Γ.list b w.heap.size xs.length (.slice (some ⟨w.heap.size, 0, none⟩) xs.length cap) (op.getD xs.length * es) cs) (w.alloc (.cells cs el)) := by
  generalize hc : Value.slice (some ⟨w.heap.size, 0, none⟩) xs.length cap = c
  generalize hΓ : Γ.list b w.heap.size xs.length c (op.getD xs.length * es) cs = Γ'
  have hle : Γ.le Γ' := by
    subst hΓ
    refine ⟨?_, fun _ _ h => h, ?_⟩
    · intro g j d h
      have := hR.memLt h
      simp only [Gh.list]
      rw [if_neg (by omega)]; exact h
    · intro o l d h
      simp only [Gh.list]
      split
      · rename_i e; rw [e.1, e.2, hT _ (Nat.le_refl _)] at h; cases h
      · exact h
  refine ⟨⟨?_, ?_, ?_, ?_⟩, ⟨hle, ?_, ?_, by simp, fun g hg _ => y0p w _ hg, rfl, rfl, rfl⟩⟩
  · intro g j d h
    subst hΓ
    simp only [Gh.list] at h
    split at h
    · rename_i e; subst e
      rw [cell_at (y1e w _)]
      split at h
      · exact h
      · cases h
    · rw [y1z w _ (hR.memLt h)]; exact hR.mem g j d h
  · intro k B hk
    by_cases e : k = b
    · subst e
      rw [hH1] at hk
      cases hk
      refine ⟨c, by subst hΓ; simp [Gh.list], ?_, hf, .inr ⟨w.heap.size, cap, cs, el, hc.symm, by subst hΓ; simp [Gh.list], y1e w _, hcap, hsz, hes, hw, hr.mono hle, h1, hop, ?_, ?_⟩⟩
      · intro l hl
        subst hΓ
        simp only [Gh.list]
        rw [if_neg (by omega)]
        exact hT l (by omega)
      · intro j hj; subst hΓ; simp [Gh.list, hj]
      · intro j hj; subst hΓ; simp only [Gh.list, if_true]; rw [if_neg (by omega)]
    · rw [hH2 k e] at hk
      refine (hR.blk k B hk).step hle ?_ ?_
      · intro g hg
        have hlt := hR.owned g k hg
        subst hΓ
        refine ⟨?_, y0p w _ hlt, ?_⟩
        · simp only [Gh.list]; rw [if_neg (by omega)]; exact hg
        · intro o; simp only [Gh.list]; rw [if_neg (by omega)]
      · subst hΓ
        exact ⟨rfl, fun l => by simp only [Gh.list]; rw [if_neg (by intro h; exact e h.1)]⟩
  · intro k hk
    obtain ⟨h2, h3⟩ := hH3 k hk
    obtain ⟨d1, d2⟩ := hR.dom k h2
    subst hΓ
    exact ⟨d1, fun l => by simp only [Gh.list]; rw [if_neg (by intro h; exact h3 h.1)]; exact d2 l⟩
  · intro g k hk
    subst hΓ
    simp only [Gh.list] at hk
    split at hk
    · rename_i e; subst e; simp
    · have := hR.owned g k hk; simp; omega
  · intro g hg ho
    subst hΓ
    simp only [Gh.list]; rw [if_neg (by omega)]; exact ho
  · intro g o hg _
    subst hΓ
    simp only [Gh.list]; rw [if_neg (by omega)]
theorem size_zeroCells' (z : Array Value) (n : Nat) : (Builtin.zeroCells z n).size = n * z.size := by simp [Builtin.zeroCells]
theorem y0q {z : Array Value} (h : ∀ c, c ∈ z.toList → c.oneCell' = true) (n : Nat) : ∀ c, c ∈ (Builtin.zeroCells z n).toList → c.oneCell' = true := by
  have : (Builtin.zeroCells z n).toList = (List.replicate n z.toList).flatten := by
    rw [← zeros_eq]; rfl
  rw [this]
  exact y1t h n
theorem Rep.lst_slice {xs : List AVal} {ee : Bool} {c : Value} (h : Rep Γ (.lst xs ee) c) : ∃ base cap, c = .slice base xs.length cap ∧ xs.length ≤ cap ∧ (ee = true → cap = xs.length) := by
  rcases h.lst_inv with ⟨rfl, base, cap, rfl, hE⟩ | ⟨g, off, cap, es, f, rfl, k1, k2, _⟩
  · exact ⟨base, cap, rfl, Nat.zero_le _, fun h => hE.elim (fun x => x.2) (fun x => x.2 h)⟩
  · exact ⟨_, cap, rfl, k1, k2⟩
theorem y40 {w : World} {t u ty el : TypeId} {i : TypeInfo} {z : Value} {H H' : Heap} {b es sCap : Nat} {base : Option Addr} {xs ys : List AVal} {op : Option Nat} {x : AVal} {cx : Value}
    (hR : Rel Γ H w) (ht : P.underlying t = some (.slice el)) (hu : (∃ k, P.underlying u = some (.slice k)) ∨ P.underlying u = some .string) (hi : P.info? el = some i) (hz : i.zero = some z) (hzs : z.cells.size = es) (hz1 : ∀ c, c ∈ z.cells.toList → c.oneCell' = true)
    (his : i.size = es) (hes : 0 < es) (hb0 : 0 < i.bytes) (hs : ∃ dx, Holds P Γ w.drew xs (.slice base xs.length sCap) dx) (hel : elemsOf H x = some ys) (hrx : Rep Γ x cx)
    (hwx : ∀ y, y ∈ xs → y.width = es) (hwy : ∀ y, y ∈ ys → y.width = es) (hgt : sCap < xs.length + ys.length) (hbd : (xs.length + ys.length) * i.bytes ≤ 140737488355328)
    (hH1 : H'[b]? = some (.grow es (xs ++ ys) op)) (hH2 : ∀ k, k ≠ b → H'[k]? = H[k]?) (hH3 : ∀ k, H'.length ≤ k → H.length ≤ k ∧ k ≠ b) (hT : ∀ l, xs.length < l → Γ.T b l = none) (hop : op.getD (xs ++ ys).length ≤ (xs ++ ys).length) (hfx : ∀ y, y ∈ xs → rfree y) (hne : ys ≠ []) :
    ∃ c w' Γ', (Builtin.append_ #[t, u] ty #[.slice base xs.length sCap, cx]).run P w = .ok c w' ∧ Rep Γ' (.gl b (xs.length + ys.length)) c ∧ Rel Γ' H' w' ∧ Stp Γ w Γ' w' := by
  have hRd : Rel Γ H w.drew := hR.drew _
  obtain ⟨dy, hy⟩ := y1s (P := P) hRd hel hrx
  obtain ⟨dy', hy'⟩ := y1s (P := P) hR hel hrx
  obtain ⟨dx, hx⟩ := hs
  have hlx : dx.length = xs.length * es := by rw [hx.reps.1, y01 hwx]
  have hly : dy.length = ys.length * es := by rw [hy.reps.1, y01 hwy]
  have fx := hx.first es xs.length hwx (Nat.le_refl _)
  have fy := hy.first es ys.length hwy (Nat.le_refl _)
  rw [List.take_of_length_le (by omega)] at fx fy
  obtain ⟨cap, hcap, hrun⟩ := y4s (P := P) (ty := ty) ht hu hi hz hy'.len (his ▸ fx) (his ▸ fy) hgt hbd hb0
  have hlen : (xs ++ ys).length = xs.length + ys.length := List.length_append
  have hpos : 0 < ys.length := by cases ys with
    | nil => exact absurd rfl hne
    | cons => simp
  have hw : ∀ y, y ∈ xs ++ ys → y.width = es := by
    intro y hy; simp only [List.mem_append] at hy; rcases hy with hy | hy
    · exact hwx y hy
    · exact hwy y hy
  have hfr : ∀ y, y ∈ xs ++ ys → rfree y := by
    intro y hm; simp only [List.mem_append] at hm; rcases hm with hy | hy
    · exact hfx y hy
    · exact hy'.free y hy
  have hfl := y01 hw
  let cs : Array Value := dx.toArray ++ dy.toArray ++ Builtin.zeroCells z.cells (cap - (xs.length + ys.length))
  have hcsl : cs.toList = dx ++ dy ++ (Builtin.zeroCells z.cells (cap - (xs.length + ys.length))).toList := by simp [cs]
  have hcs : cs.size = cap * es := by
    have : cs.size = dx.length + dy.length + (cap - (xs.length + ys.length)) * es := by
      simp [cs, size_zeroCells', hzs]; omega
    rw [this, hlx, hly, ← Nat.add_mul, ← Nat.add_mul]
    congr 1; omega
  have hreps : Reps Γ (flatL (xs ++ ys)) (cs.toList.take (flatL (xs ++ ys)).length) := by
    have h2 := hx.reps.append hy.reps
    rw [y1g, hcsl, List.take_left' (by rw [← h2.1])]
    exact h2
  have h1 : ∀ c, c ∈ cs.toList → c.oneCell' = true := by
    intro c hc
    rw [hcsl] at hc
    simp only [List.mem_append] at hc
    rcases hc with (hc | hc) | hc
    · exact hx.one c hc
    · exact hy.one c hc
    · exact y0q hz1 _ c hc
  obtain ⟨r1, r2⟩ := hRd.listNew (cap := cap) (es := es) (cs := cs) (el := el) hH1 hH2 hH3 (fun l hl => hT l (by omega)) hfr hw hes hcs (by omega) hreps h1 hop
  have hsz : w.drew.heap.size = w.heap.size := rfl
  refine ⟨_, _, _, hrun, ?_, r1, (Stp.drew Γ w _).trans r2⟩
  rw [hlen]
  refine .gl ?_ (fun _ => rfl)
  simp only [Gh.list, hlen, hsz, and_self, if_true]
theorem y2v {H H' : Heap} {id : Nat} {B : ABlock} (h : newAt H id B = some H') : H'[id]? = some B ∧ (∀ k, k ≠ id → H'[k]? = H[k]?) ∧ (∀ k, H'.length ≤ k → H.length ≤ k ∧ k ≠ id) := by
  have := y2n h
  exact ⟨this.1, this.2.1, this.2.2.2.2.1⟩
theorem y5i {H : Heap} {b : Nat} {B0 B : ABlock} (h : H[b]? = some B0) : (H.set b B)[b]? = some B ∧ (∀ k, k ≠ b → (H.set b B)[k]? = H[k]?) ∧ (∀ k, (H.set b B).length ≤ k → H.length ≤ k ∧ k ≠ b) := by
  have hlt := (List.getElem?_eq_some_iff.1 h).1
  refine ⟨List.getElem?_set_self hlt, fun k hk => List.getElem?_set_ne (Ne.symm hk), fun k hk => ?_⟩
  simp at hk
  omega
theorem app_sound {o : Oper} {C : Ctx} {id es bytes : Nat} {opn : Bool} {s x : AOpd} {v : AVal} {H H' : Heap} {w : World} (he : EnvRel Γ e a.tmps) (hR : Rel Γ H w) (hk : chkH P (.app es bytes opn s x) o.op = true)
    (hv : evH C e id H (.app es bytes opn s x) = some (.ok v, H')) : Done P o a w Γ v H' := by
  obtain ⟨dst, op, ty, pos, after, guard⟩ := o
  simp only at hk
  cases op <;> simp only [chkH, Bool.false_eq_true, Bool.and_eq_true, decide_eq_true_eq] at hk
  rename_i c
  obtain ⟨⟨⟨⟨hb, ha⟩, hes⟩, hby0⟩, ht⟩ := hk
  have hcal : c.callee = .builtin .append := by
    unfold builtinB at hb
    split at hb
    · rename_i b hb'; simp at hb; rw [hb', hb]
    · cases hb
  unfold args2 at ha
  split at ha <;> first | (cases ha; done) | skip
  rename_i s' x' hargs
  simp only [Bool.and_eq_true] at ha
  split at ht <;> first | (cases ht; done) | skip
  rename_i t u hts
  simp only [Bool.and_eq_true, decide_eq_true_eq] at ht
  obtain ⟨hu, hel⟩ := ht
  obtain ⟨el, htu, hq⟩ := y0r hel
  simp only [Bool.and_eq_true] at hq
  obtain ⟨⟨hsz, hby⟩, hz⟩ := hq
  obtain ⟨i, hi, his⟩ := y1h hsz
  obtain ⟨i2, hi2, hib⟩ := y2g hby
  rw [hi] at hi2; cases hi2
  obtain ⟨i3, z, hi3, hzv, hzs, hz1⟩ := y43 hz
  rw [hi] at hi3; cases hi3
  have hu' := y50 hu
  have hrun : ∀ (c' : Value) (w' : World), (Builtin.append_ #[t, u] ty #[a.eval s', a.eval x']).run P w = .ok c' w' →
      (execOp a.eval { dst, op := .call c, type := ty, pos, after, guard }).run P w = .ok (.value c') w' := by
    intro c' w' h
    have e1 : c.args.map a.eval = #[a.eval s', a.eval x'] := by
      apply Array.ext'; simp [hargs]
    have e2 : c.argTypes = #[t, u] := by apply Array.ext'; simpa using hts
    simp only [execOp, resolve, hcal, e1, e2, Sem.run_bind, Sem.run_pure, Result.andThen_ok, invoke, builtin, h]
  simp only [evH] at hv
  split at hv <;> first | (cases hv; done) | skip
  rename_i sv xv hs hx
  have hrs := ev_rep he ha.1 hs
  have hrx := ev_rep he ha.2 hx
  split at hv <;> first | (cases hv; done) | skip
  rename_i rv H1 happ
  simp only [Option.some.injEq, Prod.mk.injEq, Ex.ok.injEq] at hv
  obtain ⟨rfl, rfl⟩ := hv
  unfold appendA at happ
  split at happ <;> first | (cases happ; done) | skip
  rename_i ys hel0
  split at happ <;> first | (cases happ; done) | skip
  rename_i hall
  have hwy := width_all hall
  obtain ⟨dy, hy⟩ := y1s (P := P) hR hel0 hrx
  have stay : ∀ base cap (l : Nat), a.eval s' = .slice base l cap → l ≤ cap → ys = [] → (Builtin.append_ #[t, u] ty #[a.eval s', a.eval x']).run P w = .ok (a.eval s') w := by
    intro base cap l h1 h2 h3
    subst h3
    rw [h1]
    exact y42 htu hu' hi hy.len (by have := hy.first i.size 0 (by simp) (Nat.zero_le _); simpa using this) h2
  split at happ
  · rename_i xs ee
    obtain ⟨base, cap, hcs, hle, hex⟩ := hrs.lst_slice
    split at happ
    · rename_i hemp
      cases happ
      have hys : ys = [] := by simpa using hemp
      exact Done.same hR (hrun _ _ (stay base cap _ hcs hle hys)) hrs
    · rename_i hemp
      split at happ <;> first | (cases happ; done) | skip
      rename_i hcond
      split at happ <;> first | (cases happ; done) | skip
      rename_i H2 hnew
      cases happ
      obtain ⟨h1, h2, h3⟩ := y2v hnew
      have hfr := y2i hR hnew
      have hne : ys ≠ [] := by simpa using hemp
      have hpos : 0 < ys.length := List.length_pos_iff.2 hne
      have hxf : ∀ y, y ∈ xs → rfree y := by
        rcases hrs.lst_inv with ⟨rfl, _⟩ | ⟨_, _, _, _, _, _, _, _, _, k4, _⟩
        · simp
        · exact k4
      rw [hcs] at hrs
      obtain ⟨c', w', Γ', r1, r2, r3, r4⟩ := y40 (P := P) (t := t) (u := u) (ty := ty) (b := id) (es := es) (op := if opn then some xs.length else none) hR htu hu' hi hzv hzs hz1 his hes (by omega) (lst_holds (hR.drew _) hrs) hel0 hrx
        (width_all hcond.2.1) hwy (by rw [hex hcond.1]; omega) (by rw [hib]; exact hcond.2.2) h1 h2 h3 (fun l _ => hfr.2 l) (by cases opn <;> simp) hxf hne
      refine ⟨_, _, _, _, hrun _ _ (hcs ▸ r1), .inl rfl, r2, r3, r4⟩
  · rename_i ol len
    split at happ <;> first | (cases happ; done) | skip
    rename_i es0 xs op0 hb'
    split at happ <;> first | (cases happ; done) | skip
    rename_i hcond
    obtain ⟨hlen, hes0, hallx⟩ := hcond
    subst hlen
    obtain ⟨c0, k1, k0, k2, k3⟩ := hR.blk _ _ hb'
    obtain ⟨ad, cap0, hcs, hT, had⟩ := hrs.gl_inv
    rw [hcs] at hT
    rw [k1] at hT
    cases hT
    have hle : xs.length ≤ cap0 := by
      rcases k3 with ⟨_, hex⟩ | ⟨g, cap, cs, cty, e1, e2, e3, e4, _⟩
      · obtain ⟨_, _, e1, h, _⟩ := hex.lst_slice
        cases e1; exact h
      · cases e1; exact e4
    split at happ
    · rename_i hemp
      cases happ
      have hys : ys = [] := by simpa using hemp
      exact Done.same hR (hrun _ _ (stay ad cap0 _ hcs hle hys)) hrs
    · rename_i hemp
      split at happ <;> first | (cases happ; done) | skip
      rename_i hbd
      cases happ
      have hne : ys ≠ [] := by simpa using hemp
      have hpos : 0 < ys.length := List.length_pos_iff.2 hne
      obtain ⟨h1, h2, h3⟩ := y5i (B := .grow es (xs ++ ys) (if opn then some (op0.getD xs.length) else none)) hb'
      by_cases hroom : xs.length + ys.length ≤ cap0
      · rcases k3 with ⟨_, hex⟩ | ⟨g, cap, cs, cty, e1, e2, e3, e4, e5, e6, e7, e8, e9, e10, e11, e12⟩
        · obtain ⟨_, _, e1, _, hcl⟩ := hex.lst_slice
          cases e1
          have := hcl rfl
          omega
        · cases e1
          have hes' : es0 = es := by rcases hes0 with h | h <;> omega
          subst hes'
          have hly : dy.length = ys.length * es0 := by rw [hy.reps.1, y01 hwy]
          have fy := hy.first es0 ys.length hwy (Nat.le_refl _)
          rw [List.take_of_length_le (by omega)] at fy
          have hfit : xs.length * es0 + dy.length ≤ cs.size := by rw [hly, e5, ← Nat.add_mul]; exact Nat.mul_le_mul_right _ hroom
          have hrun' := y4t (P := P) (ty := ty) htu hu' hi hy.len (his ▸ fy) hroom e3 (by rw [his]; exact hfit) hy.one
          rw [his] at hrun'
          have hw2 : ∀ y, y ∈ xs ++ ys → y.width = es0 := by
            intro y hm; simp only [List.mem_append] at hm; rcases hm with hm | hm
            · exact e7 y hm
            · exact hwy y hm
          have hfr2 : ∀ y, y ∈ xs ++ ys → rfree y := by
            intro y hm; simp only [List.mem_append] at hm; rcases hm with hm | hm
            · exact k2 y hm
            · exact hy.free y hm
          have hlen2 : (xs ++ ys).length = xs.length + ys.length := List.length_append
          let cs' : Array Value := (putCells (xs.length * es0) dy cs.toList).toArray
          have hcs' : cs'.toList = putCells (xs.length * es0) dy cs.toList := by simp [cs']
          have hsz' : cs'.size = cs.size := by
            have := y0c (xs.length * es0) dy cs.toList (by simpa using hfit)
            simpa [cs'] using this
          have hold : ∀ j, j < xs.length * es0 → cs'[j]? = cs[j]? := by
            intro j hj
            have : cs'.toList[j]? = cs.toList[j]? := by
              rw [hcs', y0o (by simpa using hfit), if_pos hj]
            simpa using this
          have hop2 : (if opn then some (op0.getD xs.length) else none : Option Nat).getD (xs ++ ys).length ≤ (xs ++ ys).length := by cases opn <;> simp; omega
          have hop3 : op0.getD xs.length ≤ (if opn then some (op0.getD xs.length) else none : Option Nat).getD (xs ++ ys).length := by cases opn <;> simp; omega
          generalize hopq : (if opn then some (op0.getD xs.length) else none : Option Nat) = opq at hop2 hop3
          have hfl := y01 e7
          have hfl2 := y01 hw2
          generalize hΓ : Γ.list ol g (xs ++ ys).length (.slice (some ⟨g, 0, none⟩) (xs ++ ys).length cap0) (opq.getD (xs ++ ys).length * es0) cs' = Γ'
          have hle' : Γ.le Γ' := by
            subst hΓ
            refine ⟨?_, fun _ _ h => h, ?_⟩
            · intro k j d hm
              simp only [Gh.list]
              split
              · rename_i ek; subst ek
                by_cases hj : j < op0.getD xs.length * es0
                · have : op0.getD xs.length * es0 ≤ opq.getD (xs ++ ys).length * es0 := Nat.mul_le_mul_right _ hop3
                  have : op0.getD xs.length * es0 ≤ xs.length * es0 := Nat.mul_le_mul_right _ e10
                  rw [if_pos (by omega), hold j (by omega), ← e11 j hj]; exact hm
                · rw [e12 j (by omega)] at hm; cases hm
              · exact hm
            · intro o l d h
              simp only [Gh.list]
              split
              · rename_i ee; rw [ee.1, ee.2, k0 _ (by omega)] at h; cases h
              · exact h
          have hreps : Reps Γ (flatL (xs ++ ys)) (cs'.toList.take (flatL (xs ++ ys)).length) := by
            have h2 := e8.append hy.reps
            rw [y1g]
            have : cs'.toList.take (flatL xs ++ flatL ys).length = cs.toList.take (flatL xs).length ++ dy := by
              rw [hcs', List.length_append, hfl, ← hy.reps.1]
              unfold putCells
              rw [List.take_append_of_le_length (by simp; omega)]
              rw [List.take_of_length_le (by simp; omega)]
            rw [this]; exact h2
          have hown' : ∀ k, Γ'.own k = Γ.own k := by
            intro k; subst hΓ; simp only [Gh.list]; split
            · rename_i ek; subst ek; exact e2.symm
            · rfl
          obtain ⟨r1, r2⟩ := hR.write (Γ' := Γ') (B := .grow es0 (xs ++ ys) opq) (o := .cells cs' cty) (w' := w.setRow g cs') hb' e2 hle' hown' (fun k hk => by subst hΓ; exact ⟨rfl, fun l => by simp only [Gh.list]; rw [if_neg (by intro h; exact hk h.1)]⟩)
            (fun k j hk => by subst hΓ; simp [Gh.list, hk]) (y02 w g cs cs' cty (0, 0) e3) (fun k hk => y0n w g k cs' hk) (y19 w g cs') rfl rfl rfl
            (fun j c hm => by
              subst hΓ
              simp only [Gh.list, if_true] at hm
              rw [cell_at (y02 w g cs cs' cty (0, 0) e3)]
              split at hm
              · exact hm
              · cases hm)
            ⟨_, by subst hΓ; simp [Gh.list], (by intro l hl; subst hΓ; simp only [Gh.list]; rw [if_neg (by omega)]; exact k0 l (by omega)), hfr2, .inr ⟨g, cap0, cs', cty, rfl, (hown' g).trans e2, y02 w g cs cs' cty (0, 0) e3, by omega, hsz'.trans e5, e6, hw2, hreps.mono hle', by
                intro c hc
                rw [hcs'] at hc
                simp only [putCells, List.mem_append] at hc
                rcases hc with (hc | hc) | hc
                · exact e9 c (List.mem_of_mem_take hc)
                · exact hy.one c hc
                · exact e9 c (List.mem_of_mem_drop hc), hop2, fun j hj => by subst hΓ; simp only [Gh.list, if_true]; rw [if_pos hj], fun j hj => by subst hΓ; simp only [Gh.list, if_true]; rw [if_neg (by omega)]⟩⟩
          refine ⟨_, _, _, _, hrun _ _ (hcs ▸ hrun'), .inl rfl, ?_, r1, r2⟩
          refine .gl ?_ (fun _ => rfl)
          subst hΓ
          simp only [Gh.list, hlen2, and_self, if_true]
      · have hop0 : op0.getD xs.length ≤ xs.length := by
          rcases k3 with ⟨h, _⟩ | ⟨g, cap, cs, cty, e1, e2, e3, e4, e5, e6, e7, e8, e9, e10, _⟩
          · subst h; simp
          · exact e10
        obtain ⟨c', w', Γ', r1, r2, r3, r4⟩ := y40 (P := P) (t := t) (u := u) (ty := ty) (b := ol) (es := es) (op := if opn then some (op0.getD xs.length) else none) hR htu hu' hi hzv hzs hz1 his hes (by omega) (gl_holds (hR.drew _) hb' rfl (hcs ▸ hrs)) hel0 hrx
          (width_all hallx) hwy (by omega) (by rw [hib]; exact hbd) h1 h2 h3 k0 (by have := hop0; cases opn <;> simp; omega) k2 hne
        refine ⟨_, _, _, _, hrun _ _ (hcs ▸ r1), .inl rfl, r2, r3, r4⟩
  · cases happ
end
end Go.Ev
namespace Go.Ev
set_option linter.unusedVariables false
set_option linter.unusedSimpArgs false
open Go
section
variable {P : Program} {Γ : Gh} {e : Env} {a : Act}
theorem rep_undef (Γ : Gh) : Rep Γ undefA undef := .tup (cs := []) (ds := []) rfl (by simp)
theorem exec_u {o : Oper} {w w' : World} {s : Sem Unit} (h : execOp a.eval o = (do s; pure Next.skip)) (hs : s.run P w = .ok () w') : (execOp a.eval o).run P w = .ok .skip w' := by
  rw [h]; simp [hs]
theorem st_sound {o : Oper} {H H' : Heap} {w : World} {t : TypeId} {x' v' : Operand} {p v : AVal} {n : Nat} (hR : Rel Γ H w) (ho : o.op = .store t x' v') (hs : sizeB P t n = true) (hp : Rep Γ p (a.eval x')) (hv : Rep Γ v (a.eval v'))
    (hst : storeA H n p v = some H') : Done P o a w Γ undefA H' := by
  obtain ⟨w', Γ', r1, r2, r3⟩ := y51 hR hs hst hp hv
  exact ⟨.skip, undef, w', Γ', exec_u (by simp only [execOp, ho]) r1, .inr ⟨rfl, rfl⟩, rep_undef Γ', r2, r3⟩
theorem sts_sound {o : Oper} {C : Ctx} {id : Nat} {x y : AOpd} {v : AVal} {H H' : Heap} {w : World} (he : EnvRel Γ e a.tmps) (hR : Rel Γ H w) (hk : chkH P (.sts x y) o.op = true)
    (hv : evH C e id H (.sts x y) = some (.ok v, H')) : Done P o a w Γ v H' := by
  obtain ⟨dst, op, ty, pos, after, guard⟩ := o
  simp only at hk
  cases op <;> simp only [chkH, Bool.false_eq_true, Bool.and_eq_true] at hk
  simp only [evH] at hv
  split at hv <;> first | (cases hv; done) | skip
  rename_i p u hp hu
  split at hv <;> first | (cases hv; done) | skip
  rename_i H1 hst
  simp only [Option.some.injEq, Prod.mk.injEq, Ex.ok.injEq] at hv
  obtain ⟨rfl, rfl⟩ := hv
  exact st_sound hR rfl hk.2 (ev_rep he hk.1.1 hp) (ev_rep he hk.1.2 hu) hst
theorem sta_sound {o : Oper} {C : Ctx} {id n : Nat} {x y : AOpd} {v : AVal} {H H' : Heap} {w : World} (he : EnvRel Γ e a.tmps) (hR : Rel Γ H w) (hk : chkH P (.sta n x y) o.op = true)
    (hv : evH C e id H (.sta n x y) = some (.ok v, H')) : Done P o a w Γ v H' := by
  obtain ⟨dst, op, ty, pos, after, guard⟩ := o
  simp only at hk
  cases op <;> simp only [chkH, Bool.false_eq_true, Bool.and_eq_true] at hk
  simp only [evH] at hv
  split at hv <;> first | (cases hv; done) | skip
  rename_i p u hp hu
  split at hv <;> first | (cases hv; done) | skip
  rename_i H1 hst
  simp only [Option.some.injEq, Prod.mk.injEq, Ex.ok.injEq] at hv
  obtain ⟨rfl, rfl⟩ := hv
  exact st_sound hR rfl hk.2 (ev_rep he hk.1.1 hp) (ev_rep he hk.1.2 hu) hst
theorem stk_sound {o : Oper} {C : Ctx} {id n : Nat} {x y : AOpd} {v : AVal} {H H' : Heap} {w : World} (he : EnvRel Γ e a.tmps) (hR : Rel Γ H w) (hk : chkH P (.stk n x y) o.op = true)
    (hv : evH C e id H (.stk n x y) = some (.ok v, H')) : Done P o a w Γ v H' := by
  obtain ⟨dst, op, ty, pos, after, guard⟩ := o
  simp only at hk
  cases op <;> simp only [chkH, Bool.false_eq_true, Bool.and_eq_true] at hk
  simp only [evH] at hv
  split at hv <;> first | (cases hv; done) | skip
  rename_i p u hp hu
  split at hv <;> first | (cases hv; done) | skip
  rename_i H1 hst
  simp only [Option.some.injEq, Prod.mk.injEq, Ex.ok.injEq] at hv
  obtain ⟨rfl, rfl⟩ := hv
  obtain ⟨w', Γ', r1, r2, r3⟩ := y53 hR hk.2 hst (ev_rep he hk.1.1 hp) (ev_rep he hk.1.2 hu)
  exact ⟨.skip, undef, w', Γ', exec_u (by simp only [execOp]) r1, .inr ⟨rfl, rfl⟩, rep_undef Γ', r2, r3⟩
theorem y1p {t el : TypeId} {w : World} {ad : Addr} {len cap es : Nat} {k : IntKind} {n : Int} (hu : P.underlying t = some (.slice el)) (hs : sizeB P el es = true) (h0 : 0 ≤ n) (h1 : n < len) :
    (Instr.indexAt t (.slice (some ad) len cap) (.int k n)).run P w = .ok (.pointer (some (ad.add (n.toNat * es)))) w := by
  simp [Instr.indexAt, asIntOf, run_underlying hu, h0, h1, run_sizeB hs]
theorem lst_elem {xs : List AVal} {ee : Bool} {c : Value} {n es : Nat} {y : AVal} (h : Rep Γ (.lst xs ee) c) (hn : xs[n]? = some y) (hw : y.width = es) :
    ∃ g off cap, c = .slice (some ⟨g, off, none⟩) xs.length cap ∧ Rep Γ (.ro y.flat) (.pointer (some ⟨g, off + n * es, none⟩)) := by
  rcases h.lst_inv with ⟨rfl, base, cap, rfl, hE⟩ | ⟨g, off, cap, es', f, rfl, k1, k2, k3, k4, k5, k6, k7⟩
  · simp at hn
  · have hy := List.mem_of_getElem? hn
    have hes : es' = es := (k3 y hy).symm.trans hw
    subst hes
    refine ⟨g, off, cap, rfl, .ro (fun j => f (n * es' + j)) (y1f (k4 y hy)) ?_ ?_ ?_⟩
    · intro j c hj
      rw [Nat.add_assoc]; exact k5 _ c (flatL_get k3 hn hj)
    · intro j c hj; exact k6 _ c (flatL_get k3 hn hj)
    · intro j c hj; exact k7 _ c (flatL_get k3 hn hj)
theorem ia_sound {o : Oper} {C : Ctx} {id es : Nat} {x i : AOpd} {v : AVal} {H H' : Heap} {w : World} (he : EnvRel Γ e a.tmps) (hR : Rel Γ H w) (hk : chkH P (.ia es x i) o.op = true)
    (hv : evH C e id H (.ia es x i) = some (.ok v, H')) : Done P o a w Γ v H' := by
  obtain ⟨dst, op, ty, pos, after, guard⟩ := o
  simp only at hk
  cases op <;> simp only [chkH, Bool.false_eq_true, Bool.and_eq_true] at hk
  rename_i t x' i'
  obtain ⟨el, hu, hs⟩ := y0r hk.2
  simp only [evH] at hv
  split at hv
  · rename_i ol len k n hx hi
    have hci := (ev_rep he hk.1.2 hi).int_inv
    have hrx := ev_rep he hk.1.1 hx
    split at hv <;> first | (cases hv; done) | skip
    rename_i es0 xs op hb
    split at hv <;> first | (cases hv; done) | skip
    rename_i hcond
    obtain ⟨h0, h1, hlen, hany⟩ := hcond
    subst hlen
    cases op with
    | none =>
      simp only [Option.bind_eq_some_iff, Option.some.injEq, Prod.mk.injEq, Ex.ok.injEq] at hv
      obtain ⟨y, hy, rfl, rfl⟩ := hv
      rw [hy] at hany
      have hw : y.width = es := by simpa using hany
      obtain ⟨c1, k1, hlst⟩ := grow_lst (hR.blk _ _ hb)
      obtain ⟨ad, cap, hcx, hT, _⟩ := hrx.gl_inv
      rw [hcx, k1] at hT
      cases hT
      obtain ⟨g, off, cap', hc', hro⟩ := lst_elem hlst hy hw
      cases hc'
      refine Done.same hR (exec_v rfl ?_) hro
      rw [hcx, hci]
      have := y1p (P := P) (w := w) (ad := ⟨g, off, none⟩) (cap := cap) (k := k) hu hs h0 h1
      rw [addr_add] at this
      exact this
    | some f =>
      simp only at hv
      split at hv <;> first | (cases hv; done) | skip
      rename_i hff
      simp only [Option.some.injEq, Prod.mk.injEq, Ex.ok.injEq] at hv
      obtain ⟨rfl, rfl⟩ := hv
      obtain ⟨c', k1, k0, k2, k3⟩ := hR.blk _ _ hb
      rcases k3 with ⟨hbad, _⟩ | ⟨g, cap, cs, cty, rfl, _⟩
      · cases hbad
      · obtain ⟨ad, cap', hcx, hT, _⟩ := hrx.gl_inv
        rw [hcx, k1] at hT
        cases hT
        refine Done.same hR (c := .pointer (some ⟨g, n.toNat * es, none⟩)) (exec_v rfl ?_) (.lptr (cap := cap) k1)
        rw [hcx, hci]
        have := y1p (P := P) (w := w) (ad := ⟨g, 0, none⟩) (cap := cap) (k := k) hu hs h0 h1
        rw [addr_add, Nat.zero_add] at this
        exact this
  · rename_i xs ee k n hx hi
    have hci := (ev_rep he hk.1.2 hi).int_inv
    have hrx := ev_rep he hk.1.1 hx
    split at hv <;> first | (cases hv; done) | skip
    rename_i h0
    split at hv <;> first | (cases hv; done) | skip
    rename_i y hy
    split at hv <;> first | (cases hv; done) | skip
    rename_i hw
    simp only [Option.some.injEq, Prod.mk.injEq, Ex.ok.injEq] at hv
    obtain ⟨rfl, rfl⟩ := hv
    obtain ⟨g, off, cap', hc', hro⟩ := lst_elem hrx hy hw
    refine Done.same hR (exec_v rfl ?_) hro
    rw [hc', hci]
    have hlt : n < xs.length := by have := (List.getElem?_eq_some_iff.1 hy).1; omega
    have := y1p (P := P) (w := w) (ad := ⟨g, off, none⟩) (cap := cap') (k := k) hu hs h0 hlt
    rw [addr_add] at this
    exact this
  · rename_i b off len cap wd k n hx hi
    have hci := (ev_rep he hk.1.2 hi).int_inv
    obtain ⟨g, hcx, hmu⟩ := (ev_rep he hk.1.1 hx).sl_inv
    split at hv <;> first | (cases hv; done) | skip
    rename_i hcond
    simp only [Option.some.injEq, Prod.mk.injEq, Ex.ok.injEq] at hv
    obtain ⟨rfl, rfl⟩ := hv
    refine Done.same hR (exec_v rfl ?_) (.ptr (g := g) hmu)
    rw [hcx, hci]
    have := y1p (P := P) (w := w) (ad := ⟨g, off, none⟩) (cap := cap) (k := k) hu hs hcond.1 hcond.2.1
    rw [addr_add] at this
    exact this
  · cases hv
theorem y18 {c : Call} {b : Builtin} (h : builtinB c b = true) : c.callee = .builtin b := by
  unfold builtinB at h
  split at h
  · rename_i b' hb'; simp at h; rw [hb', h]
  · cases h
theorem args1_eq {l : List Operand} {q : Operand → Bool} (h : args1 l q = true) : ∃ x, l = [x] ∧ q x = true := by
  unfold args1 at h
  split at h
  · exact ⟨_, rfl, h⟩
  · cases h
theorem args2_eq {l : List Operand} {q : Operand → Operand → Bool} (h : args2 l q = true) : ∃ x y, l = [x, y] ∧ q x y = true := by
  unfold args2 at h
  split at h
  · exact ⟨_, _, rfl, h⟩
  · cases h
theorem len_sound {o : Oper} {C : Ctx} {id : Nat} {k : LenK} {x : AOpd} {v : AVal} {H H' : Heap} {w : World} (he : EnvRel Γ e a.tmps) (hR : Rel Γ H w) (hk : chkH P (.len k x) o.op = true)
    (hv : evH C e id H (.len k x) = some (.ok v, H')) : Done P o a w Γ v H' := by
  obtain ⟨dst, op, ty, pos, after, guard⟩ := o
  simp only at hk
  cases op <;> simp only [chkH, Bool.false_eq_true, Bool.and_eq_true] at hk
  rename_i c
  obtain ⟨⟨hb, ha⟩, ht⟩ := hk
  have hcal := y18 hb
  obtain ⟨x', hargs, hko⟩ := args1_eq ha
  split at ht <;> first | (cases ht; done) | skip
  rename_i t hts
  simp only [evH] at hv
  split at hv <;> first | (cases hv; done) | skip
  rename_i u hu
  have hrx := ev_rep he hko hu
  unfold okv at hv
  split at hv <;> first | (cases hv; done) | skip
  rename_i v0 hlen
  simp only [Option.some.injEq, Prod.mk.injEq, Ex.ok.injEq] at hv
  obtain ⟨rfl, rfl⟩ := hv
  rw [Option.map_eq_some_iff] at hlen
  obtain ⟨n, hn, rfl⟩ := hlen
  refine Done.same hR (c := goInt n) ?_ (.int _ _)
  have e1 : (c.args.map a.eval)[0]? = some (a.eval x') := by
    rw [show c.args = [x'].toArray from by apply Array.ext'; simpa using hargs]; simp
  have key : (Builtin.len_ c.argTypes ty (c.args.map a.eval)).run P w = .ok (goInt n) w := by
    unfold lenTy at ht
    split at ht
    · rename_i el hut
      have : k = .slice := by simpa using ht
      subst this
      cases u <;> simp only [lenOf, reduceCtorEq, Option.some.injEq] at hn
      · obtain ⟨base, cap, hc, _, _⟩ := hrx.lst_slice
        simp [Builtin.len_, hts, e1, run_underlying hut, hc, hn]
      · obtain ⟨ad, cap, hc, _, _⟩ := hrx.gl_inv
        simp [Builtin.len_, hts, e1, run_underlying hut, hc, hn]
      · obtain ⟨g, hc, _⟩ := hrx.sl_inv
        simp [Builtin.len_, hts, e1, run_underlying hut, hc, hn]
      · obtain ⟨base, cap, hc, _, _⟩ := hrx.emp_lst.lst_slice
        simp [Builtin.len_, hts, e1, run_underlying hut, hc, ← hn]
    · rename_i hut
      have : k = .str := by simpa using ht
      subst this
      cases u <;> simp only [lenOf, reduceCtorEq, Option.some.injEq] at hn
      have hc := hrx.str_inv
      simp [Builtin.len_, hts, e1, run_underlying hut, hc, y21, hn]
    · rename_i kt et hut
      have : k = .map := by simpa using ht
      subst this
      cases u <;> simp only [lenOf, reduceCtorEq, Option.some.injEq] at hn
      · subst hn
        have hc : a.eval x' = .map none := by generalize a.eval x' = cx at hrx; cases hrx; rfl
        simp [Builtin.len_, hts, e1, run_underlying hut, hc]
      · split at hn <;> first | (cases hn; done) | skip
        rename_i es hbm
        simp only [Option.some.injEq] at hn
        obtain ⟨g, hc, hmu⟩ := hrx.map_inv
        obtain ⟨g', ents, clock, h1, h2, h3, h4, h5⟩ := hR.blk _ _ hbm
        rw [h1] at hmu; cases hmu
        have hgo : (getObj g).run P w = .ok (.map ents clock) w := by simp [getObj, Sem.run, h3]
        simp [Builtin.len_, hts, e1, run_underlying hut, hc, hgo, h4, hn]
    · cases ht
  simp only [execOp, resolve, hcal, Sem.run_bind, Sem.run_pure, Result.andThen_ok, invoke, builtin, key]
theorem cap_sound {o : Oper} {C : Ctx} {id : Nat} {x : AOpd} {v : AVal} {H H' : Heap} {w : World} (he : EnvRel Γ e a.tmps) (hR : Rel Γ H w) (hk : chkH P (.cap x) o.op = true)
    (hv : evH C e id H (.cap x) = some (.ok v, H')) : Done P o a w Γ v H' := by
  obtain ⟨dst, op, ty, pos, after, guard⟩ := o
  simp only at hk
  cases op <;> simp only [chkH, Bool.false_eq_true, Bool.and_eq_true] at hk
  rename_i c
  obtain ⟨⟨hb, ha⟩, ht⟩ := hk
  have hcal := y18 hb
  obtain ⟨x', hargs, hko⟩ := args1_eq ha
  split at ht <;> first | (cases ht; done) | skip
  rename_i t hts
  unfold lenTy at ht
  split at ht
  · rename_i el hut
    simp only [evH] at hv
    have e1 : (c.args.map a.eval)[0]? = some (a.eval x') := by
      rw [show c.args = [x'].toArray from by apply Array.ext'; simpa using hargs]; simp
    split at hv
    · rename_i hu
      simp only [Option.some.injEq, Prod.mk.injEq, Ex.ok.injEq] at hv
      obtain ⟨rfl, rfl⟩ := hv
      obtain ⟨g, hc, _⟩ := (ev_rep he hko hu).sl_inv
      refine Done.same hR (c := goInt _) ?_ (.int _ _)
      simp [execOp, resolve, hcal, invoke, builtin, Builtin.cap_, hts, e1, run_underlying hut, hc]
    · rename_i xs hu
      simp only [Option.some.injEq, Prod.mk.injEq, Ex.ok.injEq] at hv
      obtain ⟨rfl, rfl⟩ := hv
      obtain ⟨base, cap, hc, _, hcl⟩ := (ev_rep he hko hu).lst_slice
      refine Done.same hR (c := goInt _) ?_ (.int _ _)
      have := hcl rfl
      simp [execOp, resolve, hcal, invoke, builtin, Builtin.cap_, hts, e1, run_underlying hut, hc, this]
    · cases hv
  all_goals first | (simp at ht; done) | (cases ht; done)
end
end Go.Ev
