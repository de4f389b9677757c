/- The functions, as the abstract machine runs them. Printed by wip/tools/irgen.py. -/
import Derived.Test.YtiefbkjoldcebaaDoorXxAbs
namespace Go.Abs
/-- sortilege/sortilegelaw15.NnfOdd -/
def ir6 : IFunc where
  params := 3
  results := [.t 6]
  trunc := false
  body := (.seq (.region [
    ⟨some 6, none, .p .mov [.c (.bool false)]⟩])
  (.seq (.seq (.region [
    ⟨some 19, none, .call 0 []⟩,
    ⟨some 20, none, .p (.un .not) [.t 19]⟩])
  (.cond (.t 20)
    (.seq (.region [
      ⟨some 6, none, .p .mov [.c (.bool false)]⟩])
    .ret)
    .skip))
  (.seq (.seq (.region [
    ⟨some 21, none, .p .mov [.t 2]⟩,
    ⟨some 22, none, .p .lenL [.t 21]⟩,
    ⟨some 23, none, .p (.bin .gtr) [.t 22, .c (.int .i64 4)]⟩])
  (.cond (.t 23)
    (.seq (.region [
      ⟨some 6, none, .p .mov [.c (.bool true)]⟩])
    .ret)
    .skip))
  (.seq (.region [
    ⟨some 24, none, .p .mov [.t 0]⟩,
    ⟨some 25, none, .p .mov [.t 1]⟩,
    ⟨some 26, none, .p (.build [.str [], .str [], .list true 4 [], .int .i64 0] [(0, 1, false), (1, 1, false)]) [.t 24, .t 25]⟩,
    ⟨some 7, none, .lnew 7 4 true (.c (.agg [.str [], .str [], .list true 4 [], .int .i64 0])) [2]⟩,
    ⟨none, none, .lstore 7 4 true (.t 26) [2]⟩])
  (.seq (.region [
    ⟨some 8, none, .p .mov [.c (.bool true)]⟩])
  (.seq (.seq (.region [
    ⟨some 9, none, .p .mov [.c (.int .i64 0)]⟩])
  (.block 0 (.loop ⟨[0, 2, 8, 9], [(7, 4, true)], [(7, 7)], [.l 7 2]⟩ (.seq (.seq (.region [
    ⟨some 27, none, .p .mov [.t 9]⟩,
    ⟨some 28, none, .p .mov [.t 2]⟩,
    ⟨some 29, none, .p .lenL [.t 28]⟩,
    ⟨some 30, none, .p (.bin .lss) [.t 27, .t 29]⟩])
  (.cond (.t 30)
    .skip
    (.exit 0)))
  (.join ⟨[0, 2, 8, 9], [(7, 4, true)], [(7, 7)], [.l 7 2]⟩ (.block 1 (.seq (.seq (.region [
    ⟨some 33, none, .p .mov [.t 2]⟩,
    ⟨some 34, none, .p .mov [.t 9]⟩,
    ⟨some 35, none, .p (.idxAddr 1) [.t 33, .t 34]⟩,
    ⟨some 36, none, .p (.ld 1 false) [.t 35]⟩,
    ⟨some 37, none, .p .lenS [.t 36]⟩,
    ⟨some 38, none, .p (.bin .gtr) [.t 37, .c (.int .i64 100)]⟩])
  (.cond (.t 38)
    (.seq (.region [
      ⟨some 6, none, .p .mov [.c (.bool true)]⟩])
    .ret)
    .skip))
  (.seq (.region [
    ⟨some 40, none, .p .mov [.t 2]⟩,
    ⟨some 41, none, .p .mov [.t 9]⟩,
    ⟨some 42, none, .p (.idxAddr 1) [.t 40, .t 41]⟩,
    ⟨some 43, none, .p (.ld 1 false) [.t 42]⟩,
    ⟨some 44, none, .call 1 [.t 43, .c (.int .i64 64)]⟩,
    ⟨some 39, none, .p .mov [.t 44]⟩,
    ⟨some 45, none, .p (.extract 0) [.t 39]⟩,
    ⟨some 46, none, .p (.extract 1) [.t 39]⟩,
    ⟨some 10, none, .lnew 10 4 true (.c (.agg [.str [], .str [], .list true 4 [], .int .i64 0])) []⟩,
    ⟨none, none, .lstore 10 4 true (.t 45) []⟩,
    ⟨some 11, none, .p .mov [.t 46]⟩])
  (.seq (.region [
    ⟨some 47, none, .p .mov [.t 11]⟩,
    ⟨some 48, none, .p (.eq false .i) [.t 47, .c (.nili)]⟩])
  (.cond (.t 48)
    (.seq (.region [
      ⟨some 49, none, .laddr 7 2⟩,
      ⟨some 50, none, .take 49⟩,
      ⟨some 51, none, .lload 10 4 true⟩,
      ⟨some 52, none, .p (.mkList 4 true) [.t 51]⟩,
      ⟨some 53, none, .app 4 64 50 (.t 52)⟩,
      ⟨some 54, none, .laddr 7 2⟩,
      ⟨none, none, .give 54 53⟩])
    (.region [
      ⟨some 55, none, .p .mov [.t 8]⟩,
      ⟨some 56, none, .p .mov [.t 55]⟩,
      ⟨some 57, some (56, true), .lload 10 4 true⟩,
      ⟨some 58, some (56, true), .call 2 [.t 57]⟩,
      ⟨some 59, none, .p .pick [.t 56, .t 58, .c (.bool false)]⟩,
      ⟨some 8, none, .p .mov [.t 59]⟩]))
    .skip)))))
  (.region [
    ⟨some 31, none, .p .mov [.t 9]⟩,
    ⟨some 32, none, .p (.bin .add) [.t 31, .c (.int .i64 1)]⟩,
    ⟨some 9, none, .p .mov [.t 32]⟩]))))))
  (.seq (.region [
    ⟨some 60, none, .laddr 7 2⟩,
    ⟨some 61, none, .lload 60 1 false⟩,
    ⟨some 62, none, .p .lenL [.t 61]⟩,
    ⟨some 12, none, .p .mov [.t 62]⟩])
  (.seq (.region [
    ⟨some 63, none, .p .mov [.t 12]⟩,
    ⟨some 64, none, .p (.bin .eql) [.t 63, .c (.int .i64 0)]⟩,
    ⟨some 65, none, .p .mov [.t 64]⟩,
    ⟨some 66, some (65, true), .p .mov [.t 0]⟩,
    ⟨some 67, some (65, true), .p (.bin .eql) [.t 66, .c (.str [116, 114, 117, 101])]⟩,
    ⟨some 68, some (65, true), .p .mov [.t 67]⟩,
    ⟨some 69, some (68, false), .p .mov [.t 0]⟩,
    ⟨some 70, some (68, false), .p (.bin .eql) [.t 69, .c (.str [102, 97, 108, 115, 101])]⟩,
    ⟨some 71, some (65, true), .p .pick [.t 68, .c (.bool true), .t 70]⟩,
    ⟨some 72, some (65, true), .p .mov [.t 71]⟩,
    ⟨some 73, some (72, false), .p .mov [.t 0]⟩,
    ⟨some 74, some (72, false), .p (.bin .eql) [.t 73, .c (.str [108, 97, 98, 101, 108])]⟩,
    ⟨some 75, some (65, true), .p .pick [.t 72, .c (.bool true), .t 74]⟩,
    ⟨some 76, none, .p .pick [.t 65, .t 75, .c (.bool false)]⟩,
    ⟨some 77, none, .p .mov [.t 76]⟩,
    ⟨some 78, some (77, false), .p .mov [.t 12]⟩,
    ⟨some 79, some (77, false), .p (.bin .eql) [.t 78, .c (.int .i64 1)]⟩,
    ⟨some 80, some (77, false), .p .mov [.t 79]⟩,
    ⟨some 81, some (80, true), .p .mov [.t 0]⟩,
    ⟨some 82, some (80, true), .p (.bin .eql) [.t 81, .c (.str [33])]⟩,
    ⟨some 83, some (80, true), .p .mov [.t 82]⟩,
    ⟨some 84, some (83, false), .p .mov [.t 0]⟩,
    ⟨some 85, some (83, false), .p (.bin .eql) [.t 84, .c (.str [88])]⟩,
    ⟨some 86, some (80, true), .p .pick [.t 83, .c (.bool true), .t 85]⟩,
    ⟨some 87, some (80, true), .p .mov [.t 86]⟩,
    ⟨some 88, some (87, false), .p .mov [.t 0]⟩,
    ⟨some 89, some (87, false), .p (.bin .eql) [.t 88, .c (.str [70])]⟩,
    ⟨some 90, some (80, true), .p .pick [.t 87, .c (.bool true), .t 89]⟩,
    ⟨some 91, some (80, true), .p .mov [.t 90]⟩,
    ⟨some 92, some (91, false), .p .mov [.t 0]⟩,
    ⟨some 93, some (91, false), .p (.bin .eql) [.t 92, .c (.str [71])]⟩,
    ⟨some 94, some (80, true), .p .pick [.t 91, .c (.bool true), .t 93]⟩,
    ⟨some 95, some (77, false), .p .pick [.t 80, .t 94, .c (.bool false)]⟩,
    ⟨some 96, none, .p .pick [.t 77, .c (.bool true), .t 95]⟩,
    ⟨some 97, none, .p .mov [.t 96]⟩,
    ⟨some 98, some (97, false), .p .mov [.t 12]⟩,
    ⟨some 99, some (97, false), .p (.bin .eql) [.t 98, .c (.int .i64 2)]⟩,
    ⟨some 100, some (97, false), .p .mov [.t 99]⟩,
    ⟨some 101, some (100, true), .p .mov [.t 0]⟩,
    ⟨some 102, some (100, true), .p (.bin .eql) [.t 101, .c (.str [38])]⟩,
    ⟨some 103, some (100, true), .p .mov [.t 102]⟩,
    ⟨some 104, some (103, false), .p .mov [.t 0]⟩,
    ⟨some 105, some (103, false), .p (.bin .eql) [.t 104, .c (.str [124])]⟩,
    ⟨some 106, some (100, true), .p .pick [.t 103, .c (.bool true), .t 105]⟩,
    ⟨some 107, some (100, true), .p .mov [.t 106]⟩,
    ⟨some 108, some (107, false), .p .mov [.t 0]⟩,
    ⟨some 109, some (107, false), .p (.bin .eql) [.t 108, .c (.str [61, 62])]⟩,
    ⟨some 110, some (100, true), .p .pick [.t 107, .c (.bool true), .t 109]⟩,
    ⟨some 111, some (100, true), .p .mov [.t 110]⟩,
    ⟨some 112, some (111, false), .p .mov [.t 0]⟩,
    ⟨some 113, some (111, false), .p (.bin .eql) [.t 112, .c (.str [85])]⟩,
    ⟨some 114, some (100, true), .p .pick [.t 111, .c (.bool true), .t 113]⟩,
    ⟨some 115, some (100, true), .p .mov [.t 114]⟩,
    ⟨some 116, some (115, false), .p .mov [.t 0]⟩,
    ⟨some 117, some (115, false), .p (.bin .eql) [.t 116, .c (.str [87])]⟩,
    ⟨some 118, some (100, true), .p .pick [.t 115, .c (.bool true), .t 117]⟩,
    ⟨some 119, some (100, true), .p .mov [.t 118]⟩,
    ⟨some 120, some (119, false), .p .mov [.t 0]⟩,
    ⟨some 121, some (119, false), .p (.bin .eql) [.t 120, .c (.str [82])]⟩,
    ⟨some 122, some (100, true), .p .pick [.t 119, .c (.bool true), .t 121]⟩,
    ⟨some 123, some (97, false), .p .pick [.t 100, .t 122, .c (.bool false)]⟩,
    ⟨some 124, none, .p .pick [.t 97, .c (.bool true), .t 123]⟩,
    ⟨some 13, none, .p .mov [.t 124]⟩])
  (.seq (.region [
    ⟨some 126, none, .lload 7 4 true⟩,
    ⟨some 127, none, .call 3 [.t 126, .c (.bool false)]⟩,
    ⟨some 125, none, .p .mov [.t 127]⟩,
    ⟨some 128, none, .p (.extract 0) [.t 125]⟩,
    ⟨some 129, none, .p (.extract 1) [.t 125]⟩,
    ⟨some 14, none, .lnew 14 4 true (.c (.agg [.str [], .str [], .list true 4 [], .int .i64 0])) []⟩,
    ⟨none, none, .lstore 14 4 true (.t 128) []⟩,
    ⟨some 15, none, .p .mov [.t 129]⟩])
  (.seq (.seq (.region [
    ⟨some 130, none, .p .mov [.t 13]⟩,
    ⟨some 131, none, .p .mov [.t 15]⟩,
    ⟨some 132, none, .p (.eq false .i) [.t 131, .c (.nili)]⟩,
    ⟨some 133, none, .p (.eq true .b) [.t 130, .t 132]⟩,
    ⟨some 134, none, .p .mov [.t 133]⟩,
    ⟨some 135, some (134, true), .p .mov [.t 15]⟩,
    ⟨some 136, some (134, true), .call 4 [.t 135]⟩,
    ⟨some 137, some (134, true), .p (.bin .neq) [.t 136, .c (.int .i64 2)]⟩,
    ⟨some 138, none, .p .pick [.t 134, .t 137, .c (.bool false)]⟩,
    ⟨some 139, none, .p .mov [.t 138]⟩,
    ⟨some 140, some (139, false), .p .mov [.t 15]⟩,
    ⟨some 141, some (139, false), .p (.eq true .i) [.t 140, .c (.nili)]⟩,
    ⟨some 142, some (139, false), .p .mov [.t 141]⟩,
    ⟨some 143, some (142, true), .p .mov [.t 15]⟩,
    ⟨some 144, some (142, true), .call 4 [.t 143]⟩,
    ⟨some 145, some (142, true), .p (.bin .neq) [.t 144, .c (.int .i64 1)]⟩,
    ⟨some 146, some (139, false), .p .pick [.t 142, .t 145, .c (.bool false)]⟩,
    ⟨some 147, some (139, false), .p .mov [.t 146]⟩,
    ⟨some 148, some (147, true), .p .mov [.t 15]⟩,
    ⟨some 149, some (147, true), .call 4 [.t 148]⟩,
    ⟨some 150, some (147, true), .p (.bin .neq) [.t 149, .c (.int .i64 2)]⟩,
    ⟨some 151, some (139, false), .p .pick [.t 147, .t 150, .c (.bool false)]⟩,
    ⟨some 152, none, .p .pick [.t 139, .c (.bool true), .t 151]⟩])
  (.cond (.t 152)
    (.seq (.region [
      ⟨some 6, none, .p .mov [.c (.bool false)]⟩])
    .ret)
    .skip))
  (.seq (.region [
    ⟨some 153, none, .p .mov [.t 13]⟩,
    ⟨some 154, none, .p .mov [.t 153]⟩,
    ⟨some 155, some (154, true), .p .mov [.t 8]⟩,
    ⟨some 156, none, .p .pick [.t 154, .t 155, .c (.bool false)]⟩,
    ⟨some 157, none, .p .mov [.t 156]⟩,
    ⟨some 158, some (157, true), .p .mov [.t 0]⟩,
    ⟨some 159, some (157, true), .p (.bin .neq) [.t 158, .c (.str [61, 62])]⟩,
    ⟨some 160, none, .p .pick [.t 157, .t 159, .c (.bool false)]⟩,
    ⟨some 161, none, .p .mov [.t 160]⟩,
    ⟨some 162, some (161, true), .p .mov [.t 0]⟩,
    ⟨some 163, some (161, true), .p (.bin .neq) [.t 162, .c (.str [87])]⟩,
    ⟨some 164, none, .p .pick [.t 161, .t 163, .c (.bool false)]⟩,
    ⟨some 165, none, .p .mov [.t 164]⟩,
    ⟨some 166, some (165, true), .p .mov [.t 0]⟩,
    ⟨some 167, some (165, true), .p (.bin .neq) [.t 166, .c (.str [70])]⟩,
    ⟨some 168, none, .p .pick [.t 165, .t 167, .c (.bool false)]⟩,
    ⟨some 169, none, .p .mov [.t 168]⟩,
    ⟨some 170, some (169, true), .p .mov [.t 0]⟩,
    ⟨some 171, some (169, true), .p (.bin .neq) [.t 170, .c (.str [71])]⟩,
    ⟨some 172, none, .p .pick [.t 169, .t 171, .c (.bool false)]⟩,
    ⟨some 173, none, .p .mov [.t 172]⟩,
    ⟨some 174, some (173, true), .p .mov [.t 0]⟩,
    ⟨some 175, some (173, true), .p (.bin .neq) [.t 174, .c (.str [33])]⟩,
    ⟨some 176, some (173, true), .p .mov [.t 175]⟩,
    ⟨some 177, some (176, false), .laddr 7 2⟩,
    ⟨some 178, some (176, false), .lload 177 1 false⟩,
    ⟨some 179, some (176, false), .p (.idxAddr 4) [.t 178, .c (.int .i64 0)]⟩,
    ⟨some 180, some (176, false), .p (.fieldAddr 0) [.t 179]⟩,
    ⟨some 181, some (176, false), .p (.ld 1 false) [.t 180]⟩,
    ⟨some 182, some (176, false), .p (.bin .eql) [.t 181, .c (.str [108, 97, 98, 101, 108])]⟩,
    ⟨some 183, some (173, true), .p .pick [.t 176, .c (.bool true), .t 182]⟩,
    ⟨some 184, none, .p .pick [.t 173, .t 183, .c (.bool false)]⟩,
    ⟨some 16, none, .p .mov [.t 184]⟩])
  (.seq (.region [
    ⟨some 186, none, .lload 7 4 true⟩,
    ⟨some 187, none, .call 5 [.t 186]⟩,
    ⟨some 185, none, .p .mov [.t 187]⟩,
    ⟨some 188, none, .p (.extract 0) [.t 185]⟩,
    ⟨some 189, none, .p (.extract 1) [.t 185]⟩,
    ⟨some 17, none, .lnew 17 4 true (.c (.agg [.str [], .str [], .list true 4 [], .int .i64 0])) []⟩,
    ⟨none, none, .lstore 17 4 true (.t 188) []⟩,
    ⟨some 18, none, .p .mov [.t 189]⟩])
  (.seq (.region [
    ⟨some 190, none, .lload 7 4 true⟩,
    ⟨some 191, none, .call 2 [.t 190]⟩,
    ⟨some 192, none, .p .mov [.t 16]⟩,
    ⟨some 193, none, .p (.eq false .b) [.t 191, .t 192]⟩,
    ⟨some 194, none, .p .mov [.t 193]⟩,
    ⟨some 195, some (194, true), .p .mov [.t 18]⟩,
    ⟨some 196, some (194, true), .p (.eq false .i) [.t 195, .c (.nili)]⟩,
    ⟨some 197, some (194, true), .p .mov [.t 16]⟩,
    ⟨some 198, some (194, true), .p (.eq false .b) [.t 196, .t 197]⟩,
    ⟨some 199, none, .p .pick [.t 194, .t 198, .c (.bool false)]⟩,
    ⟨some 6, none, .p .mov [.t 199]⟩])
  .ret)))))))))))))

/-- sortilege/sortilegelaw15.NnfTwice -/
def ir8 : IFunc where
  params := 1
  results := [.t 2]
  trunc := false
  body := (.seq (.region [
    ⟨some 2, none, .p .mov [.c (.bool false)]⟩])
  (.seq (.seq (.region [
    ⟨some 17, none, .call 0 []⟩,
    ⟨some 18, none, .p (.un .not) [.t 17]⟩])
  (.cond (.t 18)
    (.seq (.region [
      ⟨some 2, none, .p .mov [.c (.bool false)]⟩])
    .ret)
    .skip))
  (.seq (.seq (.region [
    ⟨some 19, none, .p .mov [.t 0]⟩,
    ⟨some 20, none, .p .lenS [.t 19]⟩,
    ⟨some 21, none, .p (.bin .gtr) [.t 20, .c (.int .i64 200)]⟩])
  (.cond (.t 21)
    (.seq (.region [
      ⟨some 2, none, .p .mov [.c (.bool true)]⟩])
    .ret)
    .skip))
  (.seq (.region [
    ⟨some 23, none, .p .mov [.t 0]⟩,
    ⟨some 24, none, .call 1 [.t 23, .c (.int .i64 64)]⟩,
    ⟨some 22, none, .p .mov [.t 24]⟩,
    ⟨some 25, none, .p (.extract 0) [.t 22]⟩,
    ⟨some 26, none, .p (.extract 1) [.t 22]⟩,
    ⟨some 3, none, .lnew 3 4 true (.c (.agg [.str [], .str [], .list true 4 [], .int .i64 0])) []⟩,
    ⟨none, none, .lstore 3 4 true (.t 25) []⟩,
    ⟨some 4, none, .p .mov [.t 26]⟩])
  (.seq (.seq (.region [
    ⟨some 27, none, .p .mov [.t 4]⟩,
    ⟨some 28, none, .p (.eq true .i) [.t 27, .c (.nili)]⟩])
  (.cond (.t 28)
    (.seq (.region [
      ⟨some 2, none, .p .mov [.c (.bool true)]⟩])
    .ret)
    .skip))
  (.seq (.region [
    ⟨some 30, none, .lload 3 4 true⟩,
    ⟨some 31, none, .call 3 [.t 30, .c (.bool false)]⟩,
    ⟨some 29, none, .p .mov [.t 31]⟩,
    ⟨some 32, none, .p (.extract 0) [.t 29]⟩,
    ⟨some 33, none, .p (.extract 1) [.t 29]⟩,
    ⟨some 5, none, .lnew 5 4 true (.c (.agg [.str [], .str [], .list true 4 [], .int .i64 0])) []⟩,
    ⟨none, none, .lstore 5 4 true (.t 32) []⟩,
    ⟨some 6, none, .p .mov [.t 33]⟩])
  (.seq (.seq (.region [
    ⟨some 34, none, .p .mov [.t 6]⟩,
    ⟨some 35, none, .p (.eq true .i) [.t 34, .c (.nili)]⟩])
  (.cond (.t 35)
    (.seq (.region [
      ⟨some 36, none, .p .mov [.t 6]⟩,
      ⟨some 37, none, .call 4 [.t 36]⟩,
      ⟨some 38, none, .p (.bin .eql) [.t 37, .c (.int .i64 2)]⟩,
      ⟨some 2, none, .p .mov [.t 38]⟩])
    .ret)
    .skip))
  (.seq (.region [
    ⟨some 40, none, .lload 5 4 true⟩,
    ⟨some 41, none, .call 3 [.t 40, .c (.bool false)]⟩,
    ⟨some 39, none, .p .mov [.t 41]⟩,
    ⟨some 42, none, .p (.extract 0) [.t 39]⟩,
    ⟨some 43, none, .p (.extract 1) [.t 39]⟩,
    ⟨some 7, none, .lnew 7 4 true (.c (.agg [.str [], .str [], .list true 4 [], .int .i64 0])) []⟩,
    ⟨none, none, .lstore 7 4 true (.t 42) []⟩,
    ⟨some 8, none, .p .mov [.t 43]⟩])
  (.seq (.region [
    ⟨some 45, none, .lload 5 4 true⟩,
    ⟨some 46, none, .call 3 [.t 45, .c (.bool true)]⟩,
    ⟨some 44, none, .p .mov [.t 46]⟩,
    ⟨some 47, none, .p (.extract 0) [.t 44]⟩,
    ⟨some 48, none, .p (.extract 1) [.t 44]⟩,
    ⟨some 9, none, .lnew 9 4 true (.c (.agg [.str [], .str [], .list true 4 [], .int .i64 0])) []⟩,
    ⟨none, none, .lstore 9 4 true (.t 47) []⟩,
    ⟨some 10, none, .p .mov [.t 48]⟩])
  (.seq (.seq (.region [
    ⟨some 49, none, .p .mov [.t 8]⟩,
    ⟨some 50, none, .p (.eq true .i) [.t 49, .c (.nili)]⟩,
    ⟨some 51, none, .p .mov [.t 50]⟩,
    ⟨some 52, some (51, false), .lload 5 4 true⟩,
    ⟨some 53, some (51, false), .lload 7 4 true⟩,
    ⟨some 54, some (51, false), .call 7 [.t 52, .t 53]⟩,
    ⟨some 55, some (51, false), .p (.un .not) [.t 54]⟩,
    ⟨some 56, none, .p .pick [.t 51, .c (.bool true), .t 55]⟩])
  (.cond (.t 56)
    (.seq (.region [
      ⟨some 2, none, .p .mov [.c (.bool false)]⟩])
    .ret)
    .skip))
  (.seq (.region [
    ⟨some 58, none, .lload 5 4 true⟩,
    ⟨some 59, none, .call 5 [.t 58]⟩,
    ⟨some 57, none, .p .mov [.t 59]⟩,
    ⟨some 60, none, .p (.extract 0) [.t 57]⟩,
    ⟨some 61, none, .p (.extract 1) [.t 57]⟩,
    ⟨some 11, none, .lnew 11 4 true (.c (.agg [.str [], .str [], .list true 4 [], .int .i64 0])) []⟩,
    ⟨none, none, .lstore 11 4 true (.t 60) []⟩,
    ⟨some 12, none, .p .mov [.t 61]⟩])
  (.seq (.region [
    ⟨some 63, none, .lload 11 4 true⟩,
    ⟨some 64, none, .call 5 [.t 63]⟩,
    ⟨some 62, none, .p .mov [.t 64]⟩,
    ⟨some 65, none, .p (.extract 0) [.t 62]⟩,
    ⟨some 66, none, .p (.extract 1) [.t 62]⟩,
    ⟨some 13, none, .lnew 13 4 true (.c (.agg [.str [], .str [], .list true 4 [], .int .i64 0])) []⟩,
    ⟨none, none, .lstore 13 4 true (.t 65) []⟩,
    ⟨some 14, none, .p .mov [.t 66]⟩])
  (.seq (.seq (.region [
    ⟨some 67, none, .p .mov [.t 12]⟩,
    ⟨some 68, none, .p (.eq true .i) [.t 67, .c (.nili)]⟩,
    ⟨some 69, none, .p .mov [.t 68]⟩,
    ⟨some 70, some (69, false), .p .mov [.t 14]⟩,
    ⟨some 71, some (69, false), .p (.eq true .i) [.t 70, .c (.nili)]⟩,
    ⟨some 72, none, .p .pick [.t 69, .c (.bool true), .t 71]⟩,
    ⟨some 73, none, .p .mov [.t 72]⟩,
    ⟨some 74, some (73, false), .lload 11 4 true⟩,
    ⟨some 75, some (73, false), .lload 13 4 true⟩,
    ⟨some 76, some (73, false), .call 7 [.t 74, .t 75]⟩,
    ⟨some 77, some (73, false), .p (.un .not) [.t 76]⟩,
    ⟨some 78, none, .p .pick [.t 73, .c (.bool true), .t 77]⟩])
  (.cond (.t 78)
    (.seq (.region [
      ⟨some 2, none, .p .mov [.c (.bool false)]⟩])
    .ret)
    .skip))
  (.seq (.seq (.region [
    ⟨some 79, none, .p .mov [.t 10]⟩,
    ⟨some 80, none, .p (.eq true .i) [.t 79, .c (.nili)]⟩])
  (.cond (.t 80)
    (.seq (.region [
      ⟨some 81, none, .p .mov [.t 10]⟩,
      ⟨some 82, none, .call 4 [.t 81]⟩,
      ⟨some 83, none, .p (.bin .eql) [.t 82, .c (.int .i64 2)]⟩,
      ⟨some 2, none, .p .mov [.t 83]⟩])
    .ret)
    .skip))
  (.seq (.region [
    ⟨some 85, none, .lload 9 4 true⟩,
    ⟨some 86, none, .call 3 [.t 85, .c (.bool true)]⟩,
    ⟨some 84, none, .p .mov [.t 86]⟩,
    ⟨some 87, none, .p (.extract 0) [.t 84]⟩,
    ⟨some 88, none, .p (.extract 1) [.t 84]⟩,
    ⟨some 15, none, .lnew 15 4 true (.c (.agg [.str [], .str [], .list true 4 [], .int .i64 0])) []⟩,
    ⟨none, none, .lstore 15 4 true (.t 87) []⟩,
    ⟨some 16, none, .p .mov [.t 88]⟩])
  (.seq (.region [
    ⟨some 89, none, .p .mov [.t 16]⟩,
    ⟨some 90, none, .p (.eq false .i) [.t 89, .c (.nili)]⟩,
    ⟨some 91, none, .p .mov [.t 90]⟩,
    ⟨some 92, some (91, true), .lload 15 4 true⟩,
    ⟨some 93, some (91, true), .lload 5 4 true⟩,
    ⟨some 94, some (91, true), .call 7 [.t 92, .t 93]⟩,
    ⟨some 95, none, .p .pick [.t 91, .t 94, .c (.bool false)]⟩,
    ⟨some 2, none, .p .mov [.t 95]⟩])
  .ret))))))))))))))))

/-- sortilege/sortilegelaw15.alive -/
def ir0 : IFunc where
  params := 0
  results := [.t 0]
  trunc := false
  body := (.seq (.region [
    ⟨some 0, none, .p .mov [.c (.bool false)]⟩])
  (.seq (.region [
    ⟨some 8, none, .call 1 [.c (.str [71, 32, 40, 34, 97, 34, 32, 61, 62, 32, 70, 32, 34, 98, 34, 41]), .c (.int .i64 9)]⟩,
    ⟨some 7, none, .p .mov [.t 8]⟩,
    ⟨some 9, none, .p (.extract 0) [.t 7]⟩,
    ⟨some 10, none, .p (.extract 1) [.t 7]⟩,
    ⟨some 1, none, .lnew 1 4 true (.c (.agg [.str [], .str [], .list true 4 [], .int .i64 0])) []⟩,
    ⟨none, none, .lstore 1 4 true (.t 9) []⟩,
    ⟨some 2, none, .p .mov [.t 10]⟩])
  (.seq (.region [
    ⟨some 12, none, .lload 1 4 true⟩,
    ⟨some 13, none, .call 3 [.t 12, .c (.bool false)]⟩,
    ⟨some 11, none, .p .mov [.t 13]⟩,
    ⟨some 14, none, .p (.extract 0) [.t 11]⟩,
    ⟨some 15, none, .p (.extract 1) [.t 11]⟩,
    ⟨some 3, none, .lnew 3 4 true (.c (.agg [.str [], .str [], .list true 4 [], .int .i64 0])) []⟩,
    ⟨none, none, .lstore 3 4 true (.t 14) []⟩,
    ⟨some 4, none, .p .mov [.t 15]⟩])
  (.seq (.region [
    ⟨some 17, none, .p (.build [.str [], .str [], .list true 4 [], .int .i64 0] []) []⟩,
    ⟨some 18, none, .call 3 [.t 17, .c (.bool false)]⟩,
    ⟨some 16, none, .p .mov [.t 18]⟩,
    ⟨some 19, none, .p (.extract 0) [.t 16]⟩,
    ⟨some 20, none, .p (.extract 1) [.t 16]⟩,
    ⟨some 5, none, .lnew 5 4 true (.c (.agg [.str [], .str [], .list true 4 [], .int .i64 0])) []⟩,
    ⟨none, none, .lstore 5 4 true (.t 19) []⟩,
    ⟨some 6, none, .p .mov [.t 20]⟩])
  (.seq (.region [
    ⟨some 21, none, .p .mov [.t 2]⟩,
    ⟨some 22, none, .p (.eq false .i) [.t 21, .c (.nili)]⟩,
    ⟨some 23, none, .p .mov [.t 22]⟩,
    ⟨some 24, some (23, true), .p .mov [.t 4]⟩,
    ⟨some 25, some (23, true), .p (.eq false .i) [.t 24, .c (.nili)]⟩,
    ⟨some 26, none, .p .pick [.t 23, .t 25, .c (.bool false)]⟩,
    ⟨some 27, none, .p .mov [.t 26]⟩,
    ⟨some 28, some (27, true), .lload 3 4 true⟩,
    ⟨some 29, some (27, true), .call 9 [.t 28]⟩,
    ⟨some 30, some (27, true), .p (.bin .eql) [.t 29, .c (.str [102, 97, 108, 115, 101, 32, 82, 32, 40, 33, 34, 97, 34, 32, 124, 32, 116, 114, 117, 101, 32, 85, 32, 34, 98, 34, 41])]⟩,
    ⟨some 31, none, .p .pick [.t 27, .t 30, .c (.bool false)]⟩,
    ⟨some 32, none, .p .mov [.t 31]⟩,
    ⟨some 33, some (32, true), .lload 3 4 true⟩,
    ⟨some 34, some (32, true), .call 2 [.t 33]⟩,
    ⟨some 35, none, .p .pick [.t 32, .t 34, .c (.bool false)]⟩,
    ⟨some 36, none, .p .mov [.t 35]⟩,
    ⟨some 37, some (36, true), .lload 1 4 true⟩,
    ⟨some 38, some (36, true), .call 2 [.t 37]⟩,
    ⟨some 39, some (36, true), .p (.un .not) [.t 38]⟩,
    ⟨some 40, none, .p .pick [.t 36, .t 39, .c (.bool false)]⟩,
    ⟨some 41, none, .p .mov [.t 40]⟩,
    ⟨some 42, some (41, true), .p .mov [.t 6]⟩,
    ⟨some 43, some (41, true), .call 4 [.t 42]⟩,
    ⟨some 44, some (41, true), .p (.bin .eql) [.t 43, .c (.int .i64 1)]⟩,
    ⟨some 45, none, .p .pick [.t 41, .t 44, .c (.bool false)]⟩,
    ⟨some 0, none, .p .mov [.t 45]⟩])
  .ret)))))

/-- sortilege/prop.Parse -/
def ir1 : IFunc where
  params := 2
  results := [.l 4 4 true, .t 5]
  trunc := true
  body := (.seq (.region [
    ⟨some 4, none, .lnew 4 4 true (.c (.agg [.str [], .str [], .list true 4 [], .int .i64 0])) []⟩,
    ⟨some 5, none, .p .mov [.c (.nili)]⟩])
  (.seq (.region [
    ⟨some 10, none, .p .mov [.t 0]⟩,
    ⟨some 11, none, .p .mov [.t 1]⟩,
    ⟨some 12, none, .call 10 [.t 10, .t 11]⟩,
    ⟨some 9, none, .p .mov [.t 12]⟩,
    ⟨some 13, none, .p (.extract 0) [.t 9]⟩,
    ⟨some 14, none, .p (.extract 1) [.t 9]⟩,
    ⟨some 6, none, .p .mov [.t 13]⟩,
    ⟨some 7, none, .p .mov [.t 14]⟩])
  (.seq (.seq (.region [
    ⟨some 15, none, .p .mov [.t 7]⟩,
    ⟨some 16, none, .p (.eq true .i) [.t 15, .c (.nili)]⟩])
  (.cond (.t 16)
    (.seq (.region [
      ⟨some 17, none, .p (.build [.str [], .str [], .list true 4 [], .int .i64 0] []) []⟩,
      ⟨some 18, none, .p .mov [.t 7]⟩,
      ⟨none, none, .lstore 4 4 true (.t 17) []⟩,
      ⟨some 5, none, .p .mov [.t 18]⟩])
    .ret)
    .skip))
  (.seq (.region [
    ⟨some 20, none, .p .mov [.t 6]⟩,
    ⟨some 21, none, .call 11 [.t 20, .c (.int .i64 1)]⟩,
    ⟨some 19, none, .p .mov [.t 21]⟩,
    ⟨some 22, none, .p (.extract 0) [.t 19]⟩,
    ⟨some 23, none, .p (.extract 1) [.t 19]⟩,
    ⟨some 8, none, .lnew 8 4 true (.c (.agg [.str [], .str [], .list true 4 [], .int .i64 0])) []⟩,
    ⟨none, none, .lstore 8 4 true (.t 22) []⟩,
    ⟨some 7, none, .p .mov [.t 23]⟩])
  (.seq (.seq (.region [
    ⟨some 24, none, .p .mov [.t 7]⟩,
    ⟨some 25, none, .p (.eq true .i) [.t 24, .c (.nili)]⟩])
  (.cond (.t 25)
    (.seq (.region [
      ⟨some 26, none, .p (.build [.str [], .str [], .list true 4 [], .int .i64 0] []) []⟩,
      ⟨some 27, none, .p .mov [.t 7]⟩,
      ⟨none, none, .lstore 4 4 true (.t 26) []⟩,
      ⟨some 5, none, .p .mov [.t 27]⟩])
    .ret)
    .skip))
  (.seq (.seq (.region [
    ⟨some 28, none, .p .mov [.t 6]⟩,
    ⟨some 29, none, .p .nilchk [.t 28]⟩,
    ⟨some 30, none, .p (.fieldAddr 0) [.t 29]⟩,
    ⟨some 31, none, .hload 1 false (.t 30)⟩,
    ⟨some 32, none, .call 12 [.t 31]⟩,
    ⟨some 33, none, .p (.field 0 1 false) [.t 32]⟩,
    ⟨some 34, none, .p (.bin .neq) [.t 33, .c (.int .i64 0)]⟩])
  (.cond (.t 34)
    (.seq (.region [
      ⟨some 35, none, .p (.build [.str [], .str [], .list true 4 [], .int .i64 0] []) []⟩,
      ⟨some 36, none, .p .mov [.t 6]⟩,
      ⟨some 37, none, .p (.iface 0) [.c (.int .i64 20)]⟩,
      ⟨some 38, none, .call 13 [.t 36, .t 37]⟩,
      ⟨none, none, .lstore 4 4 true (.t 35) []⟩,
      ⟨some 5, none, .p .mov [.t 38]⟩])
    .ret)
    .skip))
  (.seq (.region [
    ⟨some 39, none, .lload 8 4 true⟩,
    ⟨none, none, .lstore 4 4 true (.t 39) []⟩,
    ⟨some 5, none, .p .mov [.c (.nili)]⟩])
  .ret)))))))

/-- sortilege/nnf.Is -/
def ir2 : IFunc where
  params := 1
  results := [.t 2]
  trunc := false
  body := (.seq (.region [
    ⟨some 1, none, .p (.boxro 4 true) [.t 0]⟩,
    ⟨some 2, none, .p .mov [.c (.bool false)]⟩])
  (.seq (.seq (.region [
    ⟨some 5, none, .p (.fieldAddr 0) [.t 1]⟩,
    ⟨some 6, none, .p (.ld 1 false) [.t 5]⟩])
  (.block 0 (.join ⟨[1, 6, 7], [], [], []⟩ (.seq (.region [
    ⟨some 8, none, .p (.bin .eql) [.t 6, .c (.str [70])]⟩,
    ⟨some 7, none, .p .mov [.t 8]⟩])
  (.cond (.t 7)
    .skip
    (.seq (.region [
      ⟨some 9, none, .p (.bin .eql) [.t 6, .c (.str [71])]⟩,
      ⟨some 7, none, .p .mov [.t 9]⟩])
    (.cond (.t 7)
      .skip
      (.seq (.region [
        ⟨some 10, none, .p (.bin .eql) [.t 6, .c (.str [87])]⟩,
        ⟨some 7, none, .p .mov [.t 10]⟩])
      (.cond (.t 7)
        .skip
        (.region [
          ⟨some 11, none, .p (.bin .eql) [.t 6, .c (.str [61, 62])]⟩,
          ⟨some 7, none, .p .mov [.t 11]⟩])))))))
  (.cond (.t 7)
    (.seq (.region [
      ⟨some 2, none, .p .mov [.c (.bool false)]⟩])
    .ret)
    (.seq (.region [
      ⟨some 13, none, .p (.bin .eql) [.t 6, .c (.str [33])]⟩,
      ⟨some 12, none, .p .mov [.t 13]⟩])
    (.cond (.t 12)
      (.seq (.region [
        ⟨some 14, none, .p (.fieldAddr 2) [.t 1]⟩,
        ⟨some 15, none, .p (.ld 1 false) [.t 14]⟩,
        ⟨some 16, none, .p .lenL [.t 15]⟩,
        ⟨some 17, none, .p (.bin .eql) [.t 16, .c (.int .i64 1)]⟩,
        ⟨some 18, none, .p .mov [.t 17]⟩,
        ⟨some 19, some (18, true), .p (.fieldAddr 2) [.t 1]⟩,
        ⟨some 20, some (18, true), .p (.ld 1 false) [.t 19]⟩,
        ⟨some 21, some (18, true), .p (.idxAddr 4) [.t 20, .c (.int .i64 0)]⟩,
        ⟨some 22, some (18, true), .p (.fieldAddr 0) [.t 21]⟩,
        ⟨some 23, some (18, true), .p (.ld 1 false) [.t 22]⟩,
        ⟨some 24, some (18, true), .p (.bin .eql) [.t 23, .c (.str [108, 97, 98, 101, 108])]⟩,
        ⟨some 25, none, .p .pick [.t 18, .t 24, .c (.bool false)]⟩,
        ⟨some 26, none, .p .mov [.t 25]⟩,
        ⟨some 27, some (26, true), .p (.fieldAddr 2) [.t 1]⟩,
        ⟨some 28, some (26, true), .p (.ld 1 false) [.t 27]⟩,
        ⟨some 29, some (26, true), .p (.idxAddr 4) [.t 28, .c (.int .i64 0)]⟩,
        ⟨some 30, some (26, true), .p (.fieldAddr 2) [.t 29]⟩,
        ⟨some 31, some (26, true), .p (.ld 1 false) [.t 30]⟩,
        ⟨some 32, some (26, true), .p .lenL [.t 31]⟩,
        ⟨some 33, some (26, true), .p (.bin .eql) [.t 32, .c (.int .i64 0)]⟩,
        ⟨some 34, none, .p .pick [.t 26, .t 33, .c (.bool false)]⟩,
        ⟨some 2, none, .p .mov [.t 34]⟩])
      .ret)
      .skip))))))
  (.seq (.seq (.drawn [
    ⟨some 35, none, .p (.fieldAddr 0) [.t 1]⟩,
    ⟨some 36, none, .p (.ld 1 false) [.t 35]⟩,
    ⟨some 37, none, .call 14 [.t 36]⟩,
    ⟨some 38, none, .p (.fieldAddr 2) [.t 1]⟩,
    ⟨some 39, none, .p (.ld 1 false) [.t 38]⟩,
    ⟨some 40, none, .p .lenL [.t 39]⟩,
    ⟨some 41, none, .p (.bin .neq) [.t 37, .t 40]⟩] [])
  (.cond (.t 41)
    (.seq (.region [
      ⟨some 2, none, .p .mov [.c (.bool false)]⟩])
    .ret)
    .skip))
  (.seq (.seq (.region [
    ⟨some 42, none, .p (.fieldAddr 2) [.t 1]⟩,
    ⟨some 43, none, .p (.ld 1 false) [.t 42]⟩,
    ⟨some 44, none, .p .lenL [.t 43]⟩,
    ⟨some 45, none, .p .mov [.c (.int .i64 0)]⟩])
  (.block 1 (.loop ⟨[43, 44, 45], [], [], []⟩ (.seq (.region [
    ⟨some 46, none, .p (.bin .lss) [.t 45, .t 44]⟩])
  (.seq (.cond (.t 46)
    .skip
    (.exit 1))
  (.seq (.block 2 (.seq (.region [
    ⟨some 47, none, .p (.idxAddr 4) [.t 43, .t 45]⟩,
    ⟨some 48, none, .p (.ld 4 true) [.t 47]⟩,
    ⟨some 4, none, .lnew 4 4 true (.c (.agg [.str [], .str [], .list true 4 [], .int .i64 0])) []⟩,
    ⟨none, none, .lstore 4 4 true (.t 48) []⟩])
  (.seq (.region [
    ⟨some 49, none, .lload 4 4 true⟩,
    ⟨some 50, none, .call 2 [.t 49]⟩,
    ⟨some 51, none, .p (.un .not) [.t 50]⟩])
  (.cond (.t 51)
    (.seq (.region [
      ⟨some 2, none, .p .mov [.c (.bool false)]⟩])
    .ret)
    .skip))))
  (.region [
    ⟨some 52, none, .p (.bin .add) [.t 45, .c (.int .i64 1)]⟩,
    ⟨some 45, none, .p .mov [.t 52]⟩])))))))
  (.seq (.region [
    ⟨some 2, none, .p .mov [.c (.bool true)]⟩])
  .ret)))))

/-- sortilege/nnf.Normal -/
def ir3 : IFunc where
  params := 2
  results := [.l 4 4 true, .t 5]
  trunc := true
  body := (.seq (.region [
    ⟨some 2, none, .p (.boxro 4 true) [.t 0]⟩,
    ⟨some 4, none, .lnew 4 4 true (.c (.agg [.str [], .str [], .list true 4 [], .int .i64 0])) []⟩,
    ⟨some 5, none, .p .mov [.c (.nili)]⟩])
  (.seq (.block 0 (.seq (.region [
    ⟨some 9, none, .p (.ld 4 true) [.t 2]⟩,
    ⟨some 10, none, .call 15 [.t 9]⟩,
    ⟨some 11, none, .p (.un .not) [.t 10]⟩,
    ⟨some 8, none, .p .mov [.t 11]⟩])
  (.cond (.t 8)
    (.seq (.region [
      ⟨some 12, none, .p (.build [.str [], .str [], .list true 4 [], .int .i64 0] []) []⟩,
      ⟨some 13, none, .p (.iface 0) [.c (.int .i64 1)]⟩,
      ⟨none, none, .lstore 4 4 true (.t 12) []⟩,
      ⟨some 5, none, .p .mov [.t 13]⟩])
    .ret)
    (.seq (.region [
      ⟨some 15, none, .p (.ld 4 true) [.t 2]⟩,
      ⟨some 16, none, .call 16 [.t 15]⟩,
      ⟨some 17, none, .p (.bin .gtr) [.t 16, .c (.int .i64 4096)]⟩,
      ⟨some 14, none, .p .mov [.t 17]⟩])
    (.cond (.t 14)
      (.seq (.region [
        ⟨some 18, none, .p (.build [.str [], .str [], .list true 4 [], .int .i64 0] []) []⟩,
        ⟨some 19, none, .p (.iface 0) [.c (.int .i64 2)]⟩,
        ⟨none, none, .lstore 4 4 true (.t 18) []⟩,
        ⟨some 5, none, .p .mov [.t 19]⟩])
      .ret)
      .skip)))))
  (.seq (.region [
    ⟨some 20, none, .p (.build [.int .i64 0] [(0, 1, false)]) [.c (.int .i64 4096)]⟩,
    ⟨some 21, none, .hnew 1 true (.t 20) []⟩,
    ⟨some 6, none, .p .mov [.t 21]⟩])
  (.seq (.region [
    ⟨some 22, none, .p .mov [.t 6]⟩,
    ⟨some 23, none, .p (.ld 4 true) [.t 2]⟩,
    ⟨some 24, none, .p .mov [.t 1]⟩,
    ⟨some 25, none, .call 17 [.t 22, .t 23, .t 24]⟩,
    ⟨some 7, none, .lnew 7 4 true (.c (.agg [.str [], .str [], .list true 4 [], .int .i64 0])) []⟩,
    ⟨none, none, .lstore 7 4 true (.t 25) []⟩])
  (.seq (.seq (.region [
    ⟨some 26, none, .p .mov [.t 6]⟩,
    ⟨some 27, none, .p .nilchk [.t 26]⟩,
    ⟨some 28, none, .p (.fieldAddr 0) [.t 27]⟩,
    ⟨some 29, none, .hload 1 false (.t 28)⟩,
    ⟨some 30, none, .p (.bin .lss) [.t 29, .c (.int .i64 0)]⟩])
  (.cond (.t 30)
    (.seq (.region [
      ⟨some 31, none, .p (.build [.str [], .str [], .list true 4 [], .int .i64 0] []) []⟩,
      ⟨some 32, none, .p (.iface 0) [.c (.int .i64 2)]⟩,
      ⟨none, none, .lstore 4 4 true (.t 31) []⟩,
      ⟨some 5, none, .p .mov [.t 32]⟩])
    .ret)
    .skip))
  (.seq (.region [
    ⟨some 33, none, .lload 7 4 true⟩,
    ⟨none, none, .lstore 4 4 true (.t 33) []⟩,
    ⟨some 5, none, .p .mov [.c (.nili)]⟩])
  .ret))))))

/-- sortilege/sortilegelaw01.Num -/
def ir4 : IFunc where
  params := 1
  results := [.t 2]
  trunc := true
  body := (.seq (.region [
    ⟨some 2, none, .p .mov [.c (.int .i64 0)]⟩])
  (.seq (.seq (.region [
    ⟨some 4, none, .p .mov [.t 0]⟩,
    ⟨some 5, none, .p (.eq false .i) [.t 4, .c (.nili)]⟩])
  (.cond (.t 5)
    (.seq (.region [
      ⟨some 2, none, .p .mov [.c (.int .i64 0)]⟩])
    .ret)
    .skip))
  (.seq (.region [
    ⟨some 3, none, .hnew 1 false (.c (.int .i64 0)) []⟩])
  (.seq (.seq (.region [
    ⟨some 6, none, .p .mov [.t 0]⟩,
    ⟨some 7, none, .p (.iface 1) [.t 3]⟩,
    ⟨some 8, none, .call 18 [.t 6, .t 7]⟩])
  (.cond (.t 8)
    (.seq (.region [
      ⟨some 9, none, .hload 1 false (.t 3)⟩,
      ⟨some 2, none, .p .mov [.t 9]⟩])
    .ret)
    .skip))
  (.seq (.region [
    ⟨some 2, none, .p .mov [.c (.int .i64 (-1))]⟩])
  .ret)))))

/-- sortilege/nnf.Simple -/
def ir5 : IFunc where
  params := 1
  results := [.l 2 4 true, .t 3]
  trunc := false
  body := (.seq (.region [
    ⟨some 1, none, .p (.boxro 4 true) [.t 0]⟩,
    ⟨some 2, none, .lnew 2 4 true (.c (.agg [.str [], .str [], .list true 4 [], .int .i64 0])) []⟩,
    ⟨some 3, none, .p .mov [.c (.nili)]⟩])
  (.seq (.block 0 (.seq (.region [
    ⟨some 5, none, .p (.ld 4 true) [.t 1]⟩,
    ⟨some 6, none, .call 2 [.t 5]⟩,
    ⟨some 7, none, .p (.un .not) [.t 6]⟩,
    ⟨some 4, none, .p .mov [.t 7]⟩])
  (.cond (.t 4)
    (.seq (.region [
      ⟨some 8, none, .p (.build [.str [], .str [], .list true 4 [], .int .i64 0] []) []⟩,
      ⟨some 9, none, .p (.iface 0) [.c (.int .i64 1)]⟩,
      ⟨none, none, .lstore 2 4 true (.t 8) []⟩,
      ⟨some 3, none, .p .mov [.t 9]⟩])
    .ret)
    (.seq (.region [
      ⟨some 11, none, .p (.ld 4 true) [.t 1]⟩,
      ⟨some 12, none, .call 16 [.t 11]⟩,
      ⟨some 13, none, .p (.bin .gtr) [.t 12, .c (.int .i64 4096)]⟩,
      ⟨some 10, none, .p .mov [.t 13]⟩])
    (.cond (.t 10)
      (.seq (.region [
        ⟨some 14, none, .p (.build [.str [], .str [], .list true 4 [], .int .i64 0] []) []⟩,
        ⟨some 15, none, .p (.iface 0) [.c (.int .i64 2)]⟩,
        ⟨none, none, .lstore 2 4 true (.t 14) []⟩,
        ⟨some 3, none, .p .mov [.t 15]⟩])
      .ret)
      .skip)))))
  (.seq (.region [
    ⟨some 16, none, .p (.ld 4 true) [.t 1]⟩,
    ⟨some 17, none, .call 19 [.t 16]⟩,
    ⟨none, none, .lstore 2 4 true (.t 17) []⟩,
    ⟨some 3, none, .p .mov [.c (.nili)]⟩])
  .ret)))

/-- sortilege/prop.Same -/
def ir7 : IFunc where
  params := 2
  results := [.t 4]
  trunc := false
  body := (.seq (.region [
    ⟨some 2, none, .p (.boxro 4 true) [.t 0]⟩,
    ⟨some 3, none, .p (.boxro 4 true) [.t 1]⟩,
    ⟨some 4, none, .p .mov [.c (.bool false)]⟩])
  (.seq (.region [
    ⟨some 5, none, .p (.fieldAddr 0) [.t 2]⟩,
    ⟨some 6, none, .p (.ld 1 false) [.t 5]⟩,
    ⟨some 7, none, .p (.fieldAddr 0) [.t 3]⟩,
    ⟨some 8, none, .p (.ld 1 false) [.t 7]⟩,
    ⟨some 9, none, .p (.bin .eql) [.t 6, .t 8]⟩,
    ⟨some 10, none, .p .mov [.t 9]⟩,
    ⟨some 11, some (10, true), .p (.fieldAddr 1) [.t 2]⟩,
    ⟨some 12, some (10, true), .p (.ld 1 false) [.t 11]⟩,
    ⟨some 13, some (10, true), .p (.fieldAddr 1) [.t 3]⟩,
    ⟨some 14, some (10, true), .p (.ld 1 false) [.t 13]⟩,
    ⟨some 15, some (10, true), .p (.bin .eql) [.t 12, .t 14]⟩,
    ⟨some 16, none, .p .pick [.t 10, .t 15, .c (.bool false)]⟩,
    ⟨some 17, none, .p .mov [.t 16]⟩,
    ⟨some 18, some (17, true), .p (.fieldAddr 2) [.t 2]⟩,
    ⟨some 19, some (17, true), .p (.ld 1 false) [.t 18]⟩,
    ⟨some 20, some (17, true), .p (.fieldAddr 2) [.t 3]⟩,
    ⟨some 21, some (17, true), .p (.ld 1 false) [.t 20]⟩,
    ⟨some 22, some (17, true), .call 20 [.t 19, .t 21, .c (.func 7 [] [])]⟩,
    ⟨some 23, none, .p .pick [.t 17, .t 22, .c (.bool false)]⟩,
    ⟨some 4, none, .p .mov [.t 23]⟩])
  .ret))

/-- sortilege/prop.Print -/
def ir9 : IFunc where
  params := 1
  results := [.t 2]
  trunc := false
  body := (.seq (.region [
    ⟨some 1, none, .p (.boxro 4 true) [.t 0]⟩,
    ⟨some 2, none, .p .mov [.c (.str [])]⟩])
  (.seq (.region [
    ⟨some 6, none, .p (.fieldAddr 0) [.t 1]⟩,
    ⟨some 7, none, .p (.ld 1 false) [.t 6]⟩,
    ⟨some 8, none, .call 21 [.t 7]⟩,
    ⟨some 3, none, .p .mov [.t 8]⟩])
  (.seq (.region [
    ⟨some 9, none, .p .mov [.t 3]⟩,
    ⟨some 10, none, .p .mov [.t 3]⟩,
    ⟨some 11, none, .p (.bin .add) [.t 10, .c (.int .i64 1)]⟩,
    ⟨some 4, none, .p .mov [.t 9]⟩,
    ⟨some 5, none, .p .mov [.t 11]⟩])
  (.join ⟨[1, 4, 5], [], [], []⟩ (.seq (.region [
    ⟨some 12, none, .p .mov [.t 3]⟩])
  (.block 0 (.seq (.region [
    ⟨some 14, none, .p (.bin .eql) [.t 12, .c (.int .i64 6)]⟩,
    ⟨some 13, none, .p .mov [.t 14]⟩])
  (.cond (.t 13)
    (.seq (.seq (.region [
      ⟨some 15, none, .p (.fieldAddr 0) [.t 1]⟩,
      ⟨some 16, none, .p (.ld 1 false) [.t 15]⟩,
      ⟨some 17, none, .p (.bin .eql) [.t 16, .c (.str [108, 97, 98, 101, 108])]⟩])
    (.cond (.t 17)
      (.seq (.region [
        ⟨some 18, none, .p (.fieldAddr 1) [.t 1]⟩,
        ⟨some 19, none, .p (.ld 1 false) [.t 18]⟩,
        ⟨some 20, none, .p (.bin .add) [.c (.str [34]), .t 19]⟩,
        ⟨some 21, none, .p (.bin .add) [.t 20, .c (.str [34])]⟩,
        ⟨some 2, none, .p .mov [.t 21]⟩])
      .ret)
      .skip))
    (.seq (.region [
      ⟨some 22, none, .p (.fieldAddr 0) [.t 1]⟩,
      ⟨some 23, none, .p (.ld 1 false) [.t 22]⟩,
      ⟨some 2, none, .p .mov [.t 23]⟩])
    .ret))
    (.seq (.region [
      ⟨some 25, none, .p (.bin .eql) [.t 12, .c (.int .i64 5)]⟩,
      ⟨some 24, none, .p .mov [.t 25]⟩])
    (.cond (.t 24)
      (.seq (.seq (.region [
        ⟨some 26, none, .p (.fieldAddr 0) [.t 1]⟩,
        ⟨some 27, none, .p (.ld 1 false) [.t 26]⟩,
        ⟨some 28, none, .p (.bin .eql) [.t 27, .c (.str [33])]⟩])
      (.cond (.t 28)
        (.seq (.region [
          ⟨some 29, none, .p (.ld 4 true) [.t 1]⟩,
          ⟨some 30, none, .call 22 [.t 29, .c (.int .i64 0), .c (.int .i64 5)]⟩,
          ⟨some 31, none, .p (.bin .add) [.c (.str [33]), .t 30]⟩,
          ⟨some 2, none, .p .mov [.t 31]⟩])
        .ret)
        .skip))
      (.seq (.drawn [
        ⟨some 32, none, .p (.fieldAddr 0) [.t 1]⟩,
        ⟨some 33, none, .p (.ld 1 false) [.t 32]⟩,
        ⟨some 34, none, .p (.bin .add) [.t 33, .c (.str [32])]⟩,
        ⟨some 35, none, .p (.ld 4 true) [.t 1]⟩,
        ⟨some 36, none, .call 22 [.t 35, .c (.int .i64 0), .c (.int .i64 5)]⟩,
        ⟨some 37, none, .p (.bin .add) [.t 34, .t 36]⟩,
        ⟨some 2, none, .p .mov [.t 37]⟩] [])
      .ret))
      (.join ⟨[1, 3, 4, 5, 38], [], [], []⟩ (.seq (.region [
        ⟨some 39, none, .p (.bin .eql) [.t 12, .c (.int .i64 1)]⟩,
        ⟨some 38, none, .p .mov [.t 39]⟩])
      (.cond (.t 38)
        .skip
        (.region [
          ⟨some 40, none, .p (.bin .eql) [.t 12, .c (.int .i64 4)]⟩,
          ⟨some 38, none, .p .mov [.t 40]⟩])))
      (.cond (.t 38)
        (.region [
          ⟨some 41, none, .p .mov [.t 3]⟩,
          ⟨some 42, none, .p (.bin .add) [.t 41, .c (.int .i64 1)]⟩,
          ⟨some 43, none, .p .mov [.t 3]⟩,
          ⟨some 4, none, .p .mov [.t 42]⟩,
          ⟨some 5, none, .p .mov [.t 43]⟩])
        .skip))))))))
  (.seq (.drawn [
    ⟨some 44, none, .p (.ld 4 true) [.t 1]⟩,
    ⟨some 45, none, .p .mov [.t 4]⟩,
    ⟨some 46, none, .call 22 [.t 44, .c (.int .i64 0), .t 45]⟩,
    ⟨some 47, none, .p (.bin .add) [.t 46, .c (.str [32])]⟩,
    ⟨some 48, none, .p (.fieldAddr 0) [.t 1]⟩,
    ⟨some 49, none, .p (.ld 1 false) [.t 48]⟩,
    ⟨some 50, none, .p (.bin .add) [.t 47, .t 49]⟩,
    ⟨some 51, none, .p (.bin .add) [.t 50, .c (.str [32])]⟩,
    ⟨some 52, none, .p (.ld 4 true) [.t 1]⟩,
    ⟨some 53, none, .p .mov [.t 5]⟩,
    ⟨some 54, none, .call 22 [.t 52, .c (.int .i64 1), .t 53]⟩,
    ⟨some 55, none, .p (.bin .add) [.t 51, .t 54]⟩,
    ⟨some 2, none, .p .mov [.t 55]⟩] [])
  .ret)))))

/-- sortilege/prop.begin -/
def ir10 : IFunc where
  params := 2
  results := [.t 4, .t 5]
  trunc := false
  body := (.seq (.region [
    ⟨some 4, none, .p .mov [.c (.nilp)]⟩,
    ⟨some 5, none, .p .mov [.c (.nili)]⟩])
  (.seq (.seq (.region [
    ⟨some 8, none, .p .mov [.t 1]⟩,
    ⟨some 9, none, .p (.bin .lss) [.t 8, .c (.int .i64 1)]⟩,
    ⟨some 10, none, .p .mov [.t 9]⟩,
    ⟨some 11, some (10, false), .p .mov [.t 1]⟩,
    ⟨some 12, some (10, false), .p (.bin .gtr) [.t 11, .c (.int .i64 64)]⟩,
    ⟨some 13, none, .p .pick [.t 10, .c (.bool true), .t 12]⟩])
  (.cond (.t 13)
    (.seq (.region [
      ⟨some 14, none, .p (.iface 0) [.c (.int .i64 1)]⟩,
      ⟨some 4, none, .p .mov [.c (.nilp)]⟩,
      ⟨some 5, none, .p .mov [.t 14]⟩])
    .ret)
    .skip))
  (.seq (.region [
    ⟨some 16, none, .p .mov [.t 0]⟩,
    ⟨some 17, none, .call 23 [.t 16]⟩,
    ⟨some 15, none, .p .mov [.t 17]⟩,
    ⟨some 18, none, .p (.extract 0) [.t 15]⟩,
    ⟨some 19, none, .p (.extract 1) [.t 15]⟩,
    ⟨some 6, none, .p .mov [.t 18]⟩,
    ⟨some 7, none, .p .mov [.t 19]⟩])
  (.seq (.seq (.region [
    ⟨some 20, none, .p .mov [.t 7]⟩,
    ⟨some 21, none, .p (.eq true .i) [.t 20, .c (.nili)]⟩])
  (.cond (.t 21)
    (.seq (.region [
      ⟨some 22, none, .p .mov [.t 7]⟩,
      ⟨some 4, none, .p .mov [.c (.nilp)]⟩,
      ⟨some 5, none, .p .mov [.t 22]⟩])
    .ret)
    .skip))
  (.seq (.region [
    ⟨some 23, none, .p .mov [.t 6]⟩,
    ⟨some 24, none, .p .mov [.t 1]⟩,
    ⟨some 25, none, .p (.build [.nilp, .int .i64 0] [(0, 1, false), (1, 1, false)]) [.t 23, .t 24]⟩,
    ⟨some 26, none, .hnew 2 true (.t 25) []⟩,
    ⟨some 4, none, .p .mov [.t 26]⟩,
    ⟨some 5, none, .p .mov [.c (.nili)]⟩])
  .ret)))))

/-- (*sortilege/prop.parser).imply -/
def ir11 : IFunc where
  params := 2
  results := [.l 4 4 true, .t 5]
  trunc := false
  body := (.seq (.region [
    ⟨some 2, none, .p (.boxro 1 false) [.t 0]⟩,
    ⟨some 4, none, .lnew 4 4 true (.c (.agg [.str [], .str [], .list true 4 [], .int .i64 0])) []⟩,
    ⟨some 5, none, .p .mov [.c (.nili)]⟩])
  (.seq (.seq (.region [
    ⟨some 8, none, .p .mov [.t 1]⟩,
    ⟨some 9, none, .p (.ld 1 false) [.t 2]⟩,
    ⟨some 10, none, .p .nilchk [.t 9]⟩,
    ⟨some 11, none, .p (.fieldAddr 1) [.t 10]⟩,
    ⟨some 12, none, .hload 1 false (.t 11)⟩,
    ⟨some 13, none, .p (.bin .gtr) [.t 8, .t 12]⟩])
  (.cond (.t 13)
    (.seq (.region [
      ⟨some 14, none, .p (.build [.str [], .str [], .list true 4 [], .int .i64 0] []) []⟩,
      ⟨some 15, none, .p (.ld 1 false) [.t 2]⟩,
      ⟨some 16, none, .p (.iface 0) [.c (.int .i64 21)]⟩,
      ⟨some 17, none, .call 13 [.t 15, .t 16]⟩,
      ⟨none, none, .lstore 4 4 true (.t 14) []⟩,
      ⟨some 5, none, .p .mov [.t 17]⟩])
    .ret)
    .skip))
  (.seq (.region [
    ⟨some 19, none, .p (.ld 1 false) [.t 2]⟩,
    ⟨some 20, none, .p .mov [.t 1]⟩,
    ⟨some 21, none, .p (.mkfunc 24 0) [.t 2]⟩,
    ⟨some 22, none, .call 25 [.t 19, .c (.str [124]), .t 20, .t 21]⟩,
    ⟨some 18, none, .p .mov [.t 22]⟩,
    ⟨some 23, none, .p (.extract 0) [.t 18]⟩,
    ⟨some 24, none, .p (.extract 1) [.t 18]⟩,
    ⟨some 6, none, .lnew 6 4 true (.c (.agg [.str [], .str [], .list true 4 [], .int .i64 0])) []⟩,
    ⟨none, none, .lstore 6 4 true (.t 23) []⟩,
    ⟨some 7, none, .p .mov [.t 24]⟩])
  (.seq (.seq (.region [
    ⟨some 25, none, .p .mov [.t 7]⟩,
    ⟨some 26, none, .p (.eq true .i) [.t 25, .c (.nili)]⟩])
  (.cond (.t 26)
    (.seq (.region [
      ⟨some 27, none, .p (.build [.str [], .str [], .list true 4 [], .int .i64 0] []) []⟩,
      ⟨some 28, none, .p .mov [.t 7]⟩,
      ⟨none, none, .lstore 4 4 true (.t 27) []⟩,
      ⟨some 5, none, .p .mov [.t 28]⟩])
    .ret)
    .skip))
  (.seq (.region [
    ⟨some 29, none, .p (.ld 1 false) [.t 2]⟩,
    ⟨some 30, none, .p .mov [.t 1]⟩,
    ⟨some 31, none, .lload 6 4 true⟩,
    ⟨some 32, none, .p (.ld 1 false) [.t 2]⟩,
    ⟨some 33, none, .p (.mkfunc 11 1) [.t 32]⟩,
    ⟨some 34, none, .p (.mkList 1 false) [.c (.str [61, 62])]⟩,
    ⟨some 35, none, .call 26 [.t 29, .t 30, .t 31, .t 33, .t 34]⟩,
    ⟨some 36, none, .p (.extract 0) [.t 35]⟩,
    ⟨some 37, none, .p (.extract 1) [.t 35]⟩,
    ⟨none, none, .lstore 4 4 true (.t 36) []⟩,
    ⟨some 5, none, .p .mov [.t 37]⟩])
  .ret)))))

/-- (*sortilege/scan.Reader).Peek -/
def ir12 : IFunc where
  params := 1
  results := [.l 2 3 true]
  trunc := false
  body := (.seq (.region [
    ⟨some 2, none, .lnew 2 3 true (.c (.agg [.int .i64 0, .str [], .int .i64 0])) []⟩])
  (.seq (.seq (.region [
    ⟨some 3, none, .p .mov [.t 0]⟩,
    ⟨some 4, none, .p (.eq false .p) [.t 3, .c (.nilp)]⟩])
  (.cond (.t 4)
    (.seq (.region [
      ⟨some 5, none, .p (.build [.int .i64 0, .str [], .int .i64 0] []) []⟩,
      ⟨none, none, .lstore 2 3 true (.t 5) []⟩])
    .ret)
    .skip))
  (.seq (.drawn [
    ⟨some 6, none, .p .mov [.t 0]⟩,
    ⟨some 7, none, .p .nilchk [.t 6]⟩,
    ⟨some 8, none, .p (.fieldAddr 0) [.t 7]⟩,
    ⟨some 9, none, .hload 1 false (.t 8)⟩,
    ⟨some 10, none, .p .mov [.t 0]⟩,
    ⟨some 11, none, .p .nilchk [.t 10]⟩,
    ⟨some 12, none, .p (.fieldAddr 1) [.t 11]⟩,
    ⟨some 13, none, .hload 1 false (.t 12)⟩,
    ⟨some 14, none, .p (.idxAddr 3) [.t 9, .t 13]⟩,
    ⟨some 15, none, .p (.ld 3 true) [.t 14]⟩,
    ⟨none, none, .lstore 2 3 true (.t 15) []⟩] [])
  .ret)))

/-- (*sortilege/prop.parser).at -/
def ir13 : IFunc where
  params := 2
  results := [.t 4]
  trunc := false
  body := (.seq (.region [
    ⟨some 4, none, .p .mov [.c (.nili)]⟩])
  (.seq (.region [
    ⟨some 5, none, .p .mov [.t 0]⟩,
    ⟨some 6, none, .p .nilchk [.t 5]⟩,
    ⟨some 7, none, .p (.fieldAddr 0) [.t 6]⟩,
    ⟨some 8, none, .hload 1 false (.t 7)⟩,
    ⟨some 9, none, .call 12 [.t 8]⟩,
    ⟨some 10, none, .p (.field 2 1 false) [.t 9]⟩,
    ⟨some 11, none, .p .mov [.t 1]⟩,
    ⟨some 12, none, .p (.build [.int .i64 0, .nili] [(0, 1, false), (1, 1, false)]) [.t 10, .t 11]⟩,
    ⟨some 13, none, .p (.boxro 2 true) [.t 12]⟩,
    ⟨some 14, none, .p (.iface 2) [.t 13]⟩,
    ⟨some 4, none, .p .mov [.t 14]⟩])
  .ret))

/-- sortilege/nnf.kids -/
def ir14 : IFunc where
  params := 1
  results := [.t 2]
  trunc := false
  body := (.seq (.region [
    ⟨some 2, none, .p .mov [.c (.int .i64 0)]⟩])
  (.seq (.seq (.region [
    ⟨some 3, none, .p .mov [.t 0]⟩])
  (.block 0 (.seq (.block 4 (.block 3 (.seq (.block 2 (.seq (.block 1 (.seq (.join ⟨[3], [], [], []⟩ (.seq (.seq (.region [
    ⟨some 5, none, .p (.bin .eql) [.t 3, .c (.str [116, 114, 117, 101])]⟩,
    ⟨some 4, none, .p .mov [.t 5]⟩])
  (.cond (.t 4)
    .skip
    (.seq (.region [
      ⟨some 6, none, .p (.bin .eql) [.t 3, .c (.str [102, 97, 108, 115, 101])]⟩,
      ⟨some 4, none, .p .mov [.t 6]⟩])
    (.cond (.t 4)
      .skip
      (.region [
        ⟨some 7, none, .p (.bin .eql) [.t 3, .c (.str [108, 97, 98, 101, 108])]⟩,
        ⟨some 4, none, .p .mov [.t 7]⟩])))))
  (.cond (.t 4)
    (.exit 1)
    .skip))
  (.join ⟨[3], [], [], []⟩ (.seq (.seq (.region [
    ⟨some 9, none, .p (.bin .eql) [.t 3, .c (.str [33])]⟩,
    ⟨some 8, none, .p .mov [.t 9]⟩])
  (.cond (.t 8)
    .skip
    (.seq (.region [
      ⟨some 10, none, .p (.bin .eql) [.t 3, .c (.str [88])]⟩,
      ⟨some 8, none, .p .mov [.t 10]⟩])
    (.cond (.t 8)
      .skip
      (.seq (.region [
        ⟨some 11, none, .p (.bin .eql) [.t 3, .c (.str [70])]⟩,
        ⟨some 8, none, .p .mov [.t 11]⟩])
      (.cond (.t 8)
        .skip
        (.region [
          ⟨some 12, none, .p (.bin .eql) [.t 3, .c (.str [71])]⟩,
          ⟨some 8, none, .p .mov [.t 12]⟩])))))))
  (.cond (.t 8)
    (.exit 2)
    .skip))
  (.join ⟨[3], [], [], []⟩ (.seq (.seq (.region [
    ⟨some 14, none, .p (.bin .eql) [.t 3, .c (.str [38])]⟩,
    ⟨some 13, none, .p .mov [.t 14]⟩])
  (.cond (.t 13)
    .skip
    (.seq (.region [
      ⟨some 15, none, .p (.bin .eql) [.t 3, .c (.str [124])]⟩,
      ⟨some 13, none, .p .mov [.t 15]⟩])
    (.cond (.t 13)
      .skip
      (.region [
        ⟨some 16, none, .p (.bin .eql) [.t 3, .c (.str [61, 62])]⟩,
        ⟨some 13, none, .p .mov [.t 16]⟩])))))
  (.cond (.t 13)
    (.exit 3)
    .skip))
  (.seq (.seq (.region [
    ⟨some 18, none, .p (.bin .eql) [.t 3, .c (.str [85])]⟩,
    ⟨some 17, none, .p .mov [.t 18]⟩])
  (.cond (.t 17)
    .skip
    (.seq (.region [
      ⟨some 19, none, .p (.bin .eql) [.t 3, .c (.str [87])]⟩,
      ⟨some 17, none, .p .mov [.t 19]⟩])
    (.cond (.t 17)
      .skip
      (.region [
        ⟨some 20, none, .p (.bin .eql) [.t 3, .c (.str [82])]⟩,
        ⟨some 17, none, .p .mov [.t 20]⟩])))))
  (.cond (.t 17)
    (.exit 4)
    .skip)))))
  (.exit 0)))
  (.seq (.seq (.region [
    ⟨some 2, none, .p .mov [.c (.int .i64 0)]⟩])
  .ret)
  (.exit 0))))
  (.seq (.seq (.region [
    ⟨some 2, none, .p .mov [.c (.int .i64 1)]⟩])
  .ret)
  (.exit 0)))))
  (.seq (.seq (.region [
    ⟨some 2, none, .p .mov [.c (.int .i64 2)]⟩])
  .ret)
  (.exit 0)))))
  (.seq (.region [
    ⟨some 2, none, .p .mov [.c (.int .i64 (-1))]⟩])
  .ret)))

/-- sortilege/nnf.form -/
def ir15 : IFunc where
  params := 1
  results := [.t 2]
  trunc := false
  body := (.seq (.region [
    ⟨some 1, none, .p (.boxro 4 true) [.t 0]⟩,
    ⟨some 2, none, .p .mov [.c (.bool false)]⟩])
  (.seq (.seq (.drawn [
    ⟨some 5, none, .p (.fieldAddr 0) [.t 1]⟩,
    ⟨some 6, none, .p (.ld 1 false) [.t 5]⟩,
    ⟨some 7, none, .call 14 [.t 6]⟩,
    ⟨some 8, none, .p (.fieldAddr 2) [.t 1]⟩,
    ⟨some 9, none, .p (.ld 1 false) [.t 8]⟩,
    ⟨some 10, none, .p .lenL [.t 9]⟩,
    ⟨some 11, none, .p (.bin .neq) [.t 7, .t 10]⟩] [])
  (.cond (.t 11)
    (.seq (.region [
      ⟨some 2, none, .p .mov [.c (.bool false)]⟩])
    .ret)
    .skip))
  (.seq (.seq (.region [
    ⟨some 12, none, .p (.fieldAddr 2) [.t 1]⟩,
    ⟨some 13, none, .p (.ld 1 false) [.t 12]⟩,
    ⟨some 14, none, .p .lenL [.t 13]⟩,
    ⟨some 15, none, .p .mov [.c (.int .i64 0)]⟩])
  (.block 0 (.loop ⟨[13, 14, 15], [], [], []⟩ (.seq (.region [
    ⟨some 16, none, .p (.bin .lss) [.t 15, .t 14]⟩])
  (.seq (.cond (.t 16)
    .skip
    (.exit 0))
  (.seq (.block 1 (.seq (.region [
    ⟨some 17, none, .p (.idxAddr 4) [.t 13, .t 15]⟩,
    ⟨some 18, none, .p (.ld 4 true) [.t 17]⟩,
    ⟨some 4, none, .lnew 4 4 true (.c (.agg [.str [], .str [], .list true 4 [], .int .i64 0])) []⟩,
    ⟨none, none, .lstore 4 4 true (.t 18) []⟩])
  (.seq (.region [
    ⟨some 19, none, .lload 4 4 true⟩,
    ⟨some 20, none, .call 15 [.t 19]⟩,
    ⟨some 21, none, .p (.un .not) [.t 20]⟩])
  (.cond (.t 21)
    (.seq (.region [
      ⟨some 2, none, .p .mov [.c (.bool false)]⟩])
    .ret)
    .skip))))
  (.region [
    ⟨some 22, none, .p (.bin .add) [.t 15, .c (.int .i64 1)]⟩,
    ⟨some 15, none, .p .mov [.t 22]⟩])))))))
  (.seq (.region [
    ⟨some 2, none, .p .mov [.c (.bool true)]⟩])
  .ret))))

/-- sortilege/prop.Size -/
def ir16 : IFunc where
  params := 1
  results := [.t 2]
  trunc := false
  body := (.seq (.region [
    ⟨some 1, none, .p (.boxro 4 true) [.t 0]⟩,
    ⟨some 2, none, .p .mov [.c (.int .i64 0)]⟩])
  (.seq (.region [
    ⟨some 3, none, .p .mov [.c (.int .i64 1)]⟩])
  (.seq (.seq (.region [
    ⟨some 6, none, .p (.fieldAddr 2) [.t 1]⟩,
    ⟨some 7, none, .p (.ld 1 false) [.t 6]⟩,
    ⟨some 8, none, .p .lenL [.t 7]⟩,
    ⟨some 9, none, .p .mov [.c (.int .i64 0)]⟩])
  (.block 0 (.loop ⟨[3, 7, 8, 9], [], [], []⟩ (.seq (.region [
    ⟨some 10, none, .p (.bin .lss) [.t 9, .t 8]⟩])
  (.seq (.cond (.t 10)
    .skip
    (.exit 0))
  (.seq (.block 1 (.seq (.region [
    ⟨some 11, none, .p (.idxAddr 4) [.t 7, .t 9]⟩,
    ⟨some 12, none, .p (.ld 4 true) [.t 11]⟩,
    ⟨some 5, none, .lnew 5 4 true (.c (.agg [.str [], .str [], .list true 4 [], .int .i64 0])) []⟩,
    ⟨none, none, .lstore 5 4 true (.t 12) []⟩])
  (.seq (.region [
    ⟨some 13, none, .p .mov [.t 3]⟩,
    ⟨some 14, none, .p (.bin .leq) [.t 13, .c (.int .i64 4096)]⟩])
  (.cond (.t 14)
    (.region [
      ⟨some 15, none, .p .mov [.t 3]⟩,
      ⟨some 16, none, .lload 5 4 true⟩,
      ⟨some 17, none, .call 16 [.t 16]⟩,
      ⟨some 18, none, .p (.bin .add) [.t 15, .t 17]⟩,
      ⟨some 19, none, .p .min [.t 18, .c (.int .i64 4097)]⟩,
      ⟨some 3, none, .p .mov [.t 19]⟩])
    .skip))))
  (.region [
    ⟨some 20, none, .p (.bin .add) [.t 9, .c (.int .i64 1)]⟩,
    ⟨some 9, none, .p .mov [.t 20]⟩])))))))
  (.seq (.region [
    ⟨some 21, none, .p .mov [.t 3]⟩,
    ⟨some 2, none, .p .mov [.t 21]⟩])
  .ret))))

/-- (*sortilege/nnf.maker).make -/
def ir17 : IFunc where
  params := 3
  results := [.l 6 4 true]
  trunc := false
  body := (.seq (.region [
    ⟨some 4, none, .p (.boxro 4 true) [.t 1]⟩,
    ⟨some 6, none, .lnew 6 4 true (.c (.agg [.str [], .str [], .list true 4 [], .int .i64 0])) []⟩])
  (.seq (.seq (.region [
    ⟨some 9, none, .p .mov [.t 0]⟩,
    ⟨some 10, none, .call 27 [.t 9]⟩])
  (.cond (.t 10)
    (.seq (.region [
      ⟨some 11, none, .p (.build [.str [], .str [], .list true 4 [], .int .i64 0] []) []⟩,
      ⟨none, none, .lstore 6 4 true (.t 11) []⟩])
    .ret)
    .skip))
  (.seq (.region [
    ⟨some 12, none, .p (.fieldAddr 0) [.t 4]⟩,
    ⟨some 13, none, .p (.ld 1 false) [.t 12]⟩,
    ⟨some 7, none, .p .mov [.t 13]⟩])
  (.join ⟨[0, 2, 4, 7], [(6, 4, true)], [(6, 6)], []⟩ (.seq (.region [
    ⟨some 14, none, .p .mov [.t 2]⟩])
  (.cond (.t 14)
    (.region [
      ⟨some 15, none, .p .mov [.t 7]⟩,
      ⟨some 16, none, .call 28 [.t 15]⟩,
      ⟨some 7, none, .p .mov [.t 16]⟩])
    .skip))
  (.join ⟨[7], [(6, 4, true)], [(6, 6)], []⟩ (.seq (.region [
    ⟨some 17, none, .p (.fieldAddr 0) [.t 4]⟩,
    ⟨some 18, none, .p (.ld 1 false) [.t 17]⟩])
  (.block 0 (.seq (.block 8 (.seq (.block 7 (.seq (.block 6 (.join ⟨[0, 2, 4, 7], [(6, 4, true)], [(6, 6)], []⟩ (.block 5 (.block 4 (.seq (.block 3 (.seq (.block 2 (.seq (.block 1 (.seq (.seq (.seq (.region [
    ⟨some 20, none, .p (.bin .eql) [.t 18, .c (.str [108, 97, 98, 101, 108])]⟩,
    ⟨some 19, none, .p .mov [.t 20]⟩])
  (.cond (.t 19)
    (.exit 1)
    .skip))
  (.seq (.seq (.region [
    ⟨some 22, none, .p (.bin .eql) [.t 18, .c (.str [33])]⟩,
    ⟨some 21, none, .p .mov [.t 22]⟩])
  (.cond (.t 21)
    (.exit 2)
    .skip))
  (.seq (.seq (.region [
    ⟨some 24, none, .p (.bin .eql) [.t 18, .c (.str [88])]⟩,
    ⟨some 23, none, .p .mov [.t 24]⟩])
  (.cond (.t 23)
    (.exit 3)
    .skip))
  (.join ⟨[0, 2, 4, 7, 18], [(6, 4, true)], [(6, 6)], []⟩ (.seq (.seq (.region [
    ⟨some 26, none, .p (.bin .eql) [.t 18, .c (.str [38])]⟩,
    ⟨some 25, none, .p .mov [.t 26]⟩])
  (.cond (.t 25)
    .skip
    (.region [
      ⟨some 27, none, .p (.bin .eql) [.t 18, .c (.str [124])]⟩,
      ⟨some 25, none, .p .mov [.t 27]⟩])))
  (.cond (.t 25)
    (.exit 4)
    .skip))
  (.join ⟨[0, 2, 4, 7, 18], [(6, 4, true)], [(6, 6)], []⟩ (.seq (.seq (.region [
    ⟨some 29, none, .p (.bin .eql) [.t 18, .c (.str [85])]⟩,
    ⟨some 28, none, .p .mov [.t 29]⟩])
  (.cond (.t 28)
    .skip
    (.region [
      ⟨some 30, none, .p (.bin .eql) [.t 18, .c (.str [82])]⟩,
      ⟨some 28, none, .p .mov [.t 30]⟩])))
  (.cond (.t 28)
    (.exit 5)
    .skip))
  (.seq (.seq (.region [
    ⟨some 32, none, .p (.bin .eql) [.t 18, .c (.str [61, 62])]⟩,
    ⟨some 31, none, .p .mov [.t 32]⟩])
  (.cond (.t 31)
    (.exit 6)
    .skip))
  (.seq (.seq (.seq (.region [
    ⟨some 34, none, .p (.bin .eql) [.t 18, .c (.str [70])]⟩,
    ⟨some 33, none, .p .mov [.t 34]⟩])
  (.cond (.t 33)
    .skip
    (.region [
      ⟨some 35, none, .p (.bin .eql) [.t 18, .c (.str [71])]⟩,
      ⟨some 33, none, .p .mov [.t 35]⟩])))
  (.cond (.t 33)
    (.exit 7)
    .skip))
  (.seq (.region [
    ⟨some 37, none, .p (.bin .eql) [.t 18, .c (.str [87])]⟩,
    ⟨some 36, none, .p .mov [.t 37]⟩])
  (.cond (.t 36)
    (.exit 8)
    .skip)))))))))
  (.exit 0)))
  (.seq (.seq (.region [
    ⟨some 38, none, .p (.fieldAddr 1) [.t 4]⟩,
    ⟨some 39, none, .p (.ld 1 false) [.t 38]⟩,
    ⟨some 40, none, .p (.build [.str [], .str [], .list true 4 [], .int .i64 0] [(0, 1, false), (1, 1, false)]) [.c (.str [108, 97, 98, 101, 108]), .t 39]⟩,
    ⟨some 8, none, .lnew 8 4 true (.c (.agg [.str [], .str [], .list true 4 [], .int .i64 0])) []⟩,
    ⟨none, none, .lstore 8 4 true (.t 40) []⟩])
  (.seq (.seq (.region [
    ⟨some 41, none, .p .mov [.t 2]⟩,
    ⟨some 42, none, .p .mov [.t 41]⟩,
    ⟨some 43, some (42, true), .p .mov [.t 0]⟩,
    ⟨some 44, some (42, true), .call 27 [.t 43]⟩,
    ⟨some 45, some (42, true), .p (.un .not) [.t 44]⟩,
    ⟨some 46, none, .p .pick [.t 42, .t 45, .c (.bool false)]⟩])
  (.cond (.t 46)
    (.seq (.region [
      ⟨some 47, none, .lload 8 4 true⟩,
      ⟨some 48, none, .p (.mkList 4 true) [.t 47]⟩,
      ⟨some 49, none, .call 29 [.c (.str [33]), .t 48]⟩,
      ⟨none, none, .lstore 6 4 true (.t 49) []⟩])
    .ret)
    .skip))
  (.seq (.region [
    ⟨some 50, none, .lload 8 4 true⟩,
    ⟨none, none, .lstore 6 4 true (.t 50) []⟩])
  .ret)))
  (.exit 0))))
  (.seq (.seq (.region [
    ⟨some 51, none, .p .mov [.t 0]⟩,
    ⟨some 52, none, .p .nilchk [.t 51]⟩,
    ⟨some 53, none, .p (.fieldAddr 0) [.t 52]⟩,
    ⟨some 54, none, .hload 1 false (.t 53)⟩,
    ⟨some 55, none, .p (.bin .add) [.t 54, .c (.int .i64 1)]⟩,
    ⟨some 56, none, .p .nilchk [.t 51]⟩,
    ⟨some 57, none, .p (.fieldAddr 0) [.t 56]⟩,
    ⟨none, none, .hstore 1 false (.t 57) (.t 55)⟩])
  (.seq (.region [
    ⟨some 58, none, .p .mov [.t 0]⟩,
    ⟨some 59, none, .p (.fieldAddr 2) [.t 4]⟩,
    ⟨some 60, none, .p (.ld 1 false) [.t 59]⟩,
    ⟨some 61, none, .p (.idxAddr 4) [.t 60, .c (.int .i64 0)]⟩,
    ⟨some 62, none, .p (.ld 4 true) [.t 61]⟩,
    ⟨some 63, none, .p .mov [.t 2]⟩,
    ⟨some 64, none, .p (.un .not) [.t 63]⟩,
    ⟨some 65, none, .call 17 [.t 58, .t 62, .t 64]⟩,
    ⟨none, none, .lstore 6 4 true (.t 65) []⟩])
  .ret))
  (.exit 0))))
  (.seq (.seq (.region [
    ⟨some 66, none, .p .mov [.t 0]⟩,
    ⟨some 67, none, .p (.fieldAddr 2) [.t 4]⟩,
    ⟨some 68, none, .p (.ld 1 false) [.t 67]⟩,
    ⟨some 69, none, .p (.idxAddr 4) [.t 68, .c (.int .i64 0)]⟩,
    ⟨some 70, none, .p (.ld 4 true) [.t 69]⟩,
    ⟨some 71, none, .p .mov [.t 2]⟩,
    ⟨some 72, none, .call 17 [.t 66, .t 70, .t 71]⟩,
    ⟨some 73, none, .p (.mkList 4 true) [.t 72]⟩,
    ⟨some 74, none, .call 29 [.c (.str [88]), .t 73]⟩,
    ⟨none, none, .lstore 6 4 true (.t 74) []⟩])
  .ret)
  (.exit 0)))))
  (.seq (.seq (.region [
    ⟨some 75, none, .p .mov [.t 0]⟩,
    ⟨some 76, none, .p .mov [.t 7]⟩,
    ⟨some 77, none, .p (.ld 4 true) [.t 4]⟩,
    ⟨some 78, none, .p .mov [.t 2]⟩,
    ⟨some 79, none, .p .mov [.t 2]⟩,
    ⟨some 80, none, .call 30 [.t 75, .t 76, .t 77, .t 78, .t 79]⟩,
    ⟨none, none, .lstore 6 4 true (.t 80) []⟩])
  .ret)
  (.exit 0))))
  (.seq (.seq (.seq (.region [
    ⟨some 81, none, .p .mov [.t 2]⟩])
  (.cond (.t 81)
    (.seq (.region [
      ⟨some 82, none, .p .mov [.t 0]⟩,
      ⟨some 83, none, .p (.ld 4 true) [.t 4]⟩,
      ⟨some 84, none, .call 30 [.t 82, .c (.str [38]), .t 83, .c (.bool false), .c (.bool true)]⟩,
      ⟨none, none, .lstore 6 4 true (.t 84) []⟩])
    .ret)
    .skip))
  (.seq (.region [
    ⟨some 85, none, .p .mov [.t 0]⟩,
    ⟨some 86, none, .p (.ld 4 true) [.t 4]⟩,
    ⟨some 87, none, .call 30 [.t 85, .c (.str [124]), .t 86, .c (.bool true), .c (.bool false)]⟩,
    ⟨none, none, .lstore 6 4 true (.t 87) []⟩])
  .ret))
  (.exit 0))))
  (.seq (.seq (.region [
    ⟨some 88, none, .p .mov [.t 0]⟩,
    ⟨some 89, none, .p (.ld 4 true) [.t 4]⟩,
    ⟨some 90, none, .p .mov [.t 2]⟩,
    ⟨some 91, none, .call 31 [.t 88, .t 89, .t 90]⟩,
    ⟨none, none, .lstore 6 4 true (.t 91) []⟩])
  .ret)
  (.exit 0))))
  (.seq (.seq (.region [
    ⟨some 92, none, .p .mov [.t 0]⟩,
    ⟨some 93, none, .p (.ld 4 true) [.t 4]⟩,
    ⟨some 94, none, .p .mov [.t 2]⟩,
    ⟨some 95, none, .call 32 [.t 92, .t 93, .t 94]⟩,
    ⟨none, none, .lstore 6 4 true (.t 95) []⟩])
  .ret)
  (.exit 0)))))
  (.seq (.region [
    ⟨some 96, none, .p .mov [.t 7]⟩,
    ⟨some 97, none, .call 33 [.t 96]⟩,
    ⟨none, none, .lstore 6 4 true (.t 97) []⟩])
  .ret))))))

/-- sortilege/nnf.simple -/
def ir19 : IFunc where
  params := 1
  results := [.l 2 4 true]
  trunc := false
  body := (.seq (.region [
    ⟨some 1, none, .p (.boxro 4 true) [.t 0]⟩,
    ⟨some 2, none, .lnew 2 4 true (.c (.agg [.str [], .str [], .list true 4 [], .int .i64 0])) []⟩])
  (.seq (.region [
    ⟨some 6, none, .p (.fieldAddr 0) [.t 1]⟩,
    ⟨some 7, none, .p (.ld 1 false) [.t 6]⟩,
    ⟨some 8, none, .p (.fieldAddr 1) [.t 1]⟩,
    ⟨some 9, none, .p (.ld 1 false) [.t 8]⟩,
    ⟨some 10, none, .p (.build [.str [], .str [], .list true 4 [], .int .i64 0] [(0, 1, false), (1, 1, false)]) [.t 7, .t 9]⟩,
    ⟨some 3, none, .lnew 3 4 true (.c (.agg [.str [], .str [], .list true 4 [], .int .i64 0])) [2]⟩,
    ⟨none, none, .lstore 3 4 true (.t 10) [2]⟩])
  (.seq (.seq (.region [
    ⟨some 11, none, .p (.fieldAddr 2) [.t 1]⟩,
    ⟨some 12, none, .p (.ld 1 false) [.t 11]⟩,
    ⟨some 13, none, .p .lenL [.t 12]⟩,
    ⟨some 14, none, .p .mov [.c (.int .i64 0)]⟩])
  (.block 0 (.loop ⟨[12, 13, 14], [(2, 4, true), (3, 4, true)], [(2, 2), (3, 3)], [.l 3 2]⟩ (.seq (.region [
    ⟨some 15, none, .p (.bin .lss) [.t 14, .t 13]⟩])
  (.seq (.cond (.t 15)
    .skip
    (.exit 0))
  (.seq (.block 1 (.seq (.region [
    ⟨some 16, none, .p (.idxAddr 4) [.t 12, .t 14]⟩,
    ⟨some 17, none, .p (.ld 4 true) [.t 16]⟩,
    ⟨some 5, none, .lnew 5 4 true (.c (.agg [.str [], .str [], .list true 4 [], .int .i64 0])) []⟩,
    ⟨none, none, .lstore 5 4 true (.t 17) []⟩])
  (.drawn [
    ⟨some 18, none, .laddr 3 2⟩,
    ⟨some 19, none, .take 18⟩,
    ⟨some 20, none, .lload 5 4 true⟩,
    ⟨some 21, none, .call 19 [.t 20]⟩,
    ⟨some 22, none, .p (.mkList 4 true) [.t 21]⟩,
    ⟨some 23, none, .app 4 64 19 (.t 22)⟩,
    ⟨some 24, none, .laddr 3 2⟩,
    ⟨none, none, .give 24 23⟩] [])))
  (.region [
    ⟨some 25, none, .p (.bin .add) [.t 14, .c (.int .i64 1)]⟩,
    ⟨some 14, none, .p .mov [.t 25]⟩])))))))
  (.seq (.seq (.region [
    ⟨some 26, none, .laddr 3 2⟩,
    ⟨some 27, none, .lload 26 1 false⟩,
    ⟨some 28, none, .p .lenL [.t 27]⟩])
  (.block 2 (.seq (.region [
    ⟨some 30, none, .p (.bin .eql) [.t 28, .c (.int .i64 1)]⟩,
    ⟨some 29, none, .p .mov [.t 30]⟩])
  (.cond (.t 29)
    (.seq (.region [
      ⟨some 31, none, .laddr 3 0⟩,
      ⟨some 32, none, .lload 31 1 false⟩,
      ⟨some 33, none, .p (.bin .eql) [.t 32, .c (.str [88])]⟩,
      ⟨some 34, none, .p .mov [.t 33]⟩,
      ⟨some 35, some (34, true), .laddr 3 2⟩,
      ⟨some 36, some (34, true), .lload 35 1 false⟩,
      ⟨some 37, some (34, true), .p (.idxAddr 4) [.t 36, .c (.int .i64 0)]⟩,
      ⟨some 38, some (34, true), .p (.ld 4 true) [.t 37]⟩,
      ⟨some 39, some (34, true), .call 34 [.t 38]⟩,
      ⟨some 40, none, .p .pick [.t 34, .t 39, .c (.bool false)]⟩])
    (.cond (.t 40)
      (.seq (.region [
        ⟨some 41, none, .laddr 3 2⟩,
        ⟨some 42, none, .lload 41 1 false⟩,
        ⟨some 43, none, .p (.idxAddr 4) [.t 42, .c (.int .i64 0)]⟩,
        ⟨some 44, none, .p (.ld 4 true) [.t 43]⟩,
        ⟨none, none, .lstore 2 4 true (.t 44) []⟩])
      .ret)
      .skip))
    (.seq (.region [
      ⟨some 46, none, .p (.bin .eql) [.t 28, .c (.int .i64 2)]⟩,
      ⟨some 45, none, .p .mov [.t 46]⟩])
    (.cond (.t 45)
      (.seq (.drawn [
        ⟨some 47, none, .lload 3 4 true⟩,
        ⟨some 48, none, .laddr 3 2⟩,
        ⟨some 49, none, .lload 48 1 false⟩,
        ⟨some 50, none, .p (.idxAddr 4) [.t 49, .c (.int .i64 0)]⟩,
        ⟨some 51, none, .p (.ld 4 true) [.t 50]⟩,
        ⟨some 52, none, .laddr 3 2⟩,
        ⟨some 53, none, .lload 52 1 false⟩,
        ⟨some 54, none, .p (.idxAddr 4) [.t 53, .c (.int .i64 1)]⟩,
        ⟨some 55, none, .p (.ld 4 true) [.t 54]⟩,
        ⟨some 56, none, .call 35 [.t 47, .t 51, .t 55]⟩,
        ⟨none, none, .lstore 2 4 true (.t 56) []⟩] [])
      .ret)
      .skip))))))
  (.seq (.region [
    ⟨some 57, none, .lload 3 4 true⟩,
    ⟨none, none, .lstore 2 4 true (.t 57) []⟩])
  .ret)))))

/-- slices.EqualFunc[[]sortilege/prop.Formula,[]sortilege/prop.Formula,sortilege/prop.Formula,sortilege/prop.Formula] -/
def ir20 : IFunc where
  params := 3
  results := [.t 6]
  trunc := false
  body := (.seq (.region [
    ⟨some 6, none, .p .mov [.c (.bool false)]⟩])
  (.seq (.seq (.region [
    ⟨some 10, none, .p .mov [.t 0]⟩,
    ⟨some 11, none, .p .lenL [.t 10]⟩,
    ⟨some 12, none, .p .mov [.t 1]⟩,
    ⟨some 13, none, .p .lenL [.t 12]⟩,
    ⟨some 14, none, .p (.bin .neq) [.t 11, .t 13]⟩])
  (.cond (.t 14)
    (.seq (.region [
      ⟨some 6, none, .p .mov [.c (.bool false)]⟩])
    .ret)
    .skip))
  (.seq (.seq (.region [
    ⟨some 15, none, .p .mov [.t 0]⟩,
    ⟨some 16, none, .p .lenL [.t 15]⟩,
    ⟨some 17, none, .p .mov [.c (.int .i64 0)]⟩])
  (.block 0 (.loop ⟨[1, 2, 15, 16, 17], [], [], []⟩ (.seq (.region [
    ⟨some 18, none, .p (.bin .lss) [.t 17, .t 16]⟩])
  (.seq (.cond (.t 18)
    .skip
    (.exit 0))
  (.seq (.block 1 (.seq (.region [
    ⟨some 19, none, .p .mov [.t 17]⟩,
    ⟨some 20, none, .p (.idxAddr 4) [.t 15, .t 17]⟩,
    ⟨some 21, none, .p (.ld 4 true) [.t 20]⟩,
    ⟨some 8, none, .lnew 8 4 true (.c (.agg [.str [], .str [], .list true 4 [], .int .i64 0])) []⟩,
    ⟨some 7, none, .p .mov [.t 19]⟩,
    ⟨none, none, .lstore 8 4 true (.t 21) []⟩])
  (.seq (.region [
    ⟨some 22, none, .p .mov [.t 1]⟩,
    ⟨some 23, none, .p .mov [.t 7]⟩,
    ⟨some 24, none, .p (.idxAddr 4) [.t 22, .t 23]⟩,
    ⟨some 25, none, .p (.ld 4 true) [.t 24]⟩,
    ⟨some 9, none, .lnew 9 4 true (.c (.agg [.str [], .str [], .list true 4 [], .int .i64 0])) []⟩,
    ⟨none, none, .lstore 9 4 true (.t 25) []⟩])
  (.seq (.region [
    ⟨some 26, none, .p .mov [.t 2]⟩,
    ⟨some 27, none, .lload 8 4 true⟩,
    ⟨some 28, none, .lload 9 4 true⟩,
    ⟨some 29, none, .callv (.t 26) [.t 27, .t 28]⟩,
    ⟨some 30, none, .p (.un .not) [.t 29]⟩])
  (.cond (.t 30)
    (.seq (.region [
      ⟨some 6, none, .p .mov [.c (.bool false)]⟩])
    .ret)
    .skip)))))
  (.region [
    ⟨some 31, none, .p (.bin .add) [.t 17, .c (.int .i64 1)]⟩,
    ⟨some 17, none, .p .mov [.t 31]⟩])))))))
  (.seq (.region [
    ⟨some 6, none, .p .mov [.c (.bool true)]⟩])
  .ret))))

/-- (*sortilege/prop.parser).query -/
def ir39 : IFunc where
  params := 1
  results := [.l 2 6 true, .t 3]
  trunc := false
  body := (.seq (.region [
    ⟨some 2, none, .lnew 2 6 true (.c (.agg [.str [], .str [], .str [], .list true 4 [], .int .i64 0, .int .i64 0])) []⟩,
    ⟨some 3, none, .p .mov [.c (.nili)]⟩])
  (.seq (.region [
    ⟨some 15, none, .p .mov [.t 0]⟩,
    ⟨some 16, none, .p .nilchk [.t 15]⟩,
    ⟨some 17, none, .p (.fieldAddr 0) [.t 16]⟩,
    ⟨some 18, none, .hload 1 false (.t 17)⟩,
    ⟨some 19, none, .call 12 [.t 18]⟩,
    ⟨some 20, none, .p (.field 2 1 false) [.t 19]⟩,
    ⟨some 21, none, .p (.build [.str [], .str [], .str [], .list true 4 [], .int .i64 0, .int .i64 0] [(5, 1, false)]) [.t 20]⟩,
    ⟨some 4, none, .lnew 4 6 true (.c (.agg [.str [], .str [], .str [], .list true 4 [], .int .i64 0, .int .i64 0])) []⟩,
    ⟨none, none, .lstore 4 6 true (.t 21) []⟩])
  (.seq (.seq (.region [
    ⟨some 22, none, .p (.mkList 1 false) [.c (.str [80, 109, 105, 110]), .c (.str [80, 109, 97, 120])]⟩,
    ⟨some 23, none, .p (.mkList 1 false) [.c (.str [61]), .c (.str [62])]⟩,
    ⟨some 24, none, .p (.build [.list true 1 [], .list true 1 []] [(0, 1, false), (1, 1, false)]) [.t 22, .t 23]⟩,
    ⟨some 25, none, .p .mov [.c (.int .i64 0)]⟩])
  (.block 0 (.loop ⟨[0, 24, 25], [(2, 6, true), (4, 6, true)], [(2, 2), (4, 4)], []⟩ (.seq (.region [
    ⟨some 26, none, .p (.bin .lss) [.t 25, .c (.int .i64 2)]⟩])
  (.seq (.cond (.t 26)
    .skip
    (.exit 0))
  (.seq (.block 1 (.seq (.region [
    ⟨some 27, none, .p (.idxArr 2 1 false) [.t 24, .t 25]⟩,
    ⟨some 6, none, .p .mov [.t 27]⟩])
  (.seq (.region [
    ⟨some 28, none, .p .mov [.t 0]⟩,
    ⟨some 29, none, .p .nilchk [.t 28]⟩,
    ⟨some 30, none, .p (.fieldAddr 0) [.t 29]⟩,
    ⟨some 31, none, .hload 1 false (.t 30)⟩,
    ⟨some 32, none, .call 12 [.t 31]⟩,
    ⟨some 7, none, .lnew 7 3 true (.c (.agg [.int .i64 0, .str [], .int .i64 0])) []⟩,
    ⟨none, none, .lstore 7 3 true (.t 32) []⟩])
  (.seq (.seq (.drawn [
    ⟨some 33, none, .p .mov [.t 0]⟩,
    ⟨some 34, none, .p .nilchk [.t 33]⟩,
    ⟨some 35, none, .p (.fieldAddr 0) [.t 34]⟩,
    ⟨some 36, none, .hload 1 false (.t 35)⟩,
    ⟨some 37, none, .p .mov [.t 6]⟩,
    ⟨some 38, none, .p (.idxAddr 1) [.t 37, .c (.int .i64 0)]⟩,
    ⟨some 39, none, .p (.ld 1 false) [.t 38]⟩,
    ⟨some 40, none, .call 36 [.t 36, .t 39]⟩,
    ⟨some 41, none, .p (.un .not) [.t 40]⟩,
    ⟨some 42, none, .p .mov [.t 41]⟩,
    ⟨some 43, some (42, true), .p .mov [.t 0]⟩,
    ⟨some 44, some (42, true), .p .nilchk [.t 43]⟩,
    ⟨some 45, some (42, true), .p (.fieldAddr 0) [.t 44]⟩,
    ⟨some 46, some (42, true), .hload 1 false (.t 45)⟩,
    ⟨some 47, some (42, true), .p .mov [.t 6]⟩,
    ⟨some 48, some (42, true), .p (.idxAddr 1) [.t 47, .c (.int .i64 1)]⟩,
    ⟨some 49, some (42, true), .p (.ld 1 false) [.t 48]⟩,
    ⟨some 50, some (42, true), .call 36 [.t 46, .t 49]⟩,
    ⟨some 51, some (42, true), .p (.un .not) [.t 50]⟩,
    ⟨some 52, none, .p .pick [.t 42, .t 51, .c (.bool false)]⟩] [])
  (.cond (.t 52)
    (.seq (.region [
      ⟨some 53, none, .p (.build [.str [], .str [], .str [], .list true 4 [], .int .i64 0, .int .i64 0] []) []⟩,
      ⟨some 54, none, .p .mov [.t 0]⟩,
      ⟨some 55, none, .p (.iface 0) [.c (.int .i64 20)]⟩,
      ⟨some 56, none, .call 13 [.t 54, .t 55]⟩,
      ⟨none, none, .lstore 2 6 true (.t 53) []⟩,
      ⟨some 3, none, .p .mov [.t 56]⟩])
    .ret)
    .skip))
  (.region [
    ⟨some 57, none, .laddr 4 0⟩,
    ⟨some 58, none, .lload 57 1 false⟩,
    ⟨some 59, none, .laddr 7 1⟩,
    ⟨some 60, none, .lload 59 1 false⟩,
    ⟨some 61, none, .p (.bin .add) [.t 58, .t 60]⟩,
    ⟨some 62, none, .laddr 4 0⟩,
    ⟨none, none, .lstore 62 1 false (.t 61) []⟩])))))
  (.region [
    ⟨some 63, none, .p (.bin .add) [.t 25, .c (.int .i64 1)]⟩,
    ⟨some 25, none, .p .mov [.t 63]⟩])))))))
  (.seq (.region [
    ⟨some 64, none, .p .mov [.t 0]⟩,
    ⟨some 65, none, .p .nilchk [.t 64]⟩,
    ⟨some 66, none, .p (.fieldAddr 0) [.t 65]⟩,
    ⟨some 67, none, .hload 1 false (.t 66)⟩,
    ⟨some 68, none, .call 12 [.t 67]⟩,
    ⟨some 8, none, .lnew 8 3 true (.c (.agg [.int .i64 0, .str [], .int .i64 0])) []⟩,
    ⟨none, none, .lstore 8 3 true (.t 68) []⟩])
  (.seq (.seq (.region [
    ⟨some 69, none, .laddr 4 0⟩,
    ⟨some 70, none, .lload 69 1 false⟩,
    ⟨some 71, none, .laddr 4 0⟩,
    ⟨some 72, none, .lload 71 1 false⟩,
    ⟨some 73, none, .p .lenS [.t 72]⟩,
    ⟨some 74, none, .p (.bin .sub) [.t 73, .c (.int .i64 1)]⟩,
    ⟨some 75, none, .p .idxStr [.t 70, .t 74]⟩,
    ⟨some 76, none, .p (.bin .eql) [.t 75, .c (.int .u8 61)]⟩,
    ⟨some 77, none, .p .mov [.t 76]⟩,
    ⟨some 78, some (77, true), .laddr 8 1⟩,
    ⟨some 79, some (77, true), .lload 78 1 false⟩,
    ⟨some 80, some (77, true), .p (.bin .neq) [.t 79, .c (.str [49])]⟩,
    ⟨some 81, none, .p .pick [.t 77, .t 80, .c (.bool false)]⟩,
    ⟨some 82, none, .p .mov [.t 81]⟩,
    ⟨some 83, some (82, false), .laddr 4 0⟩,
    ⟨some 84, some (82, false), .lload 83 1 false⟩,
    ⟨some 85, some (82, false), .laddr 4 0⟩,
    ⟨some 86, some (82, false), .lload 85 1 false⟩,
    ⟨some 87, some (82, false), .p .lenS [.t 86]⟩,
    ⟨some 88, some (82, false), .p (.bin .sub) [.t 87, .c (.int .i64 1)]⟩,
    ⟨some 89, some (82, false), .p .idxStr [.t 84, .t 88]⟩,
    ⟨some 90, some (82, false), .p (.bin .eql) [.t 89, .c (.int .u8 62)]⟩,
    ⟨some 91, some (82, false), .p .mov [.t 90]⟩,
    ⟨some 92, some (91, true), .laddr 8 1⟩,
    ⟨some 93, some (91, true), .lload 92 1 false⟩,
    ⟨some 94, some (91, true), .p (.bin .neq) [.t 93, .c (.str [48])]⟩,
    ⟨some 95, some (82, false), .p .pick [.t 91, .t 94, .c (.bool false)]⟩,
    ⟨some 96, none, .p .pick [.t 82, .c (.bool true), .t 95]⟩,
    ⟨some 97, none, .p .mov [.t 96]⟩,
    ⟨some 98, some (97, false), .laddr 8 0⟩,
    ⟨some 99, some (97, false), .lload 98 1 false⟩,
    ⟨some 100, some (97, false), .p (.bin .neq) [.t 99, .c (.int .i64 2)]⟩,
    ⟨some 101, none, .p .pick [.t 97, .c (.bool true), .t 100]⟩])
  (.cond (.t 101)
    (.seq (.region [
      ⟨some 102, none, .p (.build [.str [], .str [], .str [], .list true 4 [], .int .i64 0, .int .i64 0] []) []⟩,
      ⟨some 103, none, .p .mov [.t 0]⟩,
      ⟨some 104, none, .p (.iface 0) [.c (.int .i64 20)]⟩,
      ⟨some 105, none, .call 13 [.t 103, .t 104]⟩,
      ⟨none, none, .lstore 2 6 true (.t 102) []⟩,
      ⟨some 3, none, .p .mov [.t 105]⟩])
    .ret)
    .skip))
  (.seq (.drawn [
    ⟨some 106, none, .laddr 4 0⟩,
    ⟨some 107, none, .lload 106 1 false⟩,
    ⟨some 108, none, .p .mov [.t 0]⟩,
    ⟨some 109, none, .p .nilchk [.t 108]⟩,
    ⟨some 110, none, .p (.fieldAddr 0) [.t 109]⟩,
    ⟨some 111, none, .hload 1 false (.t 110)⟩,
    ⟨some 112, none, .call 37 [.t 111]⟩,
    ⟨some 113, none, .p (.field 1 1 false) [.t 112]⟩,
    ⟨some 114, none, .p (.bin .add) [.t 107, .t 113]⟩,
    ⟨some 115, none, .laddr 4 0⟩,
    ⟨none, none, .lstore 115 1 false (.t 114) []⟩] [])
  (.seq (.seq (.region [
    ⟨some 116, none, .p .mov [.t 0]⟩,
    ⟨some 117, none, .p .nilchk [.t 116]⟩,
    ⟨some 118, none, .p (.fieldAddr 0) [.t 117]⟩,
    ⟨some 119, none, .hload 1 false (.t 118)⟩,
    ⟨some 120, none, .call 38 [.t 119, .c (.str [91])]⟩,
    ⟨some 9, none, .p .mov [.t 120]⟩])
  (.seq (.region [
    ⟨some 121, none, .p .mov [.t 9]⟩,
    ⟨some 122, none, .p (.eq true .i) [.t 121, .c (.nili)]⟩])
  (.cond (.t 122)
    (.seq (.region [
      ⟨some 123, none, .p (.build [.str [], .str [], .str [], .list true 4 [], .int .i64 0, .int .i64 0] []) []⟩,
      ⟨some 124, none, .p .mov [.t 9]⟩,
      ⟨none, none, .lstore 2 6 true (.t 123) []⟩,
      ⟨some 3, none, .p .mov [.t 124]⟩])
    .ret)
    .skip)))
  (.seq (.region [
    ⟨some 126, none, .p .mov [.t 0]⟩,
    ⟨some 127, none, .call 11 [.t 126, .c (.int .i64 1)]⟩,
    ⟨some 125, none, .p .mov [.t 127]⟩,
    ⟨some 128, none, .p (.extract 0) [.t 125]⟩,
    ⟨some 129, none, .p (.extract 1) [.t 125]⟩,
    ⟨some 10, none, .lnew 10 4 true (.c (.agg [.str [], .str [], .list true 4 [], .int .i64 0])) []⟩,
    ⟨none, none, .lstore 10 4 true (.t 128) []⟩,
    ⟨some 11, none, .p .mov [.t 129]⟩])
  (.seq (.seq (.region [
    ⟨some 130, none, .p .mov [.t 11]⟩,
    ⟨some 131, none, .p (.eq true .i) [.t 130, .c (.nili)]⟩])
  (.cond (.t 131)
    (.seq (.region [
      ⟨some 132, none, .p (.build [.str [], .str [], .str [], .list true 4 [], .int .i64 0, .int .i64 0] []) []⟩,
      ⟨some 133, none, .p .mov [.t 11]⟩,
      ⟨none, none, .lstore 2 6 true (.t 132) []⟩,
      ⟨some 3, none, .p .mov [.t 133]⟩])
    .ret)
    .skip))
  (.seq (.region [
    ⟨some 134, none, .lload 10 4 true⟩,
    ⟨some 135, none, .laddr 4 1⟩,
    ⟨none, none, .lstore 135 4 true (.t 134) []⟩])
  (.seq (.seq (.region [
    ⟨some 136, none, .p (.build [.str [], .str []] [(0, 1, false), (1, 1, false)]) [.c (.str [93]), .c (.str [59])]⟩,
    ⟨some 137, none, .p .mov [.c (.int .i64 0)]⟩])
  (.block 2 (.loop ⟨[0, 136, 137], [(2, 6, true), (4, 6, true)], [(2, 2), (4, 4)], []⟩ (.seq (.region [
    ⟨some 138, none, .p (.bin .lss) [.t 137, .c (.int .i64 2)]⟩])
  (.seq (.cond (.t 138)
    .skip
    (.exit 2))
  (.seq (.block 3 (.seq (.region [
    ⟨some 139, none, .p (.idxArr 2 1 false) [.t 136, .t 137]⟩,
    ⟨some 13, none, .p .mov [.t 139]⟩])
  (.seq (.region [
    ⟨some 140, none, .p .mov [.t 0]⟩,
    ⟨some 141, none, .p .nilchk [.t 140]⟩,
    ⟨some 142, none, .p (.fieldAddr 0) [.t 141]⟩,
    ⟨some 143, none, .hload 1 false (.t 142)⟩,
    ⟨some 144, none, .p .mov [.t 13]⟩,
    ⟨some 145, none, .call 38 [.t 143, .t 144]⟩,
    ⟨some 14, none, .p .mov [.t 145]⟩])
  (.seq (.region [
    ⟨some 146, none, .p .mov [.t 14]⟩,
    ⟨some 147, none, .p (.eq true .i) [.t 146, .c (.nili)]⟩])
  (.cond (.t 147)
    (.seq (.region [
      ⟨some 148, none, .p (.build [.str [], .str [], .str [], .list true 4 [], .int .i64 0, .int .i64 0] []) []⟩,
      ⟨some 149, none, .p .mov [.t 14]⟩,
      ⟨none, none, .lstore 2 6 true (.t 148) []⟩,
      ⟨some 3, none, .p .mov [.t 149]⟩])
    .ret)
    .skip)))))
  (.region [
    ⟨some 150, none, .p (.bin .add) [.t 137, .c (.int .i64 1)]⟩,
    ⟨some 137, none, .p .mov [.t 150]⟩])))))))
  (.seq (.region [
    ⟨some 151, none, .lload 4 6 true⟩,
    ⟨none, none, .lstore 2 6 true (.t 151) []⟩,
    ⟨some 3, none, .p .mov [.c (.nili)]⟩])
  .ret))))))))))))

/-- sortilege/prop.binds -/
def ir21 : IFunc where
  params := 1
  results := [.t 2]
  trunc := false
  body := (.seq (.region [
    ⟨some 2, none, .p .mov [.c (.int .i64 0)]⟩])
  (.seq (.seq (.region [
    ⟨some 3, none, .p .mov [.t 0]⟩])
  (.block 0 (.seq (.block 6 (.block 5 (.seq (.block 4 (.seq (.block 3 (.seq (.block 2 (.seq (.block 1 (.seq (.seq (.seq (.region [
    ⟨some 5, none, .p (.bin .eql) [.t 3, .c (.str [61, 62])]⟩,
    ⟨some 4, none, .p .mov [.t 5]⟩])
  (.cond (.t 4)
    (.exit 1)
    .skip))
  (.seq (.seq (.region [
    ⟨some 7, none, .p (.bin .eql) [.t 3, .c (.str [124])]⟩,
    ⟨some 6, none, .p .mov [.t 7]⟩])
  (.cond (.t 6)
    (.exit 2)
    .skip))
  (.seq (.seq (.region [
    ⟨some 9, none, .p (.bin .eql) [.t 3, .c (.str [38])]⟩,
    ⟨some 8, none, .p .mov [.t 9]⟩])
  (.cond (.t 8)
    (.exit 3)
    .skip))
  (.join ⟨[3], [], [], []⟩ (.seq (.seq (.region [
    ⟨some 11, none, .p (.bin .eql) [.t 3, .c (.str [85])]⟩,
    ⟨some 10, none, .p .mov [.t 11]⟩])
  (.cond (.t 10)
    .skip
    (.seq (.region [
      ⟨some 12, none, .p (.bin .eql) [.t 3, .c (.str [87])]⟩,
      ⟨some 10, none, .p .mov [.t 12]⟩])
    (.cond (.t 10)
      .skip
      (.region [
        ⟨some 13, none, .p (.bin .eql) [.t 3, .c (.str [82])]⟩,
        ⟨some 10, none, .p .mov [.t 13]⟩])))))
  (.cond (.t 10)
    (.exit 4)
    .skip))
  (.seq (.seq (.region [
    ⟨some 15, none, .p (.bin .eql) [.t 3, .c (.str [33])]⟩,
    ⟨some 14, none, .p .mov [.t 15]⟩])
  (.cond (.t 14)
    (.exit 5)
    .skip))
  (.seq (.seq (.region [
    ⟨some 17, none, .p (.bin .eql) [.t 3, .c (.str [88])]⟩,
    ⟨some 16, none, .p .mov [.t 17]⟩])
  (.cond (.t 16)
    .skip
    (.seq (.region [
      ⟨some 18, none, .p (.bin .eql) [.t 3, .c (.str [70])]⟩,
      ⟨some 16, none, .p .mov [.t 18]⟩])
    (.cond (.t 16)
      .skip
      (.region [
        ⟨some 19, none, .p (.bin .eql) [.t 3, .c (.str [71])]⟩,
        ⟨some 16, none, .p .mov [.t 19]⟩])))))
  (.cond (.t 16)
    (.exit 6)
    .skip)))))))
  (.exit 0)))
  (.seq (.seq (.region [
    ⟨some 2, none, .p .mov [.c (.int .i64 1)]⟩])
  .ret)
  (.exit 0))))
  (.seq (.seq (.region [
    ⟨some 2, none, .p .mov [.c (.int .i64 2)]⟩])
  .ret)
  (.exit 0))))
  (.seq (.seq (.region [
    ⟨some 2, none, .p .mov [.c (.int .i64 3)]⟩])
  .ret)
  (.exit 0))))
  (.seq (.seq (.region [
    ⟨some 2, none, .p .mov [.c (.int .i64 4)]⟩])
  .ret)
  (.exit 0)))))
  (.seq (.seq (.region [
    ⟨some 2, none, .p .mov [.c (.int .i64 5)]⟩])
  .ret)
  (.exit 0)))))
  (.seq (.region [
    ⟨some 2, none, .p .mov [.c (.int .i64 6)]⟩])
  .ret)))

/-- sortilege/prop.kid -/
def ir22 : IFunc where
  params := 3
  results := [.t 6]
  trunc := false
  body := (.seq (.region [
    ⟨some 3, none, .p (.boxro 4 true) [.t 0]⟩,
    ⟨some 6, none, .p .mov [.c (.str [])]⟩])
  (.seq (.seq (.region [
    ⟨some 8, none, .p .mov [.t 1]⟩,
    ⟨some 9, none, .p (.fieldAddr 2) [.t 3]⟩,
    ⟨some 10, none, .p (.ld 1 false) [.t 9]⟩,
    ⟨some 11, none, .p .lenL [.t 10]⟩,
    ⟨some 12, none, .p (.bin .geq) [.t 8, .t 11]⟩])
  (.cond (.t 12)
    (.seq (.region [
      ⟨some 6, none, .p .mov [.c (.str [])]⟩])
    .ret)
    .skip))
  (.seq (.region [
    ⟨some 13, none, .p (.fieldAddr 2) [.t 3]⟩,
    ⟨some 14, none, .p (.ld 1 false) [.t 13]⟩,
    ⟨some 15, none, .p .mov [.t 1]⟩,
    ⟨some 16, none, .p (.idxAddr 4) [.t 14, .t 15]⟩,
    ⟨some 17, none, .p (.ld 4 true) [.t 16]⟩,
    ⟨some 18, none, .call 9 [.t 17]⟩,
    ⟨some 7, none, .p .mov [.t 18]⟩])
  (.seq (.seq (.region [
    ⟨some 19, none, .p (.fieldAddr 2) [.t 3]⟩,
    ⟨some 20, none, .p (.ld 1 false) [.t 19]⟩,
    ⟨some 21, none, .p .mov [.t 1]⟩,
    ⟨some 22, none, .p (.idxAddr 4) [.t 20, .t 21]⟩,
    ⟨some 23, none, .p (.fieldAddr 0) [.t 22]⟩,
    ⟨some 24, none, .p (.ld 1 false) [.t 23]⟩,
    ⟨some 25, none, .call 21 [.t 24]⟩,
    ⟨some 26, none, .p .mov [.t 2]⟩,
    ⟨some 27, none, .p (.bin .lss) [.t 25, .t 26]⟩])
  (.cond (.t 27)
    (.seq (.region [
      ⟨some 28, none, .p .mov [.t 7]⟩,
      ⟨some 29, none, .p (.bin .add) [.c (.str [40]), .t 28]⟩,
      ⟨some 30, none, .p (.bin .add) [.t 29, .c (.str [41])]⟩,
      ⟨some 6, none, .p .mov [.t 30]⟩])
    .ret)
    .skip))
  (.seq (.region [
    ⟨some 31, none, .p .mov [.t 7]⟩,
    ⟨some 6, none, .p .mov [.t 31]⟩])
  .ret)))))

/-- sortilege/scan.New -/
def ir23 : IFunc where
  params := 1
  results := [.t 2, .t 3]
  trunc := false
  body := (.seq (.region [
    ⟨some 2, none, .p .mov [.c (.nilp)]⟩,
    ⟨some 3, none, .p .mov [.c (.nili)]⟩])
  (.seq (.region [
    ⟨some 7, none, .p .mov [.t 0]⟩,
    ⟨some 8, none, .call 40 [.t 7]⟩,
    ⟨some 6, none, .p .mov [.t 8]⟩,
    ⟨some 9, none, .p (.extract 0) [.t 6]⟩,
    ⟨some 10, none, .p (.extract 1) [.t 6]⟩,
    ⟨some 4, none, .p .mov [.t 9]⟩,
    ⟨some 5, none, .p .mov [.t 10]⟩])
  (.seq (.seq (.region [
    ⟨some 11, none, .p .mov [.t 5]⟩,
    ⟨some 12, none, .p (.eq true .i) [.t 11, .c (.nili)]⟩])
  (.cond (.t 12)
    (.seq (.region [
      ⟨some 13, none, .p .mov [.t 5]⟩,
      ⟨some 2, none, .p .mov [.c (.nilp)]⟩,
      ⟨some 3, none, .p .mov [.t 13]⟩])
    .ret)
    .skip))
  (.seq (.region [
    ⟨some 14, none, .p .mov [.t 4]⟩,
    ⟨some 15, none, .p (.build [.list true 3 [], .int .i64 0] [(0, 1, false)]) [.t 14]⟩,
    ⟨some 16, none, .hnew 2 true (.t 15) []⟩,
    ⟨some 2, none, .p .mov [.t 16]⟩,
    ⟨some 3, none, .p .mov [.c (.nili)]⟩])
  .ret))))

/-- (*sortilege/prop.parser).chain -/
def ir25 : IFunc where
  params := 4
  results := [.l 8 4 true, .t 9]
  trunc := false
  body := (.seq (.region [
    ⟨some 8, none, .lnew 8 4 true (.c (.agg [.str [], .str [], .list true 4 [], .int .i64 0])) []⟩,
    ⟨some 9, none, .p .mov [.c (.nili)]⟩])
  (.seq (.region [
    ⟨some 14, none, .p .mov [.t 3]⟩,
    ⟨some 15, none, .p .mov [.t 2]⟩,
    ⟨some 16, none, .callv (.t 14) [.t 15]⟩,
    ⟨some 13, none, .p .mov [.t 16]⟩,
    ⟨some 17, none, .p (.extract 0) [.t 13]⟩,
    ⟨some 18, none, .p (.extract 1) [.t 13]⟩,
    ⟨some 10, none, .lnew 10 4 true (.c (.agg [.str [], .str [], .list true 4 [], .int .i64 0])) []⟩,
    ⟨none, none, .lstore 10 4 true (.t 17) []⟩,
    ⟨some 11, none, .p .mov [.t 18]⟩])
  (.seq (.block 0 (.loop ⟨[0, 1, 2, 3, 11], [(8, 4, true), (10, 4, true)], [(8, 8), (10, 10)], []⟩ (.seq (.seq (.region [
    ⟨some 19, none, .p .mov [.t 11]⟩,
    ⟨some 20, none, .p (.eq false .i) [.t 19, .c (.nili)]⟩,
    ⟨some 21, none, .p .mov [.t 20]⟩,
    ⟨some 22, some (21, true), .p .mov [.t 0]⟩,
    ⟨some 23, some (21, true), .p .nilchk [.t 22]⟩,
    ⟨some 24, some (21, true), .p (.fieldAddr 0) [.t 23]⟩,
    ⟨some 25, some (21, true), .hload 1 false (.t 24)⟩,
    ⟨some 26, some (21, true), .p .mov [.t 1]⟩,
    ⟨some 27, some (21, true), .call 36 [.t 25, .t 26]⟩,
    ⟨some 28, none, .p .pick [.t 21, .t 27, .c (.bool false)]⟩])
  (.cond (.t 28)
    .skip
    (.exit 0)))
  (.block 1 (.seq (.region [
    ⟨some 12, none, .lnew 12 4 true (.c (.agg [.str [], .str [], .list true 4 [], .int .i64 0])) []⟩])
  (.seq (.region [
    ⟨some 30, none, .p .mov [.t 3]⟩,
    ⟨some 31, none, .p .mov [.t 2]⟩,
    ⟨some 32, none, .callv (.t 30) [.t 31]⟩,
    ⟨some 29, none, .p .mov [.t 32]⟩,
    ⟨some 33, none, .p (.extract 0) [.t 29]⟩,
    ⟨some 34, none, .p (.extract 1) [.t 29]⟩,
    ⟨none, none, .lstore 12 4 true (.t 33) []⟩,
    ⟨some 11, none, .p .mov [.t 34]⟩])
  (.seq (.region [
    ⟨some 35, none, .p .mov [.t 11]⟩,
    ⟨some 36, none, .p (.eq false .i) [.t 35, .c (.nili)]⟩])
  (.cond (.t 36)
    (.region [
      ⟨some 37, none, .p .mov [.t 1]⟩,
      ⟨some 38, none, .lload 10 4 true⟩,
      ⟨some 39, none, .lload 12 4 true⟩,
      ⟨some 40, none, .call 41 [.t 37, .t 38, .t 39]⟩,
      ⟨none, none, .lstore 10 4 true (.t 40) []⟩])
    .skip))))))))
  (.seq (.seq (.region [
    ⟨some 41, none, .p .mov [.t 11]⟩,
    ⟨some 42, none, .p (.eq true .i) [.t 41, .c (.nili)]⟩])
  (.cond (.t 42)
    (.seq (.region [
      ⟨some 43, none, .p (.build [.str [], .str [], .list true 4 [], .int .i64 0] []) []⟩,
      ⟨some 44, none, .p .mov [.t 11]⟩,
      ⟨none, none, .lstore 8 4 true (.t 43) []⟩,
      ⟨some 9, none, .p .mov [.t 44]⟩])
    .ret)
    .skip))
  (.seq (.region [
    ⟨some 45, none, .lload 10 4 true⟩,
    ⟨none, none, .lstore 8 4 true (.t 45) []⟩,
    ⟨some 9, none, .p .mov [.c (.nili)]⟩])
  .ret)))))

/-- (*sortilege/prop.parser).imply$1 -/
def ir24 : IFunc where
  params := 2
  results := [.l 3 4 true, .t 4]
  trunc := false
  body := (.seq (.region [
    ⟨some 3, none, .lnew 3 4 true (.c (.agg [.str [], .str [], .list true 4 [], .int .i64 0])) []⟩,
    ⟨some 4, none, .p .mov [.c (.nili)]⟩])
  (.seq (.region [
    ⟨some 5, none, .hload 1 false (.t 1)⟩,
    ⟨some 6, none, .p .mov [.t 0]⟩,
    ⟨some 7, none, .hload 1 false (.t 1)⟩,
    ⟨some 8, none, .p (.mkfunc 42 1) [.t 7]⟩,
    ⟨some 9, none, .call 25 [.t 5, .c (.str [38]), .t 6, .t 8]⟩,
    ⟨some 10, none, .p (.extract 0) [.t 9]⟩,
    ⟨some 11, none, .p (.extract 1) [.t 9]⟩,
    ⟨none, none, .lstore 3 4 true (.t 10) []⟩,
    ⟨some 4, none, .p .mov [.t 11]⟩])
  .ret))

/-- (*sortilege/prop.parser).until -/
def ir42 : IFunc where
  params := 2
  results := [.l 4 4 true, .t 5]
  trunc := false
  body := (.seq (.region [
    ⟨some 4, none, .lnew 4 4 true (.c (.agg [.str [], .str [], .list true 4 [], .int .i64 0])) []⟩,
    ⟨some 5, none, .p .mov [.c (.nili)]⟩])
  (.seq (.seq (.region [
    ⟨some 8, none, .p .mov [.t 1]⟩,
    ⟨some 9, none, .p .mov [.t 0]⟩,
    ⟨some 10, none, .p .nilchk [.t 9]⟩,
    ⟨some 11, none, .p (.fieldAddr 1) [.t 10]⟩,
    ⟨some 12, none, .hload 1 false (.t 11)⟩,
    ⟨some 13, none, .p (.bin .gtr) [.t 8, .t 12]⟩])
  (.cond (.t 13)
    (.seq (.region [
      ⟨some 14, none, .p (.build [.str [], .str [], .list true 4 [], .int .i64 0] []) []⟩,
      ⟨some 15, none, .p .mov [.t 0]⟩,
      ⟨some 16, none, .p (.iface 0) [.c (.int .i64 21)]⟩,
      ⟨some 17, none, .call 13 [.t 15, .t 16]⟩,
      ⟨none, none, .lstore 4 4 true (.t 14) []⟩,
      ⟨some 5, none, .p .mov [.t 17]⟩])
    .ret)
    .skip))
  (.seq (.region [
    ⟨some 19, none, .p .mov [.t 0]⟩,
    ⟨some 20, none, .p .mov [.t 1]⟩,
    ⟨some 21, none, .call 43 [.t 19, .t 20]⟩,
    ⟨some 18, none, .p .mov [.t 21]⟩,
    ⟨some 22, none, .p (.extract 0) [.t 18]⟩,
    ⟨some 23, none, .p (.extract 1) [.t 18]⟩,
    ⟨some 6, none, .lnew 6 4 true (.c (.agg [.str [], .str [], .list true 4 [], .int .i64 0])) []⟩,
    ⟨none, none, .lstore 6 4 true (.t 22) []⟩,
    ⟨some 7, none, .p .mov [.t 23]⟩])
  (.seq (.seq (.region [
    ⟨some 24, none, .p .mov [.t 7]⟩,
    ⟨some 25, none, .p (.eq true .i) [.t 24, .c (.nili)]⟩])
  (.cond (.t 25)
    (.seq (.region [
      ⟨some 26, none, .p (.build [.str [], .str [], .list true 4 [], .int .i64 0] []) []⟩,
      ⟨some 27, none, .p .mov [.t 7]⟩,
      ⟨none, none, .lstore 4 4 true (.t 26) []⟩,
      ⟨some 5, none, .p .mov [.t 27]⟩])
    .ret)
    .skip))
  (.seq (.region [
    ⟨some 28, none, .p .mov [.t 0]⟩,
    ⟨some 29, none, .p .mov [.t 1]⟩,
    ⟨some 30, none, .lload 6 4 true⟩,
    ⟨some 31, none, .p .mov [.t 0]⟩,
    ⟨some 32, none, .p (.mkfunc 42 1) [.t 31]⟩,
    ⟨some 33, none, .p (.mkList 1 false) [.c (.str [85]), .c (.str [87]), .c (.str [82])]⟩,
    ⟨some 34, none, .call 26 [.t 28, .t 29, .t 30, .t 32, .t 33]⟩,
    ⟨some 35, none, .p (.extract 0) [.t 34]⟩,
    ⟨some 36, none, .p (.extract 1) [.t 34]⟩,
    ⟨none, none, .lstore 4 4 true (.t 35) []⟩,
    ⟨some 5, none, .p .mov [.t 36]⟩])
  .ret)))))

/-- (*sortilege/prop.parser).right -/
def ir26 : IFunc where
  params := 5
  results := [.l 10 4 true, .t 11]
  trunc := false
  body := (.seq (.region [
    ⟨some 7, none, .p (.boxro 4 true) [.t 2]⟩,
    ⟨some 10, none, .lnew 10 4 true (.c (.agg [.str [], .str [], .list true 4 [], .int .i64 0])) []⟩,
    ⟨some 11, none, .p .mov [.c (.nili)]⟩])
  (.seq (.seq (.region [
    ⟨some 16, none, .p .mov [.t 4]⟩,
    ⟨some 17, none, .p .lenL [.t 16]⟩,
    ⟨some 18, none, .p .mov [.c (.int .i64 0)]⟩])
  (.block 0 (.loop ⟨[0, 1, 3, 7, 16, 17, 18], [(10, 4, true)], [(10, 10)], []⟩ (.seq (.region [
    ⟨some 19, none, .p (.bin .lss) [.t 18, .t 17]⟩])
  (.seq (.cond (.t 19)
    .skip
    (.exit 0))
  (.seq (.block 1 (.seq (.region [
    ⟨some 20, none, .p (.idxAddr 1) [.t 16, .t 18]⟩,
    ⟨some 21, none, .p (.ld 1 false) [.t 20]⟩,
    ⟨some 13, none, .p .mov [.t 21]⟩])
  (.seq (.region [
    ⟨some 22, none, .p .mov [.t 0]⟩,
    ⟨some 23, none, .p .nilchk [.t 22]⟩,
    ⟨some 24, none, .p (.fieldAddr 0) [.t 23]⟩,
    ⟨some 25, none, .hload 1 false (.t 24)⟩,
    ⟨some 26, none, .p .mov [.t 13]⟩,
    ⟨some 27, none, .call 36 [.t 25, .t 26]⟩])
  (.cond (.t 27)
    (.seq (.region [
      ⟨some 29, none, .p .mov [.t 3]⟩,
      ⟨some 30, none, .p .mov [.t 1]⟩,
      ⟨some 31, none, .p (.bin .add) [.t 30, .c (.int .i64 1)]⟩,
      ⟨some 32, none, .callv (.t 29) [.t 31]⟩,
      ⟨some 28, none, .p .mov [.t 32]⟩,
      ⟨some 33, none, .p (.extract 0) [.t 28]⟩,
      ⟨some 34, none, .p (.extract 1) [.t 28]⟩,
      ⟨some 14, none, .lnew 14 4 true (.c (.agg [.str [], .str [], .list true 4 [], .int .i64 0])) []⟩,
      ⟨none, none, .lstore 14 4 true (.t 33) []⟩,
      ⟨some 15, none, .p .mov [.t 34]⟩])
    (.seq (.seq (.region [
      ⟨some 35, none, .p .mov [.t 15]⟩,
      ⟨some 36, none, .p (.eq true .i) [.t 35, .c (.nili)]⟩])
    (.cond (.t 36)
      (.seq (.region [
        ⟨some 37, none, .p (.build [.str [], .str [], .list true 4 [], .int .i64 0] []) []⟩,
        ⟨some 38, none, .p .mov [.t 15]⟩,
        ⟨none, none, .lstore 10 4 true (.t 37) []⟩,
        ⟨some 11, none, .p .mov [.t 38]⟩])
      .ret)
      .skip))
    (.seq (.region [
      ⟨some 39, none, .p .mov [.t 13]⟩,
      ⟨some 40, none, .p (.ld 4 true) [.t 7]⟩,
      ⟨some 41, none, .lload 14 4 true⟩,
      ⟨some 42, none, .call 41 [.t 39, .t 40, .t 41]⟩,
      ⟨none, none, .lstore 10 4 true (.t 42) []⟩,
      ⟨some 11, none, .p .mov [.c (.nili)]⟩])
    .ret)))
    .skip))))
  (.region [
    ⟨some 43, none, .p (.bin .add) [.t 18, .c (.int .i64 1)]⟩,
    ⟨some 18, none, .p .mov [.t 43]⟩])))))))
  (.seq (.region [
    ⟨some 44, none, .p (.ld 4 true) [.t 7]⟩,
    ⟨none, none, .lstore 10 4 true (.t 44) []⟩,
    ⟨some 11, none, .p .mov [.c (.nili)]⟩])
  .ret)))

/-- (*sortilege/nnf.maker).spent -/
def ir27 : IFunc where
  params := 1
  results := [.t 2]
  trunc := false
  body := (.seq (.region [
    ⟨some 2, none, .p .mov [.c (.bool false)]⟩])
  (.seq (.region [
    ⟨some 3, none, .p .mov [.t 0]⟩,
    ⟨some 4, none, .p .nilchk [.t 3]⟩,
    ⟨some 5, none, .p (.fieldAddr 0) [.t 4]⟩,
    ⟨some 6, none, .hload 1 false (.t 5)⟩,
    ⟨some 7, none, .p (.bin .sub) [.t 6, .c (.int .i64 1)]⟩,
    ⟨some 8, none, .p .nilchk [.t 3]⟩,
    ⟨some 9, none, .p (.fieldAddr 0) [.t 8]⟩,
    ⟨none, none, .hstore 1 false (.t 9) (.t 7)⟩])
  (.seq (.region [
    ⟨some 10, none, .p .mov [.t 0]⟩,
    ⟨some 11, none, .p .nilchk [.t 10]⟩,
    ⟨some 12, none, .p (.fieldAddr 0) [.t 11]⟩,
    ⟨some 13, none, .hload 1 false (.t 12)⟩,
    ⟨some 14, none, .p (.bin .lss) [.t 13, .c (.int .i64 0)]⟩,
    ⟨some 2, none, .p .mov [.t 14]⟩])
  .ret)))

/-- sortilege/nnf.dual -/
def ir28 : IFunc where
  params := 1
  results := [.t 2]
  trunc := false
  body := (.seq (.region [
    ⟨some 2, none, .p .mov [.c (.str [])]⟩])
  (.seq (.seq (.region [
    ⟨some 3, none, .p .mov [.t 0]⟩])
  (.block 0 (.seq (.region [
    ⟨some 5, none, .p (.bin .eql) [.t 3, .c (.str [116, 114, 117, 101])]⟩,
    ⟨some 4, none, .p .mov [.t 5]⟩])
  (.cond (.t 4)
    (.seq (.region [
      ⟨some 2, none, .p .mov [.c (.str [102, 97, 108, 115, 101])]⟩])
    .ret)
    (.seq (.region [
      ⟨some 7, none, .p (.bin .eql) [.t 3, .c (.str [102, 97, 108, 115, 101])]⟩,
      ⟨some 6, none, .p .mov [.t 7]⟩])
    (.cond (.t 6)
      (.seq (.region [
        ⟨some 2, none, .p .mov [.c (.str [116, 114, 117, 101])]⟩])
      .ret)
      (.seq (.region [
        ⟨some 9, none, .p (.bin .eql) [.t 3, .c (.str [38])]⟩,
        ⟨some 8, none, .p .mov [.t 9]⟩])
      (.cond (.t 8)
        (.seq (.region [
          ⟨some 2, none, .p .mov [.c (.str [124])]⟩])
        .ret)
        (.seq (.region [
          ⟨some 11, none, .p (.bin .eql) [.t 3, .c (.str [124])]⟩,
          ⟨some 10, none, .p .mov [.t 11]⟩])
        (.cond (.t 10)
          (.seq (.region [
            ⟨some 2, none, .p .mov [.c (.str [38])]⟩])
          .ret)
          (.seq (.region [
            ⟨some 13, none, .p (.bin .eql) [.t 3, .c (.str [85])]⟩,
            ⟨some 12, none, .p .mov [.t 13]⟩])
          (.cond (.t 12)
            (.seq (.region [
              ⟨some 2, none, .p .mov [.c (.str [82])]⟩])
            .ret)
            (.seq (.region [
              ⟨some 15, none, .p (.bin .eql) [.t 3, .c (.str [82])]⟩,
              ⟨some 14, none, .p .mov [.t 15]⟩])
            (.cond (.t 14)
              (.seq (.region [
                ⟨some 2, none, .p .mov [.c (.str [85])]⟩])
              .ret)
              .skip))))))))))))))
  (.seq (.region [
    ⟨some 16, none, .p .mov [.t 0]⟩,
    ⟨some 2, none, .p .mov [.t 16]⟩])
  .ret)))

/-- sortilege/nnf.node -/
def ir29 : IFunc where
  params := 2
  results := [.l 4 4 true]
  trunc := false
  body := (.seq (.region [
    ⟨some 4, none, .lnew 4 4 true (.c (.agg [.str [], .str [], .list true 4 [], .int .i64 0])) []⟩])
  (.seq (.region [
    ⟨some 5, none, .p .mov [.t 0]⟩,
    ⟨some 6, none, .p .mov [.t 1]⟩,
    ⟨some 7, none, .p (.build [.str [], .str [], .list true 4 [], .int .i64 0] [(0, 1, false), (2, 1, false)]) [.t 5, .t 6]⟩,
    ⟨none, none, .lstore 4 4 true (.t 7) []⟩])
  .ret))

/-- (*sortilege/nnf.maker).both -/
def ir30 : IFunc where
  params := 5
  results := [.l 10 4 true]
  trunc := false
  body := (.seq (.region [
    ⟨some 7, none, .p (.boxro 4 true) [.t 2]⟩,
    ⟨some 10, none, .lnew 10 4 true (.c (.agg [.str [], .str [], .list true 4 [], .int .i64 0])) []⟩])
  (.seq (.region [
    ⟨some 13, none, .p .mov [.t 0]⟩,
    ⟨some 14, none, .p (.fieldAddr 2) [.t 7]⟩,
    ⟨some 15, none, .p (.ld 1 false) [.t 14]⟩,
    ⟨some 16, none, .p (.idxAddr 4) [.t 15, .c (.int .i64 0)]⟩,
    ⟨some 17, none, .p (.ld 4 true) [.t 16]⟩,
    ⟨some 18, none, .p .mov [.t 3]⟩,
    ⟨some 19, none, .call 17 [.t 13, .t 17, .t 18]⟩,
    ⟨some 11, none, .lnew 11 4 true (.c (.agg [.str [], .str [], .list true 4 [], .int .i64 0])) []⟩,
    ⟨none, none, .lstore 11 4 true (.t 19) []⟩])
  (.seq (.region [
    ⟨some 20, none, .p .mov [.t 0]⟩,
    ⟨some 21, none, .p (.fieldAddr 2) [.t 7]⟩,
    ⟨some 22, none, .p (.ld 1 false) [.t 21]⟩,
    ⟨some 23, none, .p (.idxAddr 4) [.t 22, .c (.int .i64 1)]⟩,
    ⟨some 24, none, .p (.ld 4 true) [.t 23]⟩,
    ⟨some 25, none, .p .mov [.t 4]⟩,
    ⟨some 26, none, .call 17 [.t 20, .t 24, .t 25]⟩,
    ⟨some 12, none, .lnew 12 4 true (.c (.agg [.str [], .str [], .list true 4 [], .int .i64 0])) []⟩,
    ⟨none, none, .lstore 12 4 true (.t 26) []⟩])
  (.seq (.region [
    ⟨some 27, none, .p .mov [.t 1]⟩,
    ⟨some 28, none, .lload 11 4 true⟩,
    ⟨some 29, none, .lload 12 4 true⟩,
    ⟨some 30, none, .p (.mkList 4 true) [.t 28, .t 29]⟩,
    ⟨some 31, none, .call 29 [.t 27, .t 30]⟩,
    ⟨none, none, .lstore 10 4 true (.t 31) []⟩])
  .ret))))

/-- (*sortilege/nnf.maker).ever -/
def ir31 : IFunc where
  params := 3
  results := [.l 6 4 true]
  trunc := false
  body := (.seq (.region [
    ⟨some 4, none, .p (.boxro 4 true) [.t 1]⟩,
    ⟨some 6, none, .lnew 6 4 true (.c (.agg [.str [], .str [], .list true 4 [], .int .i64 0])) []⟩])
  (.seq (.region [
    ⟨some 7, none, .p .mov [.t 0]⟩,
    ⟨some 8, none, .call 27 [.t 7]⟩])
  (.seq (.seq (.region [
    ⟨some 9, none, .p (.fieldAddr 0) [.t 4]⟩,
    ⟨some 10, none, .p (.ld 1 false) [.t 9]⟩,
    ⟨some 11, none, .p (.bin .eql) [.t 10, .c (.str [70])]⟩,
    ⟨some 12, none, .p .mov [.t 2]⟩,
    ⟨some 13, none, .p (.eq true .b) [.t 11, .t 12]⟩])
  (.cond (.t 13)
    (.seq (.drawn [
      ⟨some 14, none, .call 33 [.c (.str [116, 114, 117, 101])]⟩,
      ⟨some 15, none, .p .mov [.t 0]⟩,
      ⟨some 16, none, .p (.fieldAddr 2) [.t 4]⟩,
      ⟨some 17, none, .p (.ld 1 false) [.t 16]⟩,
      ⟨some 18, none, .p (.idxAddr 4) [.t 17, .c (.int .i64 0)]⟩,
      ⟨some 19, none, .p (.ld 4 true) [.t 18]⟩,
      ⟨some 20, none, .p .mov [.t 2]⟩,
      ⟨some 21, none, .call 17 [.t 15, .t 19, .t 20]⟩,
      ⟨some 22, none, .p (.mkList 4 true) [.t 14, .t 21]⟩,
      ⟨some 23, none, .call 29 [.c (.str [85]), .t 22]⟩,
      ⟨none, none, .lstore 6 4 true (.t 23) []⟩] [])
    .ret)
    .skip))
  (.seq (.drawn [
    ⟨some 24, none, .call 33 [.c (.str [102, 97, 108, 115, 101])]⟩,
    ⟨some 25, none, .p .mov [.t 0]⟩,
    ⟨some 26, none, .p (.fieldAddr 2) [.t 4]⟩,
    ⟨some 27, none, .p (.ld 1 false) [.t 26]⟩,
    ⟨some 28, none, .p (.idxAddr 4) [.t 27, .c (.int .i64 0)]⟩,
    ⟨some 29, none, .p (.ld 4 true) [.t 28]⟩,
    ⟨some 30, none, .p .mov [.t 2]⟩,
    ⟨some 31, none, .call 17 [.t 25, .t 29, .t 30]⟩,
    ⟨some 32, none, .p (.mkList 4 true) [.t 24, .t 31]⟩,
    ⟨some 33, none, .call 29 [.c (.str [82]), .t 32]⟩,
    ⟨none, none, .lstore 6 4 true (.t 33) []⟩] [])
  .ret))))

/-- (*sortilege/nnf.maker).weak -/
def ir32 : IFunc where
  params := 3
  results := [.l 6 4 true]
  trunc := false
  body := (.seq (.region [
    ⟨some 4, none, .p (.boxro 4 true) [.t 1]⟩,
    ⟨some 6, none, .lnew 6 4 true (.c (.agg [.str [], .str [], .list true 4 [], .int .i64 0])) []⟩])
  (.seq (.region [
    ⟨some 10, none, .p .mov [.t 0]⟩,
    ⟨some 11, none, .call 27 [.t 10]⟩])
  (.seq (.region [
    ⟨some 7, none, .p .mov [.c (.str [82])]⟩,
    ⟨some 8, none, .p .mov [.c (.str [124])]⟩])
  (.join ⟨[0, 2, 4, 7, 8], [(6, 4, true)], [(6, 6)], []⟩ (.seq (.region [
    ⟨some 12, none, .p .mov [.t 2]⟩])
  (.cond (.t 12)
    (.region [
      ⟨some 7, none, .p .mov [.c (.str [85])]⟩,
      ⟨some 8, none, .p .mov [.c (.str [38])]⟩])
    .skip))
  (.seq (.region [
    ⟨some 13, none, .p .mov [.t 0]⟩,
    ⟨some 14, none, .p (.fieldAddr 2) [.t 4]⟩,
    ⟨some 15, none, .p (.ld 1 false) [.t 14]⟩,
    ⟨some 16, none, .p (.idxAddr 4) [.t 15, .c (.int .i64 1)]⟩,
    ⟨some 17, none, .p (.ld 4 true) [.t 16]⟩,
    ⟨some 18, none, .p .mov [.t 2]⟩,
    ⟨some 19, none, .call 17 [.t 13, .t 17, .t 18]⟩,
    ⟨some 9, none, .lnew 9 4 true (.c (.agg [.str [], .str [], .list true 4 [], .int .i64 0])) []⟩,
    ⟨none, none, .lstore 9 4 true (.t 19) []⟩])
  (.seq (.drawn [
    ⟨some 20, none, .p .mov [.t 7]⟩,
    ⟨some 21, none, .lload 9 4 true⟩,
    ⟨some 22, none, .p .mov [.t 0]⟩,
    ⟨some 23, none, .p .mov [.t 8]⟩,
    ⟨some 24, none, .p (.ld 4 true) [.t 4]⟩,
    ⟨some 25, none, .p .mov [.t 2]⟩,
    ⟨some 26, none, .p .mov [.t 2]⟩,
    ⟨some 27, none, .call 30 [.t 22, .t 23, .t 24, .t 25, .t 26]⟩,
    ⟨some 28, none, .p (.mkList 4 true) [.t 21, .t 27]⟩,
    ⟨some 29, none, .call 29 [.t 20, .t 28]⟩,
    ⟨none, none, .lstore 6 4 true (.t 29) []⟩] [])
  .ret))))))

/-- sortilege/nnf.plain -/
def ir33 : IFunc where
  params := 1
  results := [.l 2 4 true]
  trunc := false
  body := (.seq (.region [
    ⟨some 2, none, .lnew 2 4 true (.c (.agg [.str [], .str [], .list true 4 [], .int .i64 0])) []⟩])
  (.seq (.region [
    ⟨some 3, none, .p .mov [.t 0]⟩,
    ⟨some 4, none, .p (.build [.str [], .str [], .list true 4 [], .int .i64 0] [(0, 1, false)]) [.t 3]⟩,
    ⟨none, none, .lstore 2 4 true (.t 4) []⟩])
  .ret))

/-- sortilege/nnf.constant -/
def ir34 : IFunc where
  params := 1
  results := [.t 2]
  trunc := false
  body := (.seq (.region [
    ⟨some 1, none, .p (.boxro 4 true) [.t 0]⟩,
    ⟨some 2, none, .p .mov [.c (.bool false)]⟩])
  (.seq (.region [
    ⟨some 3, none, .p (.fieldAddr 0) [.t 1]⟩,
    ⟨some 4, none, .p (.ld 1 false) [.t 3]⟩,
    ⟨some 5, none, .p (.bin .eql) [.t 4, .c (.str [116, 114, 117, 101])]⟩,
    ⟨some 6, none, .p .mov [.t 5]⟩,
    ⟨some 7, some (6, false), .p (.fieldAddr 0) [.t 1]⟩,
    ⟨some 8, some (6, false), .p (.ld 1 false) [.t 7]⟩,
    ⟨some 9, some (6, false), .p (.bin .eql) [.t 8, .c (.str [102, 97, 108, 115, 101])]⟩,
    ⟨some 10, none, .p .pick [.t 6, .c (.bool true), .t 9]⟩,
    ⟨some 2, none, .p .mov [.t 10]⟩])
  .ret))

/-- sortilege/nnf.pair -/
def ir35 : IFunc where
  params := 3
  results := [.l 6 4 true]
  trunc := false
  body := (.seq (.region [
    ⟨some 3, none, .p (.boxro 4 true) [.t 0]⟩,
    ⟨some 4, none, .p (.boxro 4 true) [.t 1]⟩,
    ⟨some 5, none, .p (.boxro 4 true) [.t 2]⟩,
    ⟨some 6, none, .lnew 6 4 true (.c (.agg [.str [], .str [], .list true 4 [], .int .i64 0])) []⟩])
  (.seq (.region [
    ⟨some 7, none, .p .mov [.c (.str [116, 114, 117, 101])]⟩,
    ⟨some 8, none, .p .mov [.c (.str [102, 97, 108, 115, 101])]⟩])
  (.join ⟨[3, 4, 5], [(6, 4, true)], [(6, 6)], []⟩ (.seq (.region [
    ⟨some 9, none, .p (.fieldAddr 0) [.t 3]⟩,
    ⟨some 10, none, .p (.ld 1 false) [.t 9]⟩])
  (.block 0 (.join ⟨[3, 4, 5, 7], [(6, 4, true)], [(6, 6)], []⟩ (.block 4 (.seq (.block 3 (.join ⟨[3, 4, 5, 7, 8], [(6, 4, true)], [(6, 6)], []⟩ (.block 2 (.seq (.block 1 (.seq (.seq (.seq (.region [
    ⟨some 12, none, .p (.bin .eql) [.t 10, .c (.str [124])]⟩,
    ⟨some 11, none, .p .mov [.t 12]⟩])
  (.cond (.t 11)
    (.exit 1)
    .skip))
  (.seq (.seq (.region [
    ⟨some 14, none, .p (.bin .eql) [.t 10, .c (.str [38])]⟩,
    ⟨some 13, none, .p .mov [.t 14]⟩])
  (.cond (.t 13)
    (.exit 2)
    .skip))
  (.seq (.seq (.region [
    ⟨some 16, none, .p (.bin .eql) [.t 10, .c (.str [85])]⟩,
    ⟨some 15, none, .p .mov [.t 16]⟩])
  (.cond (.t 15)
    (.exit 3)
    .skip))
  (.seq (.region [
    ⟨some 18, none, .p (.bin .eql) [.t 10, .c (.str [82])]⟩,
    ⟨some 17, none, .p .mov [.t 18]⟩])
  (.cond (.t 17)
    (.exit 4)
    .skip)))))
  (.exit 0)))
  (.region [
    ⟨some 19, none, .p .mov [.t 8]⟩,
    ⟨some 20, none, .p .mov [.t 7]⟩,
    ⟨some 7, none, .p .mov [.t 19]⟩,
    ⟨some 8, none, .p .mov [.t 20]⟩])))
  (.seq (.block 5 (.seq (.region [
    ⟨some 22, none, .p (.fieldAddr 0) [.t 4]⟩,
    ⟨some 23, none, .p (.ld 1 false) [.t 22]⟩,
    ⟨some 24, none, .p .mov [.t 7]⟩,
    ⟨some 25, none, .p (.bin .eql) [.t 23, .t 24]⟩,
    ⟨some 21, none, .p .mov [.t 25]⟩])
  (.cond (.t 21)
    (.seq (.region [
      ⟨some 26, none, .p (.ld 4 true) [.t 5]⟩,
      ⟨none, none, .lstore 6 4 true (.t 26) []⟩])
    .ret)
    (.seq (.region [
      ⟨some 28, none, .p (.fieldAddr 0) [.t 5]⟩,
      ⟨some 29, none, .p (.ld 1 false) [.t 28]⟩,
      ⟨some 30, none, .p .mov [.t 7]⟩,
      ⟨some 31, none, .p (.bin .eql) [.t 29, .t 30]⟩,
      ⟨some 27, none, .p .mov [.t 31]⟩])
    (.cond (.t 27)
      (.seq (.region [
        ⟨some 32, none, .p (.ld 4 true) [.t 4]⟩,
        ⟨none, none, .lstore 6 4 true (.t 32) []⟩])
      .ret)
      (.seq (.region [
        ⟨some 34, none, .p (.fieldAddr 0) [.t 4]⟩,
        ⟨some 35, none, .p (.ld 1 false) [.t 34]⟩,
        ⟨some 36, none, .p .mov [.t 8]⟩,
        ⟨some 37, none, .p (.bin .eql) [.t 35, .t 36]⟩,
        ⟨some 38, none, .p .mov [.t 37]⟩,
        ⟨some 39, some (38, false), .p (.fieldAddr 0) [.t 5]⟩,
        ⟨some 40, some (38, false), .p (.ld 1 false) [.t 39]⟩,
        ⟨some 41, some (38, false), .p .mov [.t 8]⟩,
        ⟨some 42, some (38, false), .p (.bin .eql) [.t 40, .t 41]⟩,
        ⟨some 43, none, .p .pick [.t 38, .c (.bool true), .t 42]⟩,
        ⟨some 33, none, .p .mov [.t 43]⟩])
      (.cond (.t 33)
        (.seq (.region [
          ⟨some 44, none, .p .mov [.t 8]⟩,
          ⟨some 45, none, .call 33 [.t 44]⟩,
          ⟨none, none, .lstore 6 4 true (.t 45) []⟩])
        .ret)
        .skip)))))))
  (.exit 0))))
  (.region [
    ⟨some 7, none, .p .mov [.c (.str [102, 97, 108, 115, 101])]⟩])))
  (.seq (.seq (.region [
    ⟨some 46, none, .p (.ld 4 true) [.t 5]⟩,
    ⟨some 47, none, .call 34 [.t 46]⟩,
    ⟨some 48, none, .p .mov [.t 47]⟩,
    ⟨some 49, some (48, false), .p (.fieldAddr 0) [.t 4]⟩,
    ⟨some 50, some (48, false), .p (.ld 1 false) [.t 49]⟩,
    ⟨some 51, some (48, false), .p .mov [.t 7]⟩,
    ⟨some 52, some (48, false), .p (.bin .eql) [.t 50, .t 51]⟩,
    ⟨some 53, none, .p .pick [.t 48, .c (.bool true), .t 52]⟩])
  (.cond (.t 53)
    (.seq (.region [
      ⟨some 54, none, .p (.ld 4 true) [.t 5]⟩,
      ⟨none, none, .lstore 6 4 true (.t 54) []⟩])
    .ret)
    .skip))
  (.exit 0)))))
  (.seq (.seq (.region [
    ⟨some 55, none, .p (.ld 4 true) [.t 4]⟩,
    ⟨some 56, none, .p (.ld 4 true) [.t 5]⟩,
    ⟨some 57, none, .call 7 [.t 55, .t 56]⟩])
  (.cond (.t 57)
    (.seq (.region [
      ⟨some 58, none, .p (.ld 4 true) [.t 4]⟩,
      ⟨none, none, .lstore 6 4 true (.t 58) []⟩])
    .ret)
    .skip))
  (.seq (.region [
    ⟨some 59, none, .p (.ld 4 true) [.t 3]⟩,
    ⟨none, none, .lstore 6 4 true (.t 59) []⟩])
  .ret)))))

/-- (*sortilege/scan.Reader).Skip -/
def ir36 : IFunc where
  params := 2
  results := [.t 4]
  trunc := false
  body := (.seq (.region [
    ⟨some 4, none, .p .mov [.c (.bool false)]⟩])
  (.seq (.region [
    ⟨some 6, none, .p .mov [.t 0]⟩,
    ⟨some 7, none, .p .mov [.t 1]⟩,
    ⟨some 8, none, .call 44 [.t 6, .t 7]⟩,
    ⟨some 5, none, .p .mov [.t 8]⟩])
  (.seq (.seq (.region [
    ⟨some 9, none, .p .mov [.t 5]⟩])
  (.cond (.t 9)
    (.region [
      ⟨some 10, none, .p .mov [.t 0]⟩,
      ⟨some 11, none, .call 37 [.t 10]⟩])
    .skip))
  (.seq (.region [
    ⟨some 12, none, .p .mov [.t 5]⟩,
    ⟨some 4, none, .p .mov [.t 12]⟩])
  .ret))))

/-- (*sortilege/scan.Reader).Take -/
def ir37 : IFunc where
  params := 1
  results := [.l 2 3 true]
  trunc := false
  body := (.seq (.region [
    ⟨some 2, none, .lnew 2 3 true (.c (.agg [.int .i64 0, .str [], .int .i64 0])) []⟩])
  (.seq (.region [
    ⟨some 4, none, .p .mov [.t 0]⟩,
    ⟨some 5, none, .call 12 [.t 4]⟩,
    ⟨some 3, none, .lnew 3 3 true (.c (.agg [.int .i64 0, .str [], .int .i64 0])) []⟩,
    ⟨none, none, .lstore 3 3 true (.t 5) []⟩])
  (.seq (.seq (.region [
    ⟨some 6, none, .laddr 3 0⟩,
    ⟨some 7, none, .lload 6 1 false⟩,
    ⟨some 8, none, .p (.bin .neq) [.t 7, .c (.int .i64 0)]⟩])
  (.cond (.t 8)
    (.region [
      ⟨some 9, none, .p .mov [.t 0]⟩,
      ⟨some 10, none, .p .nilchk [.t 9]⟩,
      ⟨some 11, none, .p (.fieldAddr 1) [.t 10]⟩,
      ⟨some 12, none, .hload 1 false (.t 11)⟩,
      ⟨some 13, none, .p (.bin .add) [.t 12, .c (.int .i64 1)]⟩,
      ⟨some 14, none, .p .nilchk [.t 9]⟩,
      ⟨some 15, none, .p (.fieldAddr 1) [.t 14]⟩,
      ⟨none, none, .hstore 1 false (.t 15) (.t 13)⟩])
    .skip))
  (.seq (.region [
    ⟨some 16, none, .lload 3 3 true⟩,
    ⟨none, none, .lstore 2 3 true (.t 16) []⟩])
  .ret))))

/-- (*sortilege/scan.Reader).Want -/
def ir38 : IFunc where
  params := 2
  results := [.t 4]
  trunc := false
  body := (.seq (.region [
    ⟨some 4, none, .p .mov [.c (.nili)]⟩])
  (.seq (.seq (.region [
    ⟨some 5, none, .p .mov [.t 0]⟩,
    ⟨some 6, none, .p .mov [.t 1]⟩,
    ⟨some 7, none, .call 36 [.t 5, .t 6]⟩])
  (.cond (.t 7)
    (.seq (.region [
      ⟨some 4, none, .p .mov [.c (.nili)]⟩])
    .ret)
    .skip))
  (.seq (.region [
    ⟨some 8, none, .p .mov [.t 0]⟩,
    ⟨some 9, none, .call 45 [.t 8]⟩,
    ⟨some 4, none, .p .mov [.t 9]⟩])
  .ret)))

/-- sortilege/scan.Tokens -/
def ir40 : IFunc where
  params := 1
  results := [.t 2, .t 3]
  trunc := false
  body := (.seq (.region [
    ⟨some 2, none, .p .mov [.c (.list true 3 [])]⟩,
    ⟨some 3, none, .p .mov [.c (.nili)]⟩])
  (.seq (.seq (.region [
    ⟨some 9, none, .p .mov [.t 0]⟩,
    ⟨some 10, none, .p .lenS [.t 9]⟩,
    ⟨some 11, none, .p (.bin .gtr) [.t 10, .c (.int .i64 65536)]⟩])
  (.cond (.t 11)
    (.seq (.region [
      ⟨some 12, none, .p (.iface 0) [.c (.int .i64 2)]⟩,
      ⟨some 2, none, .p .mov [.c (.list true 3 [])]⟩,
      ⟨some 3, none, .p .mov [.t 12]⟩])
    .ret)
    .skip))
  (.seq (.region [
    ⟨some 4, none, .onil 3⟩])
  (.seq (.region [
    ⟨some 13, none, .p .mov [.t 0]⟩,
    ⟨some 14, none, .call 46 [.t 13, .c (.int .i64 0)]⟩,
    ⟨some 5, none, .p .mov [.t 14]⟩])
  (.seq (.block 0 (.loop ⟨[0, 4, 5], [], [], [.t 4]⟩ (.seq (.seq (.region [
    ⟨some 15, none, .p .mov [.t 5]⟩,
    ⟨some 16, none, .p .mov [.t 0]⟩,
    ⟨some 17, none, .p .lenS [.t 16]⟩,
    ⟨some 18, none, .p (.bin .lss) [.t 15, .t 17]⟩])
  (.cond (.t 18)
    .skip
    (.exit 0)))
  (.block 1 (.seq (.region [
    ⟨some 20, none, .p .mov [.t 0]⟩,
    ⟨some 21, none, .p .mov [.t 5]⟩,
    ⟨some 22, none, .call 47 [.t 20, .t 21]⟩,
    ⟨some 19, none, .p .mov [.t 22]⟩,
    ⟨some 23, none, .p (.extract 0) [.t 19]⟩,
    ⟨some 24, none, .p (.extract 1) [.t 19]⟩,
    ⟨some 25, none, .p (.extract 2) [.t 19]⟩,
    ⟨some 6, none, .lnew 6 3 true (.c (.agg [.int .i64 0, .str [], .int .i64 0])) []⟩,
    ⟨none, none, .lstore 6 3 true (.t 23) []⟩,
    ⟨some 7, none, .p .mov [.t 24]⟩,
    ⟨some 8, none, .p .mov [.t 25]⟩])
  (.seq (.seq (.region [
    ⟨some 26, none, .p .mov [.t 8]⟩,
    ⟨some 27, none, .p (.eq true .i) [.t 26, .c (.nili)]⟩])
  (.cond (.t 27)
    (.seq (.region [
      ⟨some 28, none, .p .mov [.t 8]⟩,
      ⟨some 2, none, .p .mov [.c (.list true 3 [])]⟩,
      ⟨some 3, none, .p .mov [.t 28]⟩])
    .ret)
    .skip))
  (.seq (.region [
    ⟨some 29, none, .tmov 4⟩,
    ⟨some 30, none, .lload 6 3 true⟩,
    ⟨some 31, none, .p (.mkList 3 true) [.t 30]⟩,
    ⟨some 32, none, .app 3 32 29 (.t 31)⟩,
    ⟨some 4, none, .tmov 32⟩])
  (.seq (.region [
    ⟨some 33, none, .p .mov [.t 5]⟩,
    ⟨some 34, none, .p .mov [.t 7]⟩,
    ⟨some 35, none, .p (.bin .add) [.t 33, .t 34]⟩,
    ⟨some 5, none, .p .mov [.t 35]⟩])
  (.region [
    ⟨some 36, none, .p .mov [.t 5]⟩,
    ⟨some 37, none, .p .mov [.t 0]⟩,
    ⟨some 38, none, .p .mov [.t 5]⟩,
    ⟨some 39, none, .call 46 [.t 37, .t 38]⟩,
    ⟨some 40, none, .p (.bin .add) [.t 36, .t 39]⟩,
    ⟨some 5, none, .p .mov [.t 40]⟩])))))))))
  (.seq (.region [
    ⟨some 41, none, .tmov 4⟩,
    ⟨some 42, none, .p .mov [.t 0]⟩,
    ⟨some 43, none, .p .lenS [.t 42]⟩,
    ⟨some 44, none, .p (.build [.int .i64 0, .str [], .int .i64 0] [(2, 1, false)]) [.t 43]⟩,
    ⟨some 45, none, .p (.mkList 3 true) [.t 44]⟩,
    ⟨some 46, none, .app 3 32 41 (.t 45)⟩,
    ⟨some 2, none, .tmov 46⟩,
    ⟨some 3, none, .p .mov [.c (.nili)]⟩])
  .ret))))))

/-- sortilege/prop.two -/
def ir41 : IFunc where
  params := 3
  results := [.l 6 4 true]
  trunc := false
  body := (.seq (.region [
    ⟨some 4, none, .p (.boxro 4 true) [.t 1]⟩,
    ⟨some 5, none, .p (.boxro 4 true) [.t 2]⟩,
    ⟨some 6, none, .lnew 6 4 true (.c (.agg [.str [], .str [], .list true 4 [], .int .i64 0])) []⟩])
  (.seq (.region [
    ⟨some 7, none, .p .mov [.t 0]⟩,
    ⟨some 8, none, .p (.ld 4 true) [.t 4]⟩,
    ⟨some 9, none, .p (.ld 4 true) [.t 5]⟩,
    ⟨some 10, none, .p (.mkList 4 true) [.t 8, .t 9]⟩,
    ⟨some 11, none, .p (.fieldAddr 3) [.t 4]⟩,
    ⟨some 12, none, .p (.ld 1 false) [.t 11]⟩,
    ⟨some 13, none, .p (.build [.str [], .str [], .list true 4 [], .int .i64 0] [(0, 1, false), (2, 1, false), (3, 1, false)]) [.t 7, .t 10, .t 12]⟩,
    ⟨none, none, .lstore 6 4 true (.t 13) []⟩])
  .ret))

/-- (*sortilege/prop.parser).single -/
def ir43 : IFunc where
  params := 2
  results := [.l 4 4 true, .t 5]
  trunc := false
  body := (.seq (.region [
    ⟨some 4, none, .lnew 4 4 true (.c (.agg [.str [], .str [], .list true 4 [], .int .i64 0])) []⟩,
    ⟨some 5, none, .p .mov [.c (.nili)]⟩])
  (.seq (.seq (.region [
    ⟨some 13, none, .p .mov [.t 1]⟩,
    ⟨some 14, none, .p .mov [.t 0]⟩,
    ⟨some 15, none, .p .nilchk [.t 14]⟩,
    ⟨some 16, none, .p (.fieldAddr 1) [.t 15]⟩,
    ⟨some 17, none, .hload 1 false (.t 16)⟩,
    ⟨some 18, none, .p (.bin .gtr) [.t 13, .t 17]⟩])
  (.cond (.t 18)
    (.seq (.region [
      ⟨some 19, none, .p (.build [.str [], .str [], .list true 4 [], .int .i64 0] []) []⟩,
      ⟨some 20, none, .p .mov [.t 0]⟩,
      ⟨some 21, none, .p (.iface 0) [.c (.int .i64 21)]⟩,
      ⟨some 22, none, .call 13 [.t 20, .t 21]⟩,
      ⟨none, none, .lstore 4 4 true (.t 19) []⟩,
      ⟨some 5, none, .p .mov [.t 22]⟩])
    .ret)
    .skip))
  (.seq (.region [
    ⟨some 23, none, .p .mov [.t 0]⟩,
    ⟨some 24, none, .p .nilchk [.t 23]⟩,
    ⟨some 25, none, .p (.fieldAddr 0) [.t 24]⟩,
    ⟨some 26, none, .hload 1 false (.t 25)⟩,
    ⟨some 27, none, .call 12 [.t 26]⟩,
    ⟨some 6, none, .lnew 6 3 true (.c (.agg [.int .i64 0, .str [], .int .i64 0])) []⟩,
    ⟨none, none, .lstore 6 3 true (.t 27) []⟩])
  (.seq (.block 0 (.seq (.region [
    ⟨some 29, none, .laddr 6 0⟩,
    ⟨some 30, none, .lload 29 1 false⟩,
    ⟨some 31, none, .p (.bin .eql) [.t 30, .c (.int .i64 3)]⟩,
    ⟨some 28, none, .p .mov [.t 31]⟩])
  (.cond (.t 28)
    (.seq (.region [
      ⟨some 32, none, .p .mov [.t 0]⟩,
      ⟨some 33, none, .p .nilchk [.t 32]⟩,
      ⟨some 34, none, .p (.fieldAddr 0) [.t 33]⟩,
      ⟨some 35, none, .hload 1 false (.t 34)⟩,
      ⟨some 36, none, .call 37 [.t 35]⟩])
    (.seq (.region [
      ⟨some 37, none, .laddr 6 1⟩,
      ⟨some 38, none, .lload 37 1 false⟩,
      ⟨some 39, none, .laddr 6 2⟩,
      ⟨some 40, none, .lload 39 1 false⟩,
      ⟨some 41, none, .p (.build [.str [], .str [], .list true 4 [], .int .i64 0] [(0, 1, false), (1, 1, false), (3, 1, false)]) [.c (.str [108, 97, 98, 101, 108]), .t 38, .t 40]⟩,
      ⟨none, none, .lstore 4 4 true (.t 41) []⟩,
      ⟨some 5, none, .p .mov [.c (.nili)]⟩])
    .ret))
    (.join ⟨[0, 1, 42], [(4, 4, true), (6, 3, true)], [(4, 4), (6, 6)], []⟩ (.seq (.region [
      ⟨some 43, none, .p .mov [.t 0]⟩,
      ⟨some 44, none, .p .nilchk [.t 43]⟩,
      ⟨some 45, none, .p (.fieldAddr 0) [.t 44]⟩,
      ⟨some 46, none, .hload 1 false (.t 45)⟩,
      ⟨some 47, none, .call 44 [.t 46, .c (.str [116, 114, 117, 101])]⟩,
      ⟨some 42, none, .p .mov [.t 47]⟩])
    (.cond (.t 42)
      .skip
      (.region [
        ⟨some 48, none, .p .mov [.t 0]⟩,
        ⟨some 49, none, .p .nilchk [.t 48]⟩,
        ⟨some 50, none, .p (.fieldAddr 0) [.t 49]⟩,
        ⟨some 51, none, .hload 1 false (.t 50)⟩,
        ⟨some 52, none, .call 44 [.t 51, .c (.str [102, 97, 108, 115, 101])]⟩,
        ⟨some 42, none, .p .mov [.t 52]⟩])))
    (.cond (.t 42)
      (.seq (.region [
        ⟨some 53, none, .p .mov [.t 0]⟩,
        ⟨some 54, none, .p .nilchk [.t 53]⟩,
        ⟨some 55, none, .p (.fieldAddr 0) [.t 54]⟩,
        ⟨some 56, none, .hload 1 false (.t 55)⟩,
        ⟨some 57, none, .call 37 [.t 56]⟩])
      (.seq (.region [
        ⟨some 58, none, .laddr 6 1⟩,
        ⟨some 59, none, .lload 58 1 false⟩,
        ⟨some 60, none, .laddr 6 2⟩,
        ⟨some 61, none, .lload 60 1 false⟩,
        ⟨some 62, none, .p (.build [.str [], .str [], .list true 4 [], .int .i64 0] [(0, 1, false), (3, 1, false)]) [.t 59, .t 61]⟩,
        ⟨none, none, .lstore 4 4 true (.t 62) []⟩,
        ⟨some 5, none, .p .mov [.c (.nili)]⟩])
      .ret))
      (.join ⟨[0, 1, 63], [(4, 4, true), (6, 3, true)], [(4, 4), (6, 6)], []⟩ (.seq (.region [
        ⟨some 64, none, .p .mov [.t 0]⟩,
        ⟨some 65, none, .p .nilchk [.t 64]⟩,
        ⟨some 66, none, .p (.fieldAddr 0) [.t 65]⟩,
        ⟨some 67, none, .hload 1 false (.t 66)⟩,
        ⟨some 68, none, .call 44 [.t 67, .c (.str [33])]⟩,
        ⟨some 63, none, .p .mov [.t 68]⟩])
      (.cond (.t 63)
        .skip
        (.seq (.region [
          ⟨some 69, none, .p .mov [.t 0]⟩,
          ⟨some 70, none, .p .nilchk [.t 69]⟩,
          ⟨some 71, none, .p (.fieldAddr 0) [.t 70]⟩,
          ⟨some 72, none, .hload 1 false (.t 71)⟩,
          ⟨some 73, none, .call 44 [.t 72, .c (.str [88])]⟩,
          ⟨some 63, none, .p .mov [.t 73]⟩])
        (.cond (.t 63)
          .skip
          (.seq (.region [
            ⟨some 74, none, .p .mov [.t 0]⟩,
            ⟨some 75, none, .p .nilchk [.t 74]⟩,
            ⟨some 76, none, .p (.fieldAddr 0) [.t 75]⟩,
            ⟨some 77, none, .hload 1 false (.t 76)⟩,
            ⟨some 78, none, .call 44 [.t 77, .c (.str [70])]⟩,
            ⟨some 63, none, .p .mov [.t 78]⟩])
          (.cond (.t 63)
            .skip
            (.region [
              ⟨some 79, none, .p .mov [.t 0]⟩,
              ⟨some 80, none, .p .nilchk [.t 79]⟩,
              ⟨some 81, none, .p (.fieldAddr 0) [.t 80]⟩,
              ⟨some 82, none, .hload 1 false (.t 81)⟩,
              ⟨some 83, none, .call 44 [.t 82, .c (.str [71])]⟩,
              ⟨some 63, none, .p .mov [.t 83]⟩])))))))
      (.cond (.t 63)
        (.seq (.region [
          ⟨some 84, none, .p .mov [.t 0]⟩,
          ⟨some 85, none, .p .nilchk [.t 84]⟩,
          ⟨some 86, none, .p (.fieldAddr 0) [.t 85]⟩,
          ⟨some 87, none, .hload 1 false (.t 86)⟩,
          ⟨some 88, none, .call 37 [.t 87]⟩])
        (.seq (.region [
          ⟨some 90, none, .p .mov [.t 0]⟩,
          ⟨some 91, none, .p .mov [.t 1]⟩,
          ⟨some 92, none, .p (.bin .add) [.t 91, .c (.int .i64 1)]⟩,
          ⟨some 93, none, .call 43 [.t 90, .t 92]⟩,
          ⟨some 89, none, .p .mov [.t 93]⟩,
          ⟨some 94, none, .p (.extract 0) [.t 89]⟩,
          ⟨some 95, none, .p (.extract 1) [.t 89]⟩,
          ⟨some 7, none, .lnew 7 4 true (.c (.agg [.str [], .str [], .list true 4 [], .int .i64 0])) []⟩,
          ⟨none, none, .lstore 7 4 true (.t 94) []⟩,
          ⟨some 8, none, .p .mov [.t 95]⟩])
        (.seq (.seq (.region [
          ⟨some 96, none, .p .mov [.t 8]⟩,
          ⟨some 97, none, .p (.eq true .i) [.t 96, .c (.nili)]⟩])
        (.cond (.t 97)
          (.seq (.region [
            ⟨some 98, none, .p (.build [.str [], .str [], .list true 4 [], .int .i64 0] []) []⟩,
            ⟨some 99, none, .p .mov [.t 8]⟩,
            ⟨none, none, .lstore 4 4 true (.t 98) []⟩,
            ⟨some 5, none, .p .mov [.t 99]⟩])
          .ret)
          .skip))
        (.seq (.region [
          ⟨some 100, none, .laddr 6 1⟩,
          ⟨some 101, none, .lload 100 1 false⟩,
          ⟨some 102, none, .lload 7 4 true⟩,
          ⟨some 103, none, .p (.mkList 4 true) [.t 102]⟩,
          ⟨some 104, none, .laddr 6 2⟩,
          ⟨some 105, none, .lload 104 1 false⟩,
          ⟨some 106, none, .p (.build [.str [], .str [], .list true 4 [], .int .i64 0] [(0, 1, false), (2, 1, false), (3, 1, false)]) [.t 101, .t 103, .t 105]⟩,
          ⟨none, none, .lstore 4 4 true (.t 106) []⟩,
          ⟨some 5, none, .p .mov [.c (.nili)]⟩])
        .ret))))
        .skip)))))))
  (.seq (.seq (.region [
    ⟨some 107, none, .p .mov [.t 0]⟩,
    ⟨some 108, none, .p .nilchk [.t 107]⟩,
    ⟨some 109, none, .p (.fieldAddr 0) [.t 108]⟩,
    ⟨some 110, none, .hload 1 false (.t 109)⟩,
    ⟨some 111, none, .call 38 [.t 110, .c (.str [40])]⟩,
    ⟨some 9, none, .p .mov [.t 111]⟩])
  (.seq (.region [
    ⟨some 112, none, .p .mov [.t 9]⟩,
    ⟨some 113, none, .p (.eq true .i) [.t 112, .c (.nili)]⟩])
  (.cond (.t 113)
    (.seq (.region [
      ⟨some 114, none, .p (.build [.str [], .str [], .list true 4 [], .int .i64 0] []) []⟩,
      ⟨some 115, none, .p .mov [.t 9]⟩,
      ⟨none, none, .lstore 4 4 true (.t 114) []⟩,
      ⟨some 5, none, .p .mov [.t 115]⟩])
    .ret)
    .skip)))
  (.seq (.region [
    ⟨some 117, none, .p .mov [.t 0]⟩,
    ⟨some 118, none, .p .mov [.t 1]⟩,
    ⟨some 119, none, .p (.bin .add) [.t 118, .c (.int .i64 1)]⟩,
    ⟨some 120, none, .call 11 [.t 117, .t 119]⟩,
    ⟨some 116, none, .p .mov [.t 120]⟩,
    ⟨some 121, none, .p (.extract 0) [.t 116]⟩,
    ⟨some 122, none, .p (.extract 1) [.t 116]⟩,
    ⟨some 10, none, .lnew 10 4 true (.c (.agg [.str [], .str [], .list true 4 [], .int .i64 0])) []⟩,
    ⟨none, none, .lstore 10 4 true (.t 121) []⟩,
    ⟨some 11, none, .p .mov [.t 122]⟩])
  (.seq (.seq (.region [
    ⟨some 123, none, .p .mov [.t 11]⟩,
    ⟨some 124, none, .p (.eq true .i) [.t 123, .c (.nili)]⟩])
  (.cond (.t 124)
    (.seq (.region [
      ⟨some 125, none, .p (.build [.str [], .str [], .list true 4 [], .int .i64 0] []) []⟩,
      ⟨some 126, none, .p .mov [.t 11]⟩,
      ⟨none, none, .lstore 4 4 true (.t 125) []⟩,
      ⟨some 5, none, .p .mov [.t 126]⟩])
    .ret)
    .skip))
  (.seq (.seq (.region [
    ⟨some 127, none, .p .mov [.t 0]⟩,
    ⟨some 128, none, .p .nilchk [.t 127]⟩,
    ⟨some 129, none, .p (.fieldAddr 0) [.t 128]⟩,
    ⟨some 130, none, .hload 1 false (.t 129)⟩,
    ⟨some 131, none, .call 38 [.t 130, .c (.str [41])]⟩,
    ⟨some 12, none, .p .mov [.t 131]⟩])
  (.seq (.region [
    ⟨some 132, none, .p .mov [.t 12]⟩,
    ⟨some 133, none, .p (.eq true .i) [.t 132, .c (.nili)]⟩])
  (.cond (.t 133)
    (.seq (.region [
      ⟨some 134, none, .p (.build [.str [], .str [], .list true 4 [], .int .i64 0] []) []⟩,
      ⟨some 135, none, .p .mov [.t 12]⟩,
      ⟨none, none, .lstore 4 4 true (.t 134) []⟩,
      ⟨some 5, none, .p .mov [.t 135]⟩])
    .ret)
    .skip)))
  (.seq (.region [
    ⟨some 136, none, .laddr 6 2⟩,
    ⟨some 137, none, .lload 136 1 false⟩,
    ⟨some 138, none, .laddr 10 3⟩,
    ⟨none, none, .lstore 138 1 false (.t 137) []⟩])
  (.seq (.region [
    ⟨some 139, none, .lload 10 4 true⟩,
    ⟨none, none, .lstore 4 4 true (.t 139) []⟩,
    ⟨some 5, none, .p .mov [.c (.nili)]⟩])
  .ret))))))))))

/-- (*sortilege/scan.Reader).Is -/
def ir44 : IFunc where
  params := 2
  results := [.t 4]
  trunc := false
  body := (.seq (.region [
    ⟨some 4, none, .p .mov [.c (.bool false)]⟩])
  (.seq (.region [
    ⟨some 6, none, .p .mov [.t 0]⟩,
    ⟨some 7, none, .call 12 [.t 6]⟩,
    ⟨some 5, none, .lnew 5 3 true (.c (.agg [.int .i64 0, .str [], .int .i64 0])) []⟩,
    ⟨none, none, .lstore 5 3 true (.t 7) []⟩])
  (.seq (.region [
    ⟨some 8, none, .laddr 5 0⟩,
    ⟨some 9, none, .lload 8 1 false⟩,
    ⟨some 10, none, .p (.bin .eql) [.t 9, .c (.int .i64 1)]⟩,
    ⟨some 11, none, .p .mov [.t 10]⟩,
    ⟨some 12, some (11, false), .laddr 5 0⟩,
    ⟨some 13, some (11, false), .lload 12 1 false⟩,
    ⟨some 14, some (11, false), .p (.bin .eql) [.t 13, .c (.int .i64 4)]⟩,
    ⟨some 15, none, .p .pick [.t 11, .c (.bool true), .t 14]⟩,
    ⟨some 16, none, .p .mov [.t 15]⟩,
    ⟨some 17, some (16, true), .laddr 5 1⟩,
    ⟨some 18, some (16, true), .lload 17 1 false⟩,
    ⟨some 19, some (16, true), .p .mov [.t 1]⟩,
    ⟨some 20, some (16, true), .p (.bin .eql) [.t 18, .t 19]⟩,
    ⟨some 21, none, .p .pick [.t 16, .t 20, .c (.bool false)]⟩,
    ⟨some 4, none, .p .mov [.t 21]⟩])
  .ret)))

/-- (*sortilege/scan.Reader).wrong -/
def ir45 : IFunc where
  params := 1
  results := [.t 2]
  trunc := false
  body := (.seq (.region [
    ⟨some 2, none, .p .mov [.c (.nili)]⟩])
  (.seq (.seq (.region [
    ⟨some 3, none, .p .mov [.t 0]⟩,
    ⟨some 4, none, .p (.eq false .p) [.t 3, .c (.nilp)]⟩])
  (.cond (.t 4)
    (.seq (.region [
      ⟨some 5, none, .p (.iface 0) [.c (.int .i64 3)]⟩,
      ⟨some 2, none, .p .mov [.t 5]⟩])
    .ret)
    .skip))
  (.seq (.region [
    ⟨some 6, none, .p .mov [.t 0]⟩,
    ⟨some 7, none, .call 12 [.t 6]⟩,
    ⟨some 8, none, .p (.field 2 1 false) [.t 7]⟩,
    ⟨some 9, none, .p (.iface 0) [.c (.int .i64 20)]⟩,
    ⟨some 10, none, .call 48 [.t 8, .t 9]⟩,
    ⟨some 2, none, .p .mov [.t 10]⟩])
  .ret)))

/-- sortilege/scan.blank -/
def ir46 : IFunc where
  params := 2
  results := [.t 4]
  trunc := false
  body := (.seq (.region [
    ⟨some 4, none, .p .mov [.c (.int .i64 0)]⟩])
  (.seq (.region [
    ⟨some 9, none, .p .mov [.t 1]⟩,
    ⟨some 5, none, .p .mov [.t 9]⟩])
  (.join ⟨[1, 5], [], [], []⟩ (.block 0 (.loop ⟨[0, 1, 5], [], [], []⟩ (.seq (.seq (.region [
    ⟨some 10, none, .p .mov [.t 5]⟩,
    ⟨some 11, none, .p .mov [.t 0]⟩,
    ⟨some 12, none, .p .lenS [.t 11]⟩,
    ⟨some 13, none, .p (.bin .lss) [.t 10, .t 12]⟩])
  (.cond (.t 13)
    .skip
    (.exit 0)))
  (.block 1 (.seq (.block 2 (.join ⟨[0, 1, 5, 14], [], [], []⟩ (.seq (.region [
    ⟨some 15, none, .p .mov [.t 0]⟩,
    ⟨some 16, none, .p .mov [.t 5]⟩,
    ⟨some 17, none, .p .idxStr [.t 15, .t 16]⟩,
    ⟨some 18, none, .p (.bin .eql) [.t 17, .c (.int .u8 32)]⟩,
    ⟨some 14, none, .p .mov [.t 18]⟩])
  (.cond (.t 14)
    .skip
    (.seq (.region [
      ⟨some 19, none, .p .mov [.t 0]⟩,
      ⟨some 20, none, .p .mov [.t 5]⟩,
      ⟨some 21, none, .p .idxStr [.t 19, .t 20]⟩,
      ⟨some 22, none, .p (.bin .eql) [.t 21, .c (.int .u8 9)]⟩,
      ⟨some 14, none, .p .mov [.t 22]⟩])
    (.cond (.t 14)
      .skip
      (.seq (.region [
        ⟨some 23, none, .p .mov [.t 0]⟩,
        ⟨some 24, none, .p .mov [.t 5]⟩,
        ⟨some 25, none, .p .idxStr [.t 23, .t 24]⟩,
        ⟨some 26, none, .p (.bin .eql) [.t 25, .c (.int .u8 10)]⟩,
        ⟨some 14, none, .p .mov [.t 26]⟩])
      (.cond (.t 14)
        .skip
        (.region [
          ⟨some 27, none, .p .mov [.t 0]⟩,
          ⟨some 28, none, .p .mov [.t 5]⟩,
          ⟨some 29, none, .p .idxStr [.t 27, .t 28]⟩,
          ⟨some 30, none, .p (.bin .eql) [.t 29, .c (.int .u8 13)]⟩,
          ⟨some 14, none, .p .mov [.t 30]⟩])))))))
  (.cond (.t 14)
    (.seq (.region [
      ⟨some 31, none, .p .mov [.t 5]⟩,
      ⟨some 32, none, .p (.bin .add) [.t 31, .c (.int .i64 1)]⟩,
      ⟨some 5, none, .p .mov [.t 32]⟩])
    (.exit 1))
    (.seq (.region [
      ⟨some 34, none, .p .mov [.t 0]⟩,
      ⟨some 35, none, .p .mov [.t 5]⟩,
      ⟨some 36, none, .p (.sliceS true false) [.t 34, .t 35]⟩,
      ⟨some 37, none, .call 49 [.t 36, .c (.str [47, 47])]⟩,
      ⟨some 33, none, .p .mov [.t 37]⟩])
    (.cond (.t 33)
      (.seq (.region [
        ⟨some 39, none, .p .mov [.t 0]⟩,
        ⟨some 40, none, .p .mov [.t 5]⟩,
        ⟨some 41, none, .p (.sliceS true false) [.t 39, .t 40]⟩,
        ⟨some 42, none, .call 50 [.t 41, .c (.str [10])]⟩,
        ⟨some 38, none, .p .mov [.t 42]⟩,
        ⟨some 43, none, .p (.extract 0) [.t 38]⟩,
        ⟨some 44, none, .p (.extract 1) [.t 38]⟩,
        ⟨some 45, none, .p (.extract 2) [.t 38]⟩,
        ⟨some 6, none, .p .mov [.t 43]⟩,
        ⟨some 7, none, .p .mov [.t 44]⟩,
        ⟨some 8, none, .p .mov [.t 45]⟩])
      (.seq (.region [
        ⟨some 46, none, .p .mov [.t 5]⟩,
        ⟨some 47, none, .p .mov [.t 6]⟩,
        ⟨some 48, none, .p .lenS [.t 47]⟩,
        ⟨some 49, none, .p (.bin .add) [.t 46, .t 48]⟩,
        ⟨some 5, none, .p .mov [.t 49]⟩])
      (.exit 1)))
      .skip)))))
  (.exit 0))))))
  (.seq (.region [
    ⟨some 50, none, .p .mov [.t 5]⟩,
    ⟨some 51, none, .p .mov [.t 1]⟩,
    ⟨some 52, none, .p (.bin .sub) [.t 50, .t 51]⟩,
    ⟨some 4, none, .p .mov [.t 52]⟩])
  .ret))))

/-- sortilege/scan.one -/
def ir47 : IFunc where
  params := 2
  results := [.l 4 3 true, .t 5, .t 6]
  trunc := false
  body := (.seq (.region [
    ⟨some 4, none, .lnew 4 3 true (.c (.agg [.int .i64 0, .str [], .int .i64 0])) []⟩,
    ⟨some 5, none, .p .mov [.c (.int .i64 0)]⟩,
    ⟨some 6, none, .p .mov [.c (.nili)]⟩])
  (.seq (.region [
    ⟨some 11, none, .p .mov [.t 0]⟩,
    ⟨some 12, none, .p .mov [.t 1]⟩,
    ⟨some 13, none, .p .idxStr [.t 11, .t 12]⟩,
    ⟨some 14, none, .call 51 [.t 13]⟩,
    ⟨some 15, none, .p .mov [.t 1]⟩,
    ⟨some 16, none, .p (.build [.int .i64 0, .str [], .int .i64 0] [(0, 1, false), (2, 1, false)]) [.t 14, .t 15]⟩,
    ⟨some 7, none, .lnew 7 3 true (.c (.agg [.int .i64 0, .str [], .int .i64 0])) []⟩,
    ⟨none, none, .lstore 7 3 true (.t 16) []⟩])
  (.seq (.region [
    ⟨some 8, none, .p .mov [.c (.int .i64 0)]⟩])
  (.join ⟨[0, 1, 8], [(4, 3, true), (7, 3, true)], [(4, 4), (7, 7)], []⟩ (.seq (.region [
    ⟨some 17, none, .laddr 7 0⟩,
    ⟨some 18, none, .lload 17 1 false⟩])
  (.block 0 (.seq (.region [
    ⟨some 20, none, .p (.bin .eql) [.t 18, .c (.int .i64 1)]⟩,
    ⟨some 19, none, .p .mov [.t 20]⟩])
  (.cond (.t 19)
    (.region [
      ⟨some 21, none, .p .mov [.t 0]⟩,
      ⟨some 22, none, .p .mov [.t 1]⟩,
      ⟨some 23, none, .call 52 [.t 21, .t 22, .c (.func 53 [] [])]⟩,
      ⟨some 8, none, .p .mov [.t 23]⟩])
    (.seq (.region [
      ⟨some 25, none, .p (.bin .eql) [.t 18, .c (.int .i64 2)]⟩,
      ⟨some 24, none, .p .mov [.t 25]⟩])
    (.cond (.t 24)
      (.seq (.region [
        ⟨some 26, none, .p .mov [.t 0]⟩,
        ⟨some 27, none, .p .mov [.t 1]⟩,
        ⟨some 28, none, .call 52 [.t 26, .t 27, .c (.func 54 [] [])]⟩,
        ⟨some 8, none, .p .mov [.t 28]⟩])
      (.seq (.region [
        ⟨some 30, none, .p .mov [.t 0]⟩,
        ⟨some 31, none, .p .mov [.t 1]⟩,
        ⟨some 32, none, .p .mov [.t 1]⟩,
        ⟨some 33, none, .p .mov [.t 8]⟩,
        ⟨some 34, none, .p (.bin .add) [.t 32, .t 33]⟩,
        ⟨some 35, none, .p (.sliceS true true) [.t 30, .t 31, .t 34]⟩,
        ⟨some 36, none, .call 55 [.t 35]⟩,
        ⟨some 29, none, .p .mov [.t 36]⟩,
        ⟨some 37, none, .p (.extract 0) [.t 29]⟩,
        ⟨some 38, none, .p (.extract 1) [.t 29]⟩,
        ⟨some 9, none, .p .mov [.t 37]⟩,
        ⟨some 10, none, .p .mov [.t 38]⟩])
      (.seq (.region [
        ⟨some 39, none, .p .mov [.t 10]⟩,
        ⟨some 40, none, .p (.un .not) [.t 39]⟩])
      (.cond (.t 40)
        (.seq (.region [
          ⟨some 41, none, .p (.build [.int .i64 0, .str [], .int .i64 0] []) []⟩,
          ⟨some 42, none, .p .mov [.t 1]⟩,
          ⟨some 43, none, .p (.iface 0) [.c (.int .i64 10)]⟩,
          ⟨some 44, none, .call 48 [.t 42, .t 43]⟩,
          ⟨none, none, .lstore 4 3 true (.t 41) []⟩,
          ⟨some 5, none, .p .mov [.c (.int .i64 0)]⟩,
          ⟨some 6, none, .p .mov [.t 44]⟩])
        .ret)
        .skip))))
      (.seq (.region [
        ⟨some 46, none, .p (.bin .eql) [.t 18, .c (.int .i64 3)]⟩,
        ⟨some 45, none, .p .mov [.t 46]⟩])
      (.cond (.t 45)
        (.seq (.region [
          ⟨some 47, none, .p .mov [.t 0]⟩,
          ⟨some 48, none, .p .mov [.t 1]⟩,
          ⟨some 49, none, .p (.sliceS true false) [.t 47, .t 48]⟩,
          ⟨some 50, none, .call 56 [.t 49]⟩,
          ⟨some 8, none, .p .mov [.t 50]⟩])
        (.seq (.region [
          ⟨some 51, none, .p .mov [.t 8]⟩,
          ⟨some 52, none, .p (.bin .gtr) [.t 51, .c (.int .i64 0)]⟩])
        (.cond (.t 52)
          (.seq (.region [
            ⟨some 53, none, .p .mov [.t 0]⟩,
            ⟨some 54, none, .p .mov [.t 1]⟩,
            ⟨some 55, none, .p (.bin .add) [.t 54, .c (.int .i64 1)]⟩,
            ⟨some 56, none, .p .mov [.t 1]⟩,
            ⟨some 57, none, .p .mov [.t 8]⟩,
            ⟨some 58, none, .p (.bin .add) [.t 56, .t 57]⟩,
            ⟨some 59, none, .p (.bin .sub) [.t 58, .c (.int .i64 1)]⟩,
            ⟨some 60, none, .p (.sliceS true true) [.t 53, .t 55, .t 59]⟩,
            ⟨some 61, none, .laddr 7 1⟩,
            ⟨none, none, .lstore 61 1 false (.t 60) []⟩])
          (.seq (.region [
            ⟨some 62, none, .lload 7 3 true⟩,
            ⟨some 63, none, .p .mov [.t 8]⟩,
            ⟨none, none, .lstore 4 3 true (.t 62) []⟩,
            ⟨some 5, none, .p .mov [.t 63]⟩,
            ⟨some 6, none, .p .mov [.c (.nili)]⟩])
          .ret))
          .skip)))
        (.seq (.region [
          ⟨some 65, none, .p (.bin .eql) [.t 18, .c (.int .i64 4)]⟩,
          ⟨some 64, none, .p .mov [.t 65]⟩])
        (.cond (.t 64)
          (.region [
            ⟨some 66, none, .p .mov [.t 0]⟩,
            ⟨some 67, none, .p .mov [.t 1]⟩,
            ⟨some 68, none, .p (.sliceS true false) [.t 66, .t 67]⟩,
            ⟨some 69, none, .call 57 [.t 68]⟩,
            ⟨some 8, none, .p .mov [.t 69]⟩])
          .skip))))))))))
  (.seq (.seq (.region [
    ⟨some 70, none, .p .mov [.t 8]⟩,
    ⟨some 71, none, .p (.bin .eql) [.t 70, .c (.int .i64 0)]⟩])
  (.cond (.t 71)
    (.seq (.region [
      ⟨some 72, none, .p (.build [.int .i64 0, .str [], .int .i64 0] []) []⟩,
      ⟨some 73, none, .p .mov [.t 1]⟩,
      ⟨some 74, none, .p (.iface 0) [.c (.int .i64 20)]⟩,
      ⟨some 75, none, .call 48 [.t 73, .t 74]⟩,
      ⟨none, none, .lstore 4 3 true (.t 72) []⟩,
      ⟨some 5, none, .p .mov [.c (.int .i64 0)]⟩,
      ⟨some 6, none, .p .mov [.t 75]⟩])
    .ret)
    .skip))
  (.seq (.region [
    ⟨some 76, none, .p .mov [.t 0]⟩,
    ⟨some 77, none, .p .mov [.t 1]⟩,
    ⟨some 78, none, .p .mov [.t 1]⟩,
    ⟨some 79, none, .p .mov [.t 8]⟩,
    ⟨some 80, none, .p (.bin .add) [.t 78, .t 79]⟩,
    ⟨some 81, none, .p (.sliceS true true) [.t 76, .t 77, .t 80]⟩,
    ⟨some 82, none, .laddr 7 1⟩,
    ⟨none, none, .lstore 82 1 false (.t 81) []⟩])
  (.seq (.region [
    ⟨some 83, none, .lload 7 3 true⟩,
    ⟨some 84, none, .p .mov [.t 8]⟩,
    ⟨none, none, .lstore 4 3 true (.t 83) []⟩,
    ⟨some 5, none, .p .mov [.t 84]⟩,
    ⟨some 6, none, .p .mov [.c (.nili)]⟩])
  .ret)))))))

/-- sortilege/scan.wrong -/
def ir48 : IFunc where
  params := 2
  results := [.t 4]
  trunc := false
  body := (.seq (.region [
    ⟨some 4, none, .p .mov [.c (.nili)]⟩])
  (.seq (.region [
    ⟨some 5, none, .p .mov [.t 0]⟩,
    ⟨some 6, none, .p .mov [.t 1]⟩,
    ⟨some 7, none, .p (.build [.int .i64 0, .nili] [(0, 1, false), (1, 1, false)]) [.t 5, .t 6]⟩,
    ⟨some 8, none, .p (.boxro 2 true) [.t 7]⟩,
    ⟨some 9, none, .p (.iface 2) [.t 8]⟩,
    ⟨some 4, none, .p .mov [.t 9]⟩])
  .ret))

/-- sortilege/scan.kind -/
def ir51 : IFunc where
  params := 1
  results := [.t 2]
  trunc := false
  body := (.seq (.region [
    ⟨some 2, none, .p .mov [.c (.int .i64 0)]⟩])
  (.seq (.block 0 (.seq (.block 6 (.seq (.block 5 (.seq (.block 4 (.seq (.block 3 (.block 2 (.block 1 (.seq (.seq (.seq (.region [
    ⟨some 4, none, .p .mov [.t 0]⟩,
    ⟨some 5, none, .p (.bin .geq) [.t 4, .c (.int .u8 97)]⟩,
    ⟨some 6, none, .p .mov [.t 5]⟩,
    ⟨some 7, some (6, true), .p .mov [.t 0]⟩,
    ⟨some 8, some (6, true), .p (.bin .leq) [.t 7, .c (.int .u8 122)]⟩,
    ⟨some 9, none, .p .pick [.t 6, .t 8, .c (.bool false)]⟩,
    ⟨some 3, none, .p .mov [.t 9]⟩])
  (.cond (.t 3)
    (.exit 1)
    .skip))
  (.seq (.seq (.region [
    ⟨some 11, none, .p .mov [.t 0]⟩,
    ⟨some 12, none, .p (.bin .geq) [.t 11, .c (.int .u8 65)]⟩,
    ⟨some 13, none, .p .mov [.t 12]⟩,
    ⟨some 14, some (13, true), .p .mov [.t 0]⟩,
    ⟨some 15, some (13, true), .p (.bin .leq) [.t 14, .c (.int .u8 90)]⟩,
    ⟨some 16, none, .p .pick [.t 13, .t 15, .c (.bool false)]⟩,
    ⟨some 10, none, .p .mov [.t 16]⟩])
  (.cond (.t 10)
    (.exit 2)
    .skip))
  (.seq (.seq (.region [
    ⟨some 18, none, .p .mov [.t 0]⟩,
    ⟨some 19, none, .p (.bin .eql) [.t 18, .c (.int .u8 95)]⟩,
    ⟨some 17, none, .p .mov [.t 19]⟩])
  (.cond (.t 17)
    (.exit 3)
    .skip))
  (.seq (.seq (.region [
    ⟨some 21, none, .p .mov [.t 0]⟩,
    ⟨some 22, none, .p (.bin .geq) [.t 21, .c (.int .u8 48)]⟩,
    ⟨some 23, none, .p .mov [.t 22]⟩,
    ⟨some 24, some (23, true), .p .mov [.t 0]⟩,
    ⟨some 25, some (23, true), .p (.bin .leq) [.t 24, .c (.int .u8 57)]⟩,
    ⟨some 26, none, .p .pick [.t 23, .t 25, .c (.bool false)]⟩,
    ⟨some 20, none, .p .mov [.t 26]⟩])
  (.cond (.t 20)
    (.exit 4)
    .skip))
  (.seq (.seq (.region [
    ⟨some 28, none, .p .mov [.t 0]⟩,
    ⟨some 29, none, .p (.bin .eql) [.t 28, .c (.int .u8 34)]⟩,
    ⟨some 27, none, .p .mov [.t 29]⟩])
  (.cond (.t 27)
    (.exit 5)
    .skip))
  (.seq (.region [
    ⟨some 31, none, .p .mov [.t 0]⟩,
    ⟨some 32, none, .call 58 [.c (.str [45, 60, 62, 33, 61, 46, 91, 93, 40, 41, 58, 59, 44, 43, 42, 38, 124, 63, 39]), .t 31]⟩,
    ⟨some 33, none, .p (.bin .geq) [.t 32, .c (.int .i64 0)]⟩,
    ⟨some 30, none, .p .mov [.t 33]⟩])
  (.cond (.t 30)
    (.exit 6)
    .skip)))))))
  (.exit 0)))))
  (.seq (.seq (.region [
    ⟨some 2, none, .p .mov [.c (.int .i64 1)]⟩])
  .ret)
  (.exit 0))))
  (.seq (.seq (.region [
    ⟨some 2, none, .p .mov [.c (.int .i64 2)]⟩])
  .ret)
  (.exit 0))))
  (.seq (.seq (.region [
    ⟨some 2, none, .p .mov [.c (.int .i64 3)]⟩])
  .ret)
  (.exit 0))))
  (.seq (.seq (.region [
    ⟨some 2, none, .p .mov [.c (.int .i64 4)]⟩])
  .ret)
  (.exit 0))))
  (.seq (.region [
    ⟨some 2, none, .p .mov [.c (.int .i64 (-1))]⟩])
  .ret)))

/-- sortilege/scan.run -/
def ir52 : IFunc where
  params := 3
  results := [.t 6]
  trunc := false
  body := (.seq (.region [
    ⟨some 6, none, .p .mov [.c (.int .i64 0)]⟩])
  (.seq (.region [
    ⟨some 7, none, .p .mov [.c (.int .i64 0)]⟩])
  (.seq (.block 0 (.loop ⟨[0, 1, 2, 7], [], [], []⟩ (.seq (.seq (.region [
    ⟨some 8, none, .p .mov [.t 1]⟩,
    ⟨some 9, none, .p .mov [.t 7]⟩,
    ⟨some 10, none, .p (.bin .add) [.t 8, .t 9]⟩,
    ⟨some 11, none, .p .mov [.t 0]⟩,
    ⟨some 12, none, .p .lenS [.t 11]⟩,
    ⟨some 13, none, .p (.bin .lss) [.t 10, .t 12]⟩,
    ⟨some 14, none, .p .mov [.t 13]⟩,
    ⟨some 15, some (14, true), .p .mov [.t 2]⟩,
    ⟨some 16, some (14, true), .p .mov [.t 0]⟩,
    ⟨some 17, some (14, true), .p .mov [.t 1]⟩,
    ⟨some 18, some (14, true), .p .mov [.t 7]⟩,
    ⟨some 19, some (14, true), .p (.bin .add) [.t 17, .t 18]⟩,
    ⟨some 20, some (14, true), .p .idxStr [.t 16, .t 19]⟩,
    ⟨some 21, some (14, true), .call 51 [.t 20]⟩,
    ⟨some 22, some (14, true), .callv (.t 15) [.t 21]⟩,
    ⟨some 23, none, .p .pick [.t 14, .t 22, .c (.bool false)]⟩])
  (.cond (.t 23)
    .skip
    (.exit 0)))
  (.block 1 (.region [
    ⟨some 24, none, .p .mov [.t 7]⟩,
    ⟨some 25, none, .p (.bin .add) [.t 24, .c (.int .i64 1)]⟩,
    ⟨some 7, none, .p .mov [.t 25]⟩])))))
  (.seq (.region [
    ⟨some 26, none, .p .mov [.t 7]⟩,
    ⟨some 6, none, .p .mov [.t 26]⟩])
  .ret))))

/-- sortilege/scan.one$1 -/
def ir53 : IFunc where
  params := 1
  results := [.t 2]
  trunc := false
  body := (.seq (.region [
    ⟨some 2, none, .p .mov [.c (.bool false)]⟩])
  (.seq (.region [
    ⟨some 3, none, .p .mov [.t 0]⟩,
    ⟨some 4, none, .p (.bin .eql) [.t 3, .c (.int .i64 1)]⟩,
    ⟨some 5, none, .p .mov [.t 4]⟩,
    ⟨some 6, some (5, false), .p .mov [.t 0]⟩,
    ⟨some 7, some (5, false), .p (.bin .eql) [.t 6, .c (.int .i64 2)]⟩,
    ⟨some 8, none, .p .pick [.t 5, .c (.bool true), .t 7]⟩,
    ⟨some 2, none, .p .mov [.t 8]⟩])
  .ret))

/-- sortilege/scan.one$2 -/
def ir54 : IFunc where
  params := 1
  results := [.t 2]
  trunc := false
  body := (.seq (.region [
    ⟨some 2, none, .p .mov [.c (.bool false)]⟩])
  (.seq (.region [
    ⟨some 3, none, .p .mov [.t 0]⟩,
    ⟨some 4, none, .p (.bin .eql) [.t 3, .c (.int .i64 2)]⟩,
    ⟨some 2, none, .p .mov [.t 4]⟩])
  .ret))

/-- sortilege/scan.digits -/
def ir55 : IFunc where
  params := 1
  results := [.t 2, .t 3]
  trunc := false
  body := (.seq (.region [
    ⟨some 2, none, .p .mov [.c (.int .i64 0)]⟩,
    ⟨some 3, none, .p .mov [.c (.bool false)]⟩])
  (.seq (.region [
    ⟨some 4, none, .p .mov [.c (.int .i64 0)]⟩])
  (.seq (.seq (.region [
    ⟨some 7, none, .p .mov [.t 0]⟩,
    ⟨some 8, none, .p .lenS [.t 7]⟩,
    ⟨some 9, none, .p .mov [.c (.int .i64 0)]⟩])
  (.block 0 (.loop ⟨[0, 4, 8, 9], [], [], []⟩ (.seq (.region [
    ⟨some 10, none, .p (.bin .lss) [.t 9, .t 8]⟩])
  (.seq (.cond (.t 10)
    .skip
    (.exit 0))
  (.seq (.block 1 (.seq (.region [
    ⟨some 11, none, .p .mov [.t 9]⟩,
    ⟨some 5, none, .p .mov [.t 11]⟩])
  (.seq (.region [
    ⟨some 12, none, .p .mov [.t 0]⟩,
    ⟨some 13, none, .p .mov [.t 5]⟩,
    ⟨some 14, none, .p .idxStr [.t 12, .t 13]⟩,
    ⟨some 15, none, .p (.bin .sub) [.t 14, .c (.int .u8 48)]⟩,
    ⟨some 16, none, .p (.conv .i64) [.t 15]⟩,
    ⟨some 6, none, .p .mov [.t 16]⟩])
  (.seq (.seq (.region [
    ⟨some 17, none, .p .mov [.t 4]⟩,
    ⟨some 18, none, .p .mov [.t 6]⟩,
    ⟨some 19, none, .p (.bin .sub) [.c (.int .i64 9223372036854775807), .t 18]⟩,
    ⟨some 20, none, .p (.bin .quo) [.t 19, .c (.int .i64 10)]⟩,
    ⟨some 21, none, .p (.bin .gtr) [.t 17, .t 20]⟩])
  (.cond (.t 21)
    (.seq (.region [
      ⟨some 2, none, .p .mov [.c (.int .i64 0)]⟩,
      ⟨some 3, none, .p .mov [.c (.bool false)]⟩])
    .ret)
    .skip))
  (.region [
    ⟨some 22, none, .p .mov [.t 4]⟩,
    ⟨some 23, none, .p (.bin .mul) [.c (.int .i64 10), .t 22]⟩,
    ⟨some 24, none, .p .mov [.t 6]⟩,
    ⟨some 25, none, .p (.bin .add) [.t 23, .t 24]⟩,
    ⟨some 4, none, .p .mov [.t 25]⟩])))))
  (.region [
    ⟨some 26, none, .p (.bin .add) [.t 9, .c (.int .i64 1)]⟩,
    ⟨some 9, none, .p .mov [.t 26]⟩])))))))
  (.seq (.region [
    ⟨some 27, none, .p .mov [.t 4]⟩,
    ⟨some 2, none, .p .mov [.t 27]⟩,
    ⟨some 3, none, .p .mov [.c (.bool true)]⟩])
  .ret))))

/-- sortilege/scan.quoted -/
def ir56 : IFunc where
  params := 1
  results := [.t 2]
  trunc := false
  body := (.seq (.region [
    ⟨some 2, none, .p .mov [.c (.int .i64 0)]⟩])
  (.seq (.region [
    ⟨some 5, none, .p .mov [.t 0]⟩,
    ⟨some 6, none, .p (.sliceS true false) [.t 5, .c (.int .i64 1)]⟩,
    ⟨some 7, none, .call 58 [.t 6, .c (.int .u8 34)]⟩,
    ⟨some 3, none, .p .mov [.t 7]⟩])
  (.seq (.seq (.region [
    ⟨some 8, none, .p .mov [.t 3]⟩,
    ⟨some 9, none, .p (.bin .lss) [.t 8, .c (.int .i64 1)]⟩,
    ⟨some 10, none, .p .mov [.t 9]⟩,
    ⟨some 11, some (10, false), .p .mov [.t 3]⟩,
    ⟨some 12, some (10, false), .p (.bin .gtr) [.t 11, .c (.int .i64 32)]⟩,
    ⟨some 13, none, .p .pick [.t 10, .c (.bool true), .t 12]⟩])
  (.cond (.t 13)
    (.seq (.region [
      ⟨some 2, none, .p .mov [.c (.int .i64 0)]⟩])
    .ret)
    .skip))
  (.seq (.seq (.region [
    ⟨some 4, none, .p .mov [.c (.int .i64 1)]⟩])
  (.block 0 (.loop ⟨[0, 3, 4], [], [], []⟩ (.seq (.seq (.region [
    ⟨some 14, none, .p .mov [.t 4]⟩,
    ⟨some 15, none, .p .mov [.t 3]⟩,
    ⟨some 16, none, .p (.bin .leq) [.t 14, .t 15]⟩])
  (.cond (.t 16)
    .skip
    (.exit 0)))
  (.seq (.block 1 (.seq (.region [
    ⟨some 19, none, .p .mov [.t 0]⟩,
    ⟨some 20, none, .p .mov [.t 4]⟩,
    ⟨some 21, none, .p .idxStr [.t 19, .t 20]⟩,
    ⟨some 22, none, .p (.bin .lss) [.t 21, .c (.int .u8 32)]⟩,
    ⟨some 23, none, .p .mov [.t 22]⟩,
    ⟨some 24, some (23, false), .p .mov [.t 0]⟩,
    ⟨some 25, some (23, false), .p .mov [.t 4]⟩,
    ⟨some 26, some (23, false), .p .idxStr [.t 24, .t 25]⟩,
    ⟨some 27, some (23, false), .p (.bin .gtr) [.t 26, .c (.int .u8 126)]⟩,
    ⟨some 28, none, .p .pick [.t 23, .c (.bool true), .t 27]⟩])
  (.cond (.t 28)
    (.seq (.region [
      ⟨some 2, none, .p .mov [.c (.int .i64 0)]⟩])
    .ret)
    .skip)))
  (.region [
    ⟨some 17, none, .p .mov [.t 4]⟩,
    ⟨some 18, none, .p (.bin .add) [.t 17, .c (.int .i64 1)]⟩,
    ⟨some 4, none, .p .mov [.t 18]⟩]))))))
  (.seq (.region [
    ⟨some 29, none, .p .mov [.t 3]⟩,
    ⟨some 30, none, .p (.bin .add) [.t 29, .c (.int .i64 2)]⟩,
    ⟨some 2, none, .p .mov [.t 30]⟩])
  .ret)))))

/-- sortilege/scan.mark -/
def ir57 : IFunc where
  params := 1
  results := [.t 2]
  trunc := false
  body := (.seq (.region [
    ⟨some 2, none, .p .mov [.c (.int .i64 0)]⟩])
  (.seq (.seq (.region [
    ⟨some 5, none, .p (.build [.str [], .str [], .str [], .str [], .str [], .str []] [(0, 1, false), (1, 1, false), (2, 1, false), (3, 1, false), (4, 1, false), (5, 1, false)]) [.c (.str [45, 62]), .c (.str [60, 61]), .c (.str [62, 61]), .c (.str [33, 61]), .c (.str [61, 62]), .c (.str [46, 46])]⟩,
    ⟨some 6, none, .p .mov [.c (.int .i64 0)]⟩])
  (.block 0 (.loop ⟨[0, 5, 6], [], [], []⟩ (.seq (.region [
    ⟨some 7, none, .p (.bin .lss) [.t 6, .c (.int .i64 6)]⟩])
  (.seq (.cond (.t 7)
    .skip
    (.exit 0))
  (.seq (.block 1 (.seq (.region [
    ⟨some 8, none, .p (.idxArr 6 1 false) [.t 5, .t 6]⟩,
    ⟨some 4, none, .p .mov [.t 8]⟩])
  (.seq (.region [
    ⟨some 9, none, .p .mov [.t 0]⟩,
    ⟨some 10, none, .p .mov [.t 4]⟩,
    ⟨some 11, none, .call 49 [.t 9, .t 10]⟩])
  (.cond (.t 11)
    (.seq (.region [
      ⟨some 12, none, .p .mov [.t 4]⟩,
      ⟨some 13, none, .p .lenS [.t 12]⟩,
      ⟨some 2, none, .p .mov [.t 13]⟩])
    .ret)
    .skip))))
  (.region [
    ⟨some 14, none, .p (.bin .add) [.t 6, .c (.int .i64 1)]⟩,
    ⟨some 6, none, .p .mov [.t 14]⟩])))))))
  (.seq (.seq (.region [
    ⟨some 15, none, .p .mov [.t 0]⟩,
    ⟨some 16, none, .p .idxStr [.t 15, .c (.int .i64 0)]⟩,
    ⟨some 17, none, .p (.bin .eql) [.t 16, .c (.int .u8 46)]⟩])
  (.cond (.t 17)
    (.seq (.region [
      ⟨some 2, none, .p .mov [.c (.int .i64 0)]⟩])
    .ret)
    .skip))
  (.seq (.region [
    ⟨some 2, none, .p .mov [.c (.int .i64 1)]⟩])
  .ret))))

/-- strings.HasPrefix -/
def ir49 : IFunc where
  params := 2
  results := [.t 4]
  trunc := false
  body := (.seq (.region [
    ⟨some 4, none, .p .mov [.c (.bool false)]⟩])
  (.seq (.region [
    ⟨some 5, none, .p .mov [.t 0]⟩,
    ⟨some 6, none, .p .mov [.t 1]⟩,
    ⟨some 7, none, .call 59 [.t 5, .t 6]⟩,
    ⟨some 4, none, .p .mov [.t 7]⟩])
  .ret))

/-- strings.Cut -/
def ir50 : IFunc where
  params := 2
  results := [.t 4, .t 5, .t 6]
  trunc := false
  body := (.seq (.region [
    ⟨some 4, none, .p .mov [.c (.str [])]⟩,
    ⟨some 5, none, .p .mov [.c (.str [])]⟩,
    ⟨some 6, none, .p .mov [.c (.bool false)]⟩])
  (.seq (.region [
    ⟨some 7, none, .p .mov [.t 0]⟩,
    ⟨some 8, none, .p .mov [.t 1]⟩,
    ⟨some 9, none, .call 60 [.t 7, .t 8]⟩,
    ⟨some 10, none, .p (.extract 0) [.t 9]⟩,
    ⟨some 11, none, .p (.extract 1) [.t 9]⟩,
    ⟨some 12, none, .p (.extract 2) [.t 9]⟩,
    ⟨some 4, none, .p .mov [.t 10]⟩,
    ⟨some 5, none, .p .mov [.t 11]⟩,
    ⟨some 6, none, .p .mov [.t 12]⟩])
  .ret))

/-- internal/stringslite.HasPrefix -/
def ir59 : IFunc where
  params := 2
  results := [.t 4]
  trunc := false
  body := (.seq (.region [
    ⟨some 4, none, .p .mov [.c (.bool false)]⟩])
  (.seq (.region [
    ⟨some 5, none, .p .mov [.t 0]⟩,
    ⟨some 6, none, .p .lenS [.t 5]⟩,
    ⟨some 7, none, .p .mov [.t 1]⟩,
    ⟨some 8, none, .p .lenS [.t 7]⟩,
    ⟨some 9, none, .p (.bin .geq) [.t 6, .t 8]⟩,
    ⟨some 10, none, .p .mov [.t 9]⟩,
    ⟨some 11, some (10, true), .p .mov [.t 0]⟩,
    ⟨some 12, some (10, true), .p .mov [.t 1]⟩,
    ⟨some 13, some (10, true), .p .lenS [.t 12]⟩,
    ⟨some 14, some (10, true), .p (.sliceS false true) [.t 11, .t 13]⟩,
    ⟨some 15, some (10, true), .p .mov [.t 1]⟩,
    ⟨some 16, some (10, true), .p (.bin .eql) [.t 14, .t 15]⟩,
    ⟨some 17, none, .p .pick [.t 10, .t 16, .c (.bool false)]⟩,
    ⟨some 4, none, .p .mov [.t 17]⟩])
  .ret))

/-- internal/stringslite.Cut -/
def ir60 : IFunc where
  params := 2
  results := [.t 4, .t 5, .t 6]
  trunc := false
  body := (.seq (.region [
    ⟨some 4, none, .p .mov [.c (.str [])]⟩,
    ⟨some 5, none, .p .mov [.c (.str [])]⟩,
    ⟨some 6, none, .p .mov [.c (.bool false)]⟩])
  (.seq (.seq (.region [
    ⟨some 8, none, .p .mov [.t 0]⟩,
    ⟨some 9, none, .p .mov [.t 1]⟩,
    ⟨some 10, none, .call 61 [.t 8, .t 9]⟩,
    ⟨some 7, none, .p .mov [.t 10]⟩])
  (.seq (.region [
    ⟨some 11, none, .p .mov [.t 7]⟩,
    ⟨some 12, none, .p (.bin .geq) [.t 11, .c (.int .i64 0)]⟩])
  (.cond (.t 12)
    (.seq (.drawn [
      ⟨some 13, none, .p .mov [.t 0]⟩,
      ⟨some 14, none, .p .mov [.t 7]⟩,
      ⟨some 15, none, .p (.sliceS false true) [.t 13, .t 14]⟩,
      ⟨some 16, none, .p .mov [.t 0]⟩,
      ⟨some 17, none, .p .mov [.t 7]⟩,
      ⟨some 18, none, .p .mov [.t 1]⟩,
      ⟨some 19, none, .p .lenS [.t 18]⟩,
      ⟨some 20, none, .p (.bin .add) [.t 17, .t 19]⟩,
      ⟨some 21, none, .p (.sliceS true false) [.t 16, .t 20]⟩,
      ⟨some 4, none, .p .mov [.t 15]⟩,
      ⟨some 5, none, .p .mov [.t 21]⟩,
      ⟨some 6, none, .p .mov [.c (.bool true)]⟩] [])
    .ret)
    .skip)))
  (.seq (.region [
    ⟨some 22, none, .p .mov [.t 0]⟩,
    ⟨some 4, none, .p .mov [.t 22]⟩,
    ⟨some 5, none, .p .mov [.c (.str [])]⟩,
    ⟨some 6, none, .p .mov [.c (.bool false)]⟩])
  .ret)))

/-- strings.IndexByte -/
def ir58 : IFunc where
  params := 2
  results := [.t 4]
  trunc := false
  body := (.seq (.region [
    ⟨some 4, none, .p .mov [.c (.int .i64 0)]⟩])
  (.seq (.region [
    ⟨some 5, none, .p .mov [.t 0]⟩,
    ⟨some 6, none, .p .mov [.t 1]⟩,
    ⟨some 7, none, .call 62 [.t 5, .t 6]⟩,
    ⟨some 4, none, .p .mov [.t 7]⟩])
  .ret))

end Go.Abs
