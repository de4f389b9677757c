/- The table of the functions; what is outside it. Printed by wip/tools/tgen.py. -/
import Derived.Test.YtiefbkjoldcebaaDoorXxSh
namespace Go.Abs
def tab : List (Option IFunc) := [some ir0, some ir1, some ir2, some ir3, some ir4, some ir5, some ir6, some ir7, some ir8, some ir9, some ir10, some ir11, some ir12, some ir13, some ir14, some ir15, some ir16, some ir17, none, some ir19, some ir20, some ir21, some ir22, some ir23, some ir24, some ir25, some ir26, some ir27, some ir28, some ir29, some ir30, some ir31, some ir32, some ir33, some ir34, some ir35, some ir36, some ir37, some ir38, some ir39, some ir40, some ir41, some ir42, some ir43, some ir44, some ir45, some ir46, some ir47, some ir48, some ir49, some ir50, some ir51, some ir52, some ir53, some ir54, some ir55, some ir56, some ir57, some ir58, some ir59, some ir60]
def T (f : Nat) : Option IFunc := tab.getD f none
/-- an error's number, whatever stands round it -/
def asErrno : AV → Option Int
  | .iface 0 (.int _ n) => some n
  | .iface 2 (.ro (.agg [_, e]) 0) => asErrno e
  | _ => none
/-- is it an error of the program? -/
def isErr : AV → Bool
  | .nili => true
  | .iface 0 (.int .i64 _) => true
  | .iface 2 (.ro (.agg [.int .i64 _, .iface 0 (.int .i64 _)]) 0) => true
  | _ => false
def hasPrefix : List UInt8 → List UInt8 → Bool
  | _, [] => true
  | [], _ :: _ => false
  | a :: s, b :: t => a == b && hasPrefix s t
def indexOf (c : UInt8) : List UInt8 → Option Nat
  | [] => none
  | a :: s => if a = c then some 0 else (indexOf c s).map (· + 1)
/-- the functions that are not in the table -/
def X : Call := fun f args h => match f, args with
  | 18, [e, .iface 1 (.ptr b 0 0)] => match h.get b with
    | some (.cells 1 false _ []) => if isErr e then (match asErrno e with
      | some n => some (.bool true, h.set b (.cells 1 false (.int .i64 n) []))
      | none => some (.bool false, h)) else none
    | _ => none
  | 61, [.str s, .str [c]] => match indexOf c s with
    | some n => some (.int .i64 n, h)
    | none => some (.int .i64 (-1), h)
  | 62, [.str s, .int .u8 c] => match indexOf (UInt8.ofNat c.toNat) s with
    | some n => some (.int .i64 n, h)
    | none => some (.int .i64 (-1), h)
  | _, _ => none
noncomputable abbrev Wc : Call := callW T X
theorem w0 {h : H} {r : AV × H} (e : sh0 std Wc  h = some r) : Wc 0 [] h = some r := callW_of T X (ir := ir0) rfl rfl (by rw [sh0_eq]; exact e)
theorem w1 {a0 a1 : AV} {h : H} {r : AV × H} (e : sh1 std Wc a0 a1 h = some r) : Wc 1 [a0, a1] h = some r := callW_of T X (ir := ir1) rfl rfl (by rw [sh1_eq]; exact e)
theorem w2 {a0 : AV} {h : H} {r : AV × H} (e : sh2 std Wc a0 h = some r) : Wc 2 [a0] h = some r := callW_of T X (ir := ir2) rfl rfl (by rw [sh2_eq]; exact e)
theorem w3 {a0 a1 : AV} {h : H} {r : AV × H} (e : sh3 std Wc a0 a1 h = some r) : Wc 3 [a0, a1] h = some r := callW_of T X (ir := ir3) rfl rfl (by rw [sh3_eq]; exact e)
theorem w4 {a0 : AV} {h : H} {r : AV × H} (e : sh4 std Wc a0 h = some r) : Wc 4 [a0] h = some r := callW_of T X (ir := ir4) rfl rfl (by rw [sh4_eq]; exact e)
theorem w5 {a0 : AV} {h : H} {r : AV × H} (e : sh5 std Wc a0 h = some r) : Wc 5 [a0] h = some r := callW_of T X (ir := ir5) rfl rfl (by rw [sh5_eq]; exact e)
theorem w6 {a0 a1 a2 : AV} {h : H} {r : AV × H} (e : sh6 std Wc a0 a1 a2 h = some r) : Wc 6 [a0, a1, a2] h = some r := callW_of T X (ir := ir6) rfl rfl (by rw [sh6_eq]; exact e)
theorem w7 {a0 a1 : AV} {h : H} {r : AV × H} (e : sh7 std Wc a0 a1 h = some r) : Wc 7 [a0, a1] h = some r := callW_of T X (ir := ir7) rfl rfl (by rw [sh7_eq]; exact e)
theorem w8 {a0 : AV} {h : H} {r : AV × H} (e : sh8 std Wc a0 h = some r) : Wc 8 [a0] h = some r := callW_of T X (ir := ir8) rfl rfl (by rw [sh8_eq]; exact e)
theorem w9 {a0 : AV} {h : H} {r : AV × H} (e : sh9 std Wc a0 h = some r) : Wc 9 [a0] h = some r := callW_of T X (ir := ir9) rfl rfl (by rw [sh9_eq]; exact e)
theorem w10 {a0 a1 : AV} {h : H} {r : AV × H} (e : sh10 std Wc a0 a1 h = some r) : Wc 10 [a0, a1] h = some r := callW_of T X (ir := ir10) rfl rfl (by rw [sh10_eq]; exact e)
theorem w11 {a0 a1 : AV} {h : H} {r : AV × H} (e : sh11 std Wc a0 a1 h = some r) : Wc 11 [a0, a1] h = some r := callW_of T X (ir := ir11) rfl rfl (by rw [sh11_eq]; exact e)
theorem w12 {a0 : AV} {h : H} {r : AV × H} (e : sh12 std Wc a0 h = some r) : Wc 12 [a0] h = some r := callW_of T X (ir := ir12) rfl rfl (by rw [sh12_eq]; exact e)
theorem w13 {a0 a1 : AV} {h : H} {r : AV × H} (e : sh13 std Wc a0 a1 h = some r) : Wc 13 [a0, a1] h = some r := callW_of T X (ir := ir13) rfl rfl (by rw [sh13_eq]; exact e)
theorem w14 {a0 : AV} {h : H} {r : AV × H} (e : sh14 std Wc a0 h = some r) : Wc 14 [a0] h = some r := callW_of T X (ir := ir14) rfl rfl (by rw [sh14_eq]; exact e)
theorem w15 {a0 : AV} {h : H} {r : AV × H} (e : sh15 std Wc a0 h = some r) : Wc 15 [a0] h = some r := callW_of T X (ir := ir15) rfl rfl (by rw [sh15_eq]; exact e)
theorem w16 {a0 : AV} {h : H} {r : AV × H} (e : sh16 std Wc a0 h = some r) : Wc 16 [a0] h = some r := callW_of T X (ir := ir16) rfl rfl (by rw [sh16_eq]; exact e)
theorem w17 {a0 a1 a2 : AV} {h : H} {r : AV × H} (e : sh17 std Wc a0 a1 a2 h = some r) : Wc 17 [a0, a1, a2] h = some r := callW_of T X (ir := ir17) rfl rfl (by rw [sh17_eq]; exact e)
theorem w19 {a0 : AV} {h : H} {r : AV × H} (e : sh19 std Wc a0 h = some r) : Wc 19 [a0] h = some r := callW_of T X (ir := ir19) rfl rfl (by rw [sh19_eq]; exact e)
theorem w20 {a0 a1 a2 : AV} {h : H} {r : AV × H} (e : sh20 std Wc a0 a1 a2 h = some r) : Wc 20 [a0, a1, a2] h = some r := callW_of T X (ir := ir20) rfl rfl (by rw [sh20_eq]; exact e)
theorem w21 {a0 : AV} {h : H} {r : AV × H} (e : sh21 std Wc a0 h = some r) : Wc 21 [a0] h = some r := callW_of T X (ir := ir21) rfl rfl (by rw [sh21_eq]; exact e)
theorem w22 {a0 a1 a2 : AV} {h : H} {r : AV × H} (e : sh22 std Wc a0 a1 a2 h = some r) : Wc 22 [a0, a1, a2] h = some r := callW_of T X (ir := ir22) rfl rfl (by rw [sh22_eq]; exact e)
theorem w23 {a0 : AV} {h : H} {r : AV × H} (e : sh23 std Wc a0 h = some r) : Wc 23 [a0] h = some r := callW_of T X (ir := ir23) rfl rfl (by rw [sh23_eq]; exact e)
theorem w24 {a0 a1 : AV} {h : H} {r : AV × H} (e : sh24 std Wc a0 a1 h = some r) : Wc 24 [a0, a1] h = some r := callW_of T X (ir := ir24) rfl rfl (by rw [sh24_eq]; exact e)
theorem w25 {a0 a1 a2 a3 : AV} {h : H} {r : AV × H} (e : sh25 std Wc a0 a1 a2 a3 h = some r) : Wc 25 [a0, a1, a2, a3] h = some r := callW_of T X (ir := ir25) rfl rfl (by rw [sh25_eq]; exact e)
theorem w26 {a0 a1 a2 a3 a4 : AV} {h : H} {r : AV × H} (e : sh26 std Wc a0 a1 a2 a3 a4 h = some r) : Wc 26 [a0, a1, a2, a3, a4] h = some r := callW_of T X (ir := ir26) rfl rfl (by rw [sh26_eq]; exact e)
theorem w27 {a0 : AV} {h : H} {r : AV × H} (e : sh27 std Wc a0 h = some r) : Wc 27 [a0] h = some r := callW_of T X (ir := ir27) rfl rfl (by rw [sh27_eq]; exact e)
theorem w28 {a0 : AV} {h : H} {r : AV × H} (e : sh28 std Wc a0 h = some r) : Wc 28 [a0] h = some r := callW_of T X (ir := ir28) rfl rfl (by rw [sh28_eq]; exact e)
theorem w29 {a0 a1 : AV} {h : H} {r : AV × H} (e : sh29 std Wc a0 a1 h = some r) : Wc 29 [a0, a1] h = some r := callW_of T X (ir := ir29) rfl rfl (by rw [sh29_eq]; exact e)
theorem w30 {a0 a1 a2 a3 a4 : AV} {h : H} {r : AV × H} (e : sh30 std Wc a0 a1 a2 a3 a4 h = some r) : Wc 30 [a0, a1, a2, a3, a4] h = some r := callW_of T X (ir := ir30) rfl rfl (by rw [sh30_eq]; exact e)
theorem w31 {a0 a1 a2 : AV} {h : H} {r : AV × H} (e : sh31 std Wc a0 a1 a2 h = some r) : Wc 31 [a0, a1, a2] h = some r := callW_of T X (ir := ir31) rfl rfl (by rw [sh31_eq]; exact e)
theorem w32 {a0 a1 a2 : AV} {h : H} {r : AV × H} (e : sh32 std Wc a0 a1 a2 h = some r) : Wc 32 [a0, a1, a2] h = some r := callW_of T X (ir := ir32) rfl rfl (by rw [sh32_eq]; exact e)
theorem w33 {a0 : AV} {h : H} {r : AV × H} (e : sh33 std Wc a0 h = some r) : Wc 33 [a0] h = some r := callW_of T X (ir := ir33) rfl rfl (by rw [sh33_eq]; exact e)
theorem w34 {a0 : AV} {h : H} {r : AV × H} (e : sh34 std Wc a0 h = some r) : Wc 34 [a0] h = some r := callW_of T X (ir := ir34) rfl rfl (by rw [sh34_eq]; exact e)
theorem w35 {a0 a1 a2 : AV} {h : H} {r : AV × H} (e : sh35 std Wc a0 a1 a2 h = some r) : Wc 35 [a0, a1, a2] h = some r := callW_of T X (ir := ir35) rfl rfl (by rw [sh35_eq]; exact e)
theorem w36 {a0 a1 : AV} {h : H} {r : AV × H} (e : sh36 std Wc a0 a1 h = some r) : Wc 36 [a0, a1] h = some r := callW_of T X (ir := ir36) rfl rfl (by rw [sh36_eq]; exact e)
theorem w37 {a0 : AV} {h : H} {r : AV × H} (e : sh37 std Wc a0 h = some r) : Wc 37 [a0] h = some r := callW_of T X (ir := ir37) rfl rfl (by rw [sh37_eq]; exact e)
theorem w38 {a0 a1 : AV} {h : H} {r : AV × H} (e : sh38 std Wc a0 a1 h = some r) : Wc 38 [a0, a1] h = some r := callW_of T X (ir := ir38) rfl rfl (by rw [sh38_eq]; exact e)
theorem w39 {a0 : AV} {h : H} {r : AV × H} (e : sh39 std Wc a0 h = some r) : Wc 39 [a0] h = some r := callW_of T X (ir := ir39) rfl rfl (by rw [sh39_eq]; exact e)
theorem w40 {a0 : AV} {h : H} {r : AV × H} (e : sh40 std Wc a0 h = some r) : Wc 40 [a0] h = some r := callW_of T X (ir := ir40) rfl rfl (by rw [sh40_eq]; exact e)
theorem w41 {a0 a1 a2 : AV} {h : H} {r : AV × H} (e : sh41 std Wc a0 a1 a2 h = some r) : Wc 41 [a0, a1, a2] h = some r := callW_of T X (ir := ir41) rfl rfl (by rw [sh41_eq]; exact e)
theorem w42 {a0 a1 : AV} {h : H} {r : AV × H} (e : sh42 std Wc a0 a1 h = some r) : Wc 42 [a0, a1] h = some r := callW_of T X (ir := ir42) rfl rfl (by rw [sh42_eq]; exact e)
theorem w43 {a0 a1 : AV} {h : H} {r : AV × H} (e : sh43 std Wc a0 a1 h = some r) : Wc 43 [a0, a1] h = some r := callW_of T X (ir := ir43) rfl rfl (by rw [sh43_eq]; exact e)
theorem w44 {a0 a1 : AV} {h : H} {r : AV × H} (e : sh44 std Wc a0 a1 h = some r) : Wc 44 [a0, a1] h = some r := callW_of T X (ir := ir44) rfl rfl (by rw [sh44_eq]; exact e)
theorem w45 {a0 : AV} {h : H} {r : AV × H} (e : sh45 std Wc a0 h = some r) : Wc 45 [a0] h = some r := callW_of T X (ir := ir45) rfl rfl (by rw [sh45_eq]; exact e)
theorem w46 {a0 a1 : AV} {h : H} {r : AV × H} (e : sh46 std Wc a0 a1 h = some r) : Wc 46 [a0, a1] h = some r := callW_of T X (ir := ir46) rfl rfl (by rw [sh46_eq]; exact e)
theorem w47 {a0 a1 : AV} {h : H} {r : AV × H} (e : sh47 std Wc a0 a1 h = some r) : Wc 47 [a0, a1] h = some r := callW_of T X (ir := ir47) rfl rfl (by rw [sh47_eq]; exact e)
theorem w48 {a0 a1 : AV} {h : H} {r : AV × H} (e : sh48 std Wc a0 a1 h = some r) : Wc 48 [a0, a1] h = some r := callW_of T X (ir := ir48) rfl rfl (by rw [sh48_eq]; exact e)
theorem w49 {a0 a1 : AV} {h : H} {r : AV × H} (e : sh49 std Wc a0 a1 h = some r) : Wc 49 [a0, a1] h = some r := callW_of T X (ir := ir49) rfl rfl (by rw [sh49_eq]; exact e)
theorem w50 {a0 a1 : AV} {h : H} {r : AV × H} (e : sh50 std Wc a0 a1 h = some r) : Wc 50 [a0, a1] h = some r := callW_of T X (ir := ir50) rfl rfl (by rw [sh50_eq]; exact e)
theorem w51 {a0 : AV} {h : H} {r : AV × H} (e : sh51 std Wc a0 h = some r) : Wc 51 [a0] h = some r := callW_of T X (ir := ir51) rfl rfl (by rw [sh51_eq]; exact e)
theorem w52 {a0 a1 a2 : AV} {h : H} {r : AV × H} (e : sh52 std Wc a0 a1 a2 h = some r) : Wc 52 [a0, a1, a2] h = some r := callW_of T X (ir := ir52) rfl rfl (by rw [sh52_eq]; exact e)
theorem w53 {a0 : AV} {h : H} {r : AV × H} (e : sh53 std Wc a0 h = some r) : Wc 53 [a0] h = some r := callW_of T X (ir := ir53) rfl rfl (by rw [sh53_eq]; exact e)
theorem w54 {a0 : AV} {h : H} {r : AV × H} (e : sh54 std Wc a0 h = some r) : Wc 54 [a0] h = some r := callW_of T X (ir := ir54) rfl rfl (by rw [sh54_eq]; exact e)
theorem w55 {a0 : AV} {h : H} {r : AV × H} (e : sh55 std Wc a0 h = some r) : Wc 55 [a0] h = some r := callW_of T X (ir := ir55) rfl rfl (by rw [sh55_eq]; exact e)
theorem w56 {a0 : AV} {h : H} {r : AV × H} (e : sh56 std Wc a0 h = some r) : Wc 56 [a0] h = some r := callW_of T X (ir := ir56) rfl rfl (by rw [sh56_eq]; exact e)
theorem w57 {a0 : AV} {h : H} {r : AV × H} (e : sh57 std Wc a0 h = some r) : Wc 57 [a0] h = some r := callW_of T X (ir := ir57) rfl rfl (by rw [sh57_eq]; exact e)
theorem w58 {a0 a1 : AV} {h : H} {r : AV × H} (e : sh58 std Wc a0 a1 h = some r) : Wc 58 [a0, a1] h = some r := callW_of T X (ir := ir58) rfl rfl (by rw [sh58_eq]; exact e)
theorem w59 {a0 a1 : AV} {h : H} {r : AV × H} (e : sh59 std Wc a0 a1 h = some r) : Wc 59 [a0, a1] h = some r := callW_of T X (ir := ir59) rfl rfl (by rw [sh59_eq]; exact e)
theorem w60 {a0 a1 : AV} {h : H} {r : AV × H} (e : sh60 std Wc a0 a1 h = some r) : Wc 60 [a0, a1] h = some r := callW_of T X (ir := ir60) rfl rfl (by rw [sh60_eq]; exact e)
end Go.Abs
