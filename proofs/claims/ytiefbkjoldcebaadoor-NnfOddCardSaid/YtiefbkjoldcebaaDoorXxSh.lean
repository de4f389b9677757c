/- The functions, unfolded. Printed by wip/tools/shgen.py. -/
import Derived.Test.YtiefbkjoldcebaaDoorXxRun
import Derived.Test.YtiefbkjoldcebaaDoorXxIR
set_option linter.unusedVariables false
namespace Go.Abs
/-- sortilege/sortilegelaw15.NnfOdd -/
noncomputable def sh6_J1 (O : Ops) (C : Call) (S1 : St → R) (t0 t2 t8 t9 l7 : AV) (h : H) : R :=
  O.bv (O.ev (.bin .add) [t9, (AV.int .i64 1)]) fun v1 =>
  S1 ([t0, t2, t8, v1, l7], h)
noncomputable def sh6_L2 (O : Ops) (C : Call) (S1 : St → R) (t0 t2 t8 t9 l7 : AV) (h : H) : R :=
  O.bv (O.ev .lenL [t2]) fun v1 =>
  O.bv (O.ev (.bin .lss) [t9, v1]) fun v2 =>
  O.ifB v2 (
    O.withK (fun q => sh6_J1 O C S1 (nth q.1 0) (nth q.1 1) (nth q.1 2) (nth q.1 3) (nth q.1 4) q.2) fun K1 =>
    O.bv (O.ev (.idxAddr 1) [t2, t9]) fun v3 =>
    O.bv (O.ev (.ld 1 false) [v3]) fun v4 =>
    O.bv (O.ev .lenS [v4]) fun v5 =>
    O.bv (O.ev (.bin .gtr) [v5, (AV.int .i64 100)]) fun v6 =>
    O.ifB v6 (
      O.ret (AV.bool true) h
    ) (
      O.bv (O.ev (.idxAddr 1) [t2, t9]) fun v7 =>
      O.bv (O.ev (.ld 1 false) [v7]) fun v8 =>
      O.br (C 1 [v8, (AV.int .i64 64)] h) fun v9 g10 =>
      O.bv (O.ev (.extract 0) [v9]) fun v11 =>
      O.bv (O.ev (.extract 1) [v9]) fun v12 =>
      O.bv (O.shape 4 true (AV.agg [.str [], .str [], .list true 4 [], .int .i64 0])) fun c13 =>
      O.bv (O.shape 4 true v11) fun c14 =>
      O.bv (O.ev (.eq false .i) [v12, (AV.nili)]) fun v15 =>
      O.ifB v15 (
        O.bv (O.part l7 2 1 false) fun v16 =>
        O.bv (O.ev (.mkList 4 true) [c14]) fun v17 =>
        O.bv (O.appList 4 64 v16 v17) fun v18 =>
        O.bv (O.setPart l7 2 v18 1 false) fun c19 =>
        O.bv (O.gt (O.gv t8 true) (some c14)) fun v20 =>
        O.br (O.gr (O.gv t8 true) (C 2 [v20] g10) g10) fun v21 g22 =>
        O.bv (O.ev .pick [t8, v21, (AV.bool false)]) fun v23 =>
        K1 ([t0, t2, v23, t9, c19], g22)
      ) (
        K1 ([t0, t2, t8, t9, l7], g10)
      )
    )
  ) (
    O.bv (O.part l7 2 1 false) fun v3 =>
    O.bv (O.ev .lenL [v3]) fun v4 =>
    O.bv (O.ev (.bin .eql) [v4, (AV.int .i64 0)]) fun v5 =>
    O.bv (O.gt (O.gv v5 true) (some t0)) fun v6 =>
    O.bv (O.gt (O.gv v5 true) (O.ev (.bin .eql) [v6, (AV.str [116, 114, 117, 101])])) fun v7 =>
    O.bv (O.gt (O.gv v5 true) (some v7)) fun v8 =>
    O.bv (O.gt (O.gv v8 false) (some t0)) fun v9 =>
    O.bv (O.gt (O.gv v8 false) (O.ev (.bin .eql) [v9, (AV.str [102, 97, 108, 115, 101])])) fun v10 =>
    O.bv (O.gt (O.gv v5 true) (O.ev .pick [v8, (AV.bool true), v10])) fun v11 =>
    O.bv (O.gt (O.gv v5 true) (some v11)) fun v12 =>
    O.bv (O.gt (O.gv v12 false) (some t0)) fun v13 =>
    O.bv (O.gt (O.gv v12 false) (O.ev (.bin .eql) [v13, (AV.str [108, 97, 98, 101, 108])])) fun v14 =>
    O.bv (O.gt (O.gv v5 true) (O.ev .pick [v12, (AV.bool true), v14])) fun v15 =>
    O.bv (O.ev .pick [v5, v15, (AV.bool false)]) fun v16 =>
    O.bv (O.gt (O.gv v16 false) (some v4)) fun v17 =>
    O.bv (O.gt (O.gv v16 false) (O.ev (.bin .eql) [v17, (AV.int .i64 1)])) fun v18 =>
    O.bv (O.gt (O.gv v16 false) (some v18)) fun v19 =>
    O.bv (O.gt (O.gv v19 true) (some t0)) fun v20 =>
    O.bv (O.gt (O.gv v19 true) (O.ev (.bin .eql) [v20, (AV.str [33])])) fun v21 =>
    O.bv (O.gt (O.gv v19 true) (some v21)) fun v22 =>
    O.bv (O.gt (O.gv v22 false) (some t0)) fun v23 =>
    O.bv (O.gt (O.gv v22 false) (O.ev (.bin .eql) [v23, (AV.str [88])])) fun v24 =>
    O.bv (O.gt (O.gv v19 true) (O.ev .pick [v22, (AV.bool true), v24])) fun v25 =>
    O.bv (O.gt (O.gv v19 true) (some v25)) fun v26 =>
    O.bv (O.gt (O.gv v26 false) (some t0)) fun v27 =>
    O.bv (O.gt (O.gv v26 false) (O.ev (.bin .eql) [v27, (AV.str [70])])) fun v28 =>
    O.bv (O.gt (O.gv v19 true) (O.ev .pick [v26, (AV.bool true), v28])) fun v29 =>
    O.bv (O.gt (O.gv v19 true) (some v29)) fun v30 =>
    O.bv (O.gt (O.gv v30 false) (some t0)) fun v31 =>
    O.bv (O.gt (O.gv v30 false) (O.ev (.bin .eql) [v31, (AV.str [71])])) fun v32 =>
    O.bv (O.gt (O.gv v19 true) (O.ev .pick [v30, (AV.bool true), v32])) fun v33 =>
    O.bv (O.gt (O.gv v16 false) (O.ev .pick [v19, v33, (AV.bool false)])) fun v34 =>
    O.bv (O.ev .pick [v16, (AV.bool true), v34]) fun v35 =>
    O.bv (O.gt (O.gv v35 false) (some v4)) fun v36 =>
    O.bv (O.gt (O.gv v35 false) (O.ev (.bin .eql) [v36, (AV.int .i64 2)])) fun v37 =>
    O.bv (O.gt (O.gv v35 false) (some v37)) fun v38 =>
    O.bv (O.gt (O.gv v38 true) (some t0)) fun v39 =>
    O.bv (O.gt (O.gv v38 true) (O.ev (.bin .eql) [v39, (AV.str [38])])) fun v40 =>
    O.bv (O.gt (O.gv v38 true) (some v40)) fun v41 =>
    O.bv (O.gt (O.gv v41 false) (some t0)) fun v42 =>
    O.bv (O.gt (O.gv v41 false) (O.ev (.bin .eql) [v42, (AV.str [124])])) fun v43 =>
    O.bv (O.gt (O.gv v38 true) (O.ev .pick [v41, (AV.bool true), v43])) fun v44 =>
    O.bv (O.gt (O.gv v38 true) (some v44)) fun v45 =>
    O.bv (O.gt (O.gv v45 false) (some t0)) fun v46 =>
    O.bv (O.gt (O.gv v45 false) (O.ev (.bin .eql) [v46, (AV.str [61, 62])])) fun v47 =>
    O.bv (O.gt (O.gv v38 true) (O.ev .pick [v45, (AV.bool true), v47])) fun v48 =>
    O.bv (O.gt (O.gv v38 true) (some v48)) fun v49 =>
    O.bv (O.gt (O.gv v49 false) (some t0)) fun v50 =>
    O.bv (O.gt (O.gv v49 false) (O.ev (.bin .eql) [v50, (AV.str [85])])) fun v51 =>
    O.bv (O.gt (O.gv v38 true) (O.ev .pick [v49, (AV.bool true), v51])) fun v52 =>
    O.bv (O.gt (O.gv v38 true) (some v52)) fun v53 =>
    O.bv (O.gt (O.gv v53 false) (some t0)) fun v54 =>
    O.bv (O.gt (O.gv v53 false) (O.ev (.bin .eql) [v54, (AV.str [87])])) fun v55 =>
    O.bv (O.gt (O.gv v38 true) (O.ev .pick [v53, (AV.bool true), v55])) fun v56 =>
    O.bv (O.gt (O.gv v38 true) (some v56)) fun v57 =>
    O.bv (O.gt (O.gv v57 false) (some t0)) fun v58 =>
    O.bv (O.gt (O.gv v57 false) (O.ev (.bin .eql) [v58, (AV.str [82])])) fun v59 =>
    O.bv (O.gt (O.gv v38 true) (O.ev .pick [v57, (AV.bool true), v59])) fun v60 =>
    O.bv (O.gt (O.gv v35 false) (O.ev .pick [v38, v60, (AV.bool false)])) fun v61 =>
    O.bv (O.ev .pick [v35, (AV.bool true), v61]) fun v62 =>
    O.br (C 3 [l7, (AV.bool false)] h) fun v63 g64 =>
    O.bv (O.ev (.extract 0) [v63]) fun v65 =>
    O.bv (O.ev (.extract 1) [v63]) fun v66 =>
    O.bv (O.shape 4 true (AV.agg [.str [], .str [], .list true 4 [], .int .i64 0])) fun c67 =>
    O.bv (O.shape 4 true v65) fun c68 =>
    O.bv (O.ev (.eq false .i) [v66, (AV.nili)]) fun v69 =>
    O.bv (O.ev (.eq true .b) [v62, v69]) fun v70 =>
    O.bv (O.gt (O.gv v70 true) (some v66)) fun v71 =>
    O.br (O.gr (O.gv v70 true) (C 4 [v71] g64) g64) fun v72 g73 =>
    O.bv (O.gt (O.gv v70 true) (O.ev (.bin .neq) [v72, (AV.int .i64 2)])) fun v74 =>
    O.bv (O.ev .pick [v70, v74, (AV.bool false)]) fun v75 =>
    O.bv (O.gt (O.gv v75 false) (some v66)) fun v76 =>
    O.bv (O.gt (O.gv v75 false) (O.ev (.eq true .i) [v76, (AV.nili)])) fun v77 =>
    O.bv (O.gt (O.gv v75 false) (some v77)) fun v78 =>
    O.bv (O.gt (O.gv v78 true) (some v66)) fun v79 =>
    O.br (O.gr (O.gv v78 true) (C 4 [v79] g73) g73) fun v80 g81 =>
    O.bv (O.gt (O.gv v78 true) (O.ev (.bin .neq) [v80, (AV.int .i64 1)])) fun v82 =>
    O.bv (O.gt (O.gv v75 false) (O.ev .pick [v78, v82, (AV.bool false)])) fun v83 =>
    O.bv (O.gt (O.gv v75 false) (some v83)) fun v84 =>
    O.bv (O.gt (O.gv v84 true) (some v66)) fun v85 =>
    O.br (O.gr (O.gv v84 true) (C 4 [v85] g81) g81) fun v86 g87 =>
    O.bv (O.gt (O.gv v84 true) (O.ev (.bin .neq) [v86, (AV.int .i64 2)])) fun v88 =>
    O.bv (O.gt (O.gv v75 false) (O.ev .pick [v84, v88, (AV.bool false)])) fun v89 =>
    O.bv (O.ev .pick [v75, (AV.bool true), v89]) fun v90 =>
    O.ifB v90 (
      O.ret (AV.bool false) g87
    ) (
      O.bv (O.gt (O.gv v62 true) (some t8)) fun v91 =>
      O.bv (O.ev .pick [v62, v91, (AV.bool false)]) fun v92 =>
      O.bv (O.gt (O.gv v92 true) (some t0)) fun v93 =>
      O.bv (O.gt (O.gv v92 true) (O.ev (.bin .neq) [v93, (AV.str [61, 62])])) fun v94 =>
      O.bv (O.ev .pick [v92, v94, (AV.bool false)]) fun v95 =>
      O.bv (O.gt (O.gv v95 true) (some t0)) fun v96 =>
      O.bv (O.gt (O.gv v95 true) (O.ev (.bin .neq) [v96, (AV.str [87])])) fun v97 =>
      O.bv (O.ev .pick [v95, v97, (AV.bool false)]) fun v98 =>
      O.bv (O.gt (O.gv v98 true) (some t0)) fun v99 =>
      O.bv (O.gt (O.gv v98 true) (O.ev (.bin .neq) [v99, (AV.str [70])])) fun v100 =>
      O.bv (O.ev .pick [v98, v100, (AV.bool false)]) fun v101 =>
      O.bv (O.gt (O.gv v101 true) (some t0)) fun v102 =>
      O.bv (O.gt (O.gv v101 true) (O.ev (.bin .neq) [v102, (AV.str [71])])) fun v103 =>
      O.bv (O.ev .pick [v101, v103, (AV.bool false)]) fun v104 =>
      O.bv (O.gt (O.gv v104 true) (some t0)) fun v105 =>
      O.bv (O.gt (O.gv v104 true) (O.ev (.bin .neq) [v105, (AV.str [33])])) fun v106 =>
      O.bv (O.gt (O.gv v104 true) (some v106)) fun v107 =>
      O.onG (O.gv v107 false) (
        O.bv (O.gt (O.gv v107 false) (O.part l7 2 1 false)) fun v108 =>
        O.bv (O.gt (O.gv v107 false) (O.ev (.idxAddr 4) [v108, (AV.int .i64 0)])) fun v109 =>
        O.bv (O.gt (O.gv v107 false) (O.ev (.fieldAddr 0) [v109])) fun v110 =>
        O.bv (O.gt (O.gv v107 false) (O.ev (.ld 1 false) [v110])) fun v111 =>
        O.bv (O.gt (O.gv v107 false) (O.ev (.bin .eql) [v111, (AV.str [108, 97, 98, 101, 108])])) fun v112 =>
        O.bv (O.gt (O.gv v104 true) (O.ev .pick [v107, (AV.bool true), v112])) fun v113 =>
        O.bv (O.ev .pick [v104, v113, (AV.bool false)]) fun v114 =>
        O.br (C 5 [l7] g87) fun v115 g116 =>
        O.bv (O.ev (.extract 0) [v115]) fun v117 =>
        O.bv (O.ev (.extract 1) [v115]) fun v118 =>
        O.bv (O.shape 4 true (AV.agg [.str [], .str [], .list true 4 [], .int .i64 0])) fun c119 =>
        O.bv (O.shape 4 true v117) fun c120 =>
        O.br (C 2 [l7] g116) fun v121 g122 =>
        O.bv (O.ev (.eq false .b) [v121, v114]) fun v123 =>
        O.bv (O.gt (O.gv v123 true) (some v118)) fun v124 =>
        O.bv (O.gt (O.gv v123 true) (O.ev (.eq false .i) [v124, (AV.nili)])) fun v125 =>
        O.bv (O.gt (O.gv v123 true) (some v114)) fun v126 =>
        O.bv (O.gt (O.gv v123 true) (O.ev (.eq false .b) [v125, v126])) fun v127 =>
        O.bv (O.ev .pick [v123, v127, (AV.bool false)]) fun v128 =>
        O.ret v128 g122
      ) (
        O.bv (O.gt (O.gv v107 false) none) fun v108 =>
        O.bv (O.gt (O.gv v107 false) (O.ev (.idxAddr 4) [v108, (AV.int .i64 0)])) fun v109 =>
        O.bv (O.gt (O.gv v107 false) (O.ev (.fieldAddr 0) [v109])) fun v110 =>
        O.bv (O.gt (O.gv v107 false) (O.ev (.ld 1 false) [v110])) fun v111 =>
        O.bv (O.gt (O.gv v107 false) (O.ev (.bin .eql) [v111, (AV.str [108, 97, 98, 101, 108])])) fun v112 =>
        O.bv (O.gt (O.gv v104 true) (O.ev .pick [v107, (AV.bool true), v112])) fun v113 =>
        O.bv (O.ev .pick [v104, v113, (AV.bool false)]) fun v114 =>
        O.br (C 5 [l7] g87) fun v115 g116 =>
        O.bv (O.ev (.extract 0) [v115]) fun v117 =>
        O.bv (O.ev (.extract 1) [v115]) fun v118 =>
        O.bv (O.shape 4 true (AV.agg [.str [], .str [], .list true 4 [], .int .i64 0])) fun c119 =>
        O.bv (O.shape 4 true v117) fun c120 =>
        O.br (C 2 [l7] g116) fun v121 g122 =>
        O.bv (O.ev (.eq false .b) [v121, v114]) fun v123 =>
        O.bv (O.gt (O.gv v123 true) (some v118)) fun v124 =>
        O.bv (O.gt (O.gv v123 true) (O.ev (.eq false .i) [v124, (AV.nili)])) fun v125 =>
        O.bv (O.gt (O.gv v123 true) (some v114)) fun v126 =>
        O.bv (O.gt (O.gv v123 true) (O.ev (.eq false .b) [v125, v126])) fun v127 =>
        O.bv (O.ev .pick [v123, v127, (AV.bool false)]) fun v128 =>
        O.ret v128 g122
      )
    )
  )
noncomputable def sh6 (O : Ops) (C : Call) (a0 a1 a2 : AV) (h0 : H) : R :=
  O.br (C 0 [] h0) fun v1 g2 =>
  O.bv (O.ev (.un .not) [v1]) fun v3 =>
  O.ifB v3 (
    O.ret (AV.bool false) g2
  ) (
    O.bv (O.ev .lenL [a2]) fun v4 =>
    O.bv (O.ev (.bin .gtr) [v4, (AV.int .i64 4)]) fun v5 =>
    O.ifB v5 (
      O.ret (AV.bool true) g2
    ) (
      O.bv (O.ev (.build [.str [], .str [], .list true 4 [], .int .i64 0] [(0, 1, false), (1, 1, false)]) [a0, a1]) fun v6 =>
      O.bv (O.shape 4 true (AV.agg [.str [], .str [], .list true 4 [], .int .i64 0])) fun c7 =>
      O.bv (O.claim c7 true [2]) fun c8 =>
      O.bv (O.shape 4 true v6) fun c9 =>
      O.bv (O.claim c9 true [2]) fun c10 =>
      O.loop (fun S1 => fun q => sh6_L2 O C S1 (nth q.1 0) (nth q.1 1) (nth q.1 2) (nth q.1 3) (nth q.1 4) q.2) ([a0, a2, (AV.bool true), (AV.int .i64 0), c10], g2)
    )
  )
theorem sh6_eq (O : Ops) (C : Call) (a0 a1 a2 : AV) (h : H) : execF2 O C ir6 [a0, a1, a2] h = sh6 O C a0 a1 a2 h := by kernel_rfl

/-- sortilege/sortilegelaw15.NnfTwice -/
noncomputable def sh8 (O : Ops) (C : Call) (a0 : AV) (h0 : H) : R :=
  O.br (C 0 [] h0) fun v1 g2 =>
  O.bv (O.ev (.un .not) [v1]) fun v3 =>
  O.ifB v3 (
    O.ret (AV.bool false) g2
  ) (
    O.bv (O.ev .lenS [a0]) fun v4 =>
    O.bv (O.ev (.bin .gtr) [v4, (AV.int .i64 200)]) fun v5 =>
    O.ifB v5 (
      O.ret (AV.bool true) g2
    ) (
      O.br (C 1 [a0, (AV.int .i64 64)] g2) fun v6 g7 =>
      O.bv (O.ev (.extract 0) [v6]) fun v8 =>
      O.bv (O.ev (.extract 1) [v6]) fun v9 =>
      O.bv (O.shape 4 true (AV.agg [.str [], .str [], .list true 4 [], .int .i64 0])) fun c10 =>
      O.bv (O.shape 4 true v8) fun c11 =>
      O.bv (O.ev (.eq true .i) [v9, (AV.nili)]) fun v12 =>
      O.ifB v12 (
        O.ret (AV.bool true) g7
      ) (
        O.br (C 3 [c11, (AV.bool false)] g7) fun v13 g14 =>
        O.bv (O.ev (.extract 0) [v13]) fun v15 =>
        O.bv (O.ev (.extract 1) [v13]) fun v16 =>
        O.bv (O.shape 4 true (AV.agg [.str [], .str [], .list true 4 [], .int .i64 0])) fun c17 =>
        O.bv (O.shape 4 true v15) fun c18 =>
        O.bv (O.ev (.eq true .i) [v16, (AV.nili)]) fun v19 =>
        O.ifB v19 (
          O.br (C 4 [v16] g14) fun v20 g21 =>
          O.bv (O.ev (.bin .eql) [v20, (AV.int .i64 2)]) fun v22 =>
          O.ret v22 g21
        ) (
          O.br (C 3 [c18, (AV.bool false)] g14) fun v20 g21 =>
          O.bv (O.ev (.extract 0) [v20]) fun v22 =>
          O.bv (O.ev (.extract 1) [v20]) fun v23 =>
          O.bv (O.shape 4 true (AV.agg [.str [], .str [], .list true 4 [], .int .i64 0])) fun c24 =>
          O.bv (O.shape 4 true v22) fun c25 =>
          O.br (C 3 [c18, (AV.bool true)] g21) fun v26 g27 =>
          O.bv (O.ev (.extract 0) [v26]) fun v28 =>
          O.bv (O.ev (.extract 1) [v26]) fun v29 =>
          O.bv (O.shape 4 true (AV.agg [.str [], .str [], .list true 4 [], .int .i64 0])) fun c30 =>
          O.bv (O.shape 4 true v28) fun c31 =>
          O.bv (O.ev (.eq true .i) [v23, (AV.nili)]) fun v32 =>
          O.bv (O.gt (O.gv v32 false) (some c18)) fun v33 =>
          O.bv (O.gt (O.gv v32 false) (some c25)) fun v34 =>
          O.br (O.gr (O.gv v32 false) (C 7 [v33, v34] g27) g27) fun v35 g36 =>
          O.bv (O.gt (O.gv v32 false) (O.ev (.un .not) [v35])) fun v37 =>
          O.bv (O.ev .pick [v32, (AV.bool true), v37]) fun v38 =>
          O.ifB v38 (
            O.ret (AV.bool false) g36
          ) (
            O.br (C 5 [c18] g36) fun v39 g40 =>
            O.bv (O.ev (.extract 0) [v39]) fun v41 =>
            O.bv (O.ev (.extract 1) [v39]) fun v42 =>
            O.bv (O.shape 4 true (AV.agg [.str [], .str [], .list true 4 [], .int .i64 0])) fun c43 =>
            O.bv (O.shape 4 true v41) fun c44 =>
            O.br (C 5 [c44] g40) fun v45 g46 =>
            O.bv (O.ev (.extract 0) [v45]) fun v47 =>
            O.bv (O.ev (.extract 1) [v45]) fun v48 =>
            O.bv (O.shape 4 true (AV.agg [.str [], .str [], .list true 4 [], .int .i64 0])) fun c49 =>
            O.bv (O.shape 4 true v47) fun c50 =>
            O.bv (O.ev (.eq true .i) [v42, (AV.nili)]) fun v51 =>
            O.bv (O.gt (O.gv v51 false) (some v48)) fun v52 =>
            O.bv (O.gt (O.gv v51 false) (O.ev (.eq true .i) [v52, (AV.nili)])) fun v53 =>
            O.bv (O.ev .pick [v51, (AV.bool true), v53]) fun v54 =>
            O.bv (O.gt (O.gv v54 false) (some c44)) fun v55 =>
            O.bv (O.gt (O.gv v54 false) (some c50)) fun v56 =>
            O.br (O.gr (O.gv v54 false) (C 7 [v55, v56] g46) g46) fun v57 g58 =>
            O.bv (O.gt (O.gv v54 false) (O.ev (.un .not) [v57])) fun v59 =>
            O.bv (O.ev .pick [v54, (AV.bool true), v59]) fun v60 =>
            O.ifB v60 (
              O.ret (AV.bool false) g58
            ) (
              O.bv (O.ev (.eq true .i) [v29, (AV.nili)]) fun v61 =>
              O.ifB v61 (
                O.br (C 4 [v29] g58) fun v62 g63 =>
                O.bv (O.ev (.bin .eql) [v62, (AV.int .i64 2)]) fun v64 =>
                O.ret v64 g63
              ) (
                O.br (C 3 [c31, (AV.bool true)] g58) fun v62 g63 =>
                O.bv (O.ev (.extract 0) [v62]) fun v64 =>
                O.bv (O.ev (.extract 1) [v62]) fun v65 =>
                O.bv (O.shape 4 true (AV.agg [.str [], .str [], .list true 4 [], .int .i64 0])) fun c66 =>
                O.bv (O.shape 4 true v64) fun c67 =>
                O.bv (O.ev (.eq false .i) [v65, (AV.nili)]) fun v68 =>
                O.bv (O.gt (O.gv v68 true) (some c67)) fun v69 =>
                O.bv (O.gt (O.gv v68 true) (some c18)) fun v70 =>
                O.br (O.gr (O.gv v68 true) (C 7 [v69, v70] g63) g63) fun v71 g72 =>
                O.bv (O.ev .pick [v68, v71, (AV.bool false)]) fun v73 =>
                O.ret v73 g72
              )
            )
          )
        )
      )
    )
  )
theorem sh8_eq (O : Ops) (C : Call) (a0 : AV) (h : H) : execF2 O C ir8 [a0] h = sh8 O C a0 h := by kernel_rfl

/-- sortilege/sortilegelaw15.alive -/
noncomputable def sh0 (O : Ops) (C : Call) (h0 : H) : R :=
  O.br (C 1 [(AV.str [71, 32, 40, 34, 97, 34, 32, 61, 62, 32, 70, 32, 34, 98, 34, 41]), (AV.int .i64 9)] h0) fun v1 g2 =>
  O.bv (O.ev (.extract 0) [v1]) fun v3 =>
  O.bv (O.ev (.extract 1) [v1]) fun v4 =>
  O.bv (O.shape 4 true (AV.agg [.str [], .str [], .list true 4 [], .int .i64 0])) fun c5 =>
  O.bv (O.shape 4 true v3) fun c6 =>
  O.br (C 3 [c6, (AV.bool false)] g2) fun v7 g8 =>
  O.bv (O.ev (.extract 0) [v7]) fun v9 =>
  O.bv (O.ev (.extract 1) [v7]) fun v10 =>
  O.bv (O.shape 4 true (AV.agg [.str [], .str [], .list true 4 [], .int .i64 0])) fun c11 =>
  O.bv (O.shape 4 true v9) fun c12 =>
  O.bv (O.ev (.build [.str [], .str [], .list true 4 [], .int .i64 0] []) []) fun v13 =>
  O.br (C 3 [v13, (AV.bool false)] g8) fun v14 g15 =>
  O.bv (O.ev (.extract 0) [v14]) fun v16 =>
  O.bv (O.ev (.extract 1) [v14]) fun v17 =>
  O.bv (O.shape 4 true (AV.agg [.str [], .str [], .list true 4 [], .int .i64 0])) fun c18 =>
  O.bv (O.shape 4 true v16) fun c19 =>
  O.bv (O.ev (.eq false .i) [v4, (AV.nili)]) fun v20 =>
  O.bv (O.gt (O.gv v20 true) (some v10)) fun v21 =>
  O.bv (O.gt (O.gv v20 true) (O.ev (.eq false .i) [v21, (AV.nili)])) fun v22 =>
  O.bv (O.ev .pick [v20, v22, (AV.bool false)]) fun v23 =>
  O.bv (O.gt (O.gv v23 true) (some c12)) fun v24 =>
  O.br (O.gr (O.gv v23 true) (C 9 [v24] g15) g15) fun v25 g26 =>
  O.bv (O.gt (O.gv v23 true) (O.ev (.bin .eql) [v25, (AV.str [102, 97, 108, 115, 101, 32, 82, 32, 40, 33, 34, 97, 34, 32, 124, 32, 116, 114, 117, 101, 32, 85, 32, 34, 98, 34, 41])])) fun v27 =>
  O.bv (O.ev .pick [v23, v27, (AV.bool false)]) fun v28 =>
  O.bv (O.gt (O.gv v28 true) (some c12)) fun v29 =>
  O.br (O.gr (O.gv v28 true) (C 2 [v29] g26) g26) fun v30 g31 =>
  O.bv (O.ev .pick [v28, v30, (AV.bool false)]) fun v32 =>
  O.bv (O.gt (O.gv v32 true) (some c6)) fun v33 =>
  O.br (O.gr (O.gv v32 true) (C 2 [v33] g31) g31) fun v34 g35 =>
  O.bv (O.gt (O.gv v32 true) (O.ev (.un .not) [v34])) fun v36 =>
  O.bv (O.ev .pick [v32, v36, (AV.bool false)]) fun v37 =>
  O.bv (O.gt (O.gv v37 true) (some v17)) fun v38 =>
  O.br (O.gr (O.gv v37 true) (C 4 [v38] g35) g35) fun v39 g40 =>
  O.bv (O.gt (O.gv v37 true) (O.ev (.bin .eql) [v39, (AV.int .i64 1)])) fun v41 =>
  O.bv (O.ev .pick [v37, v41, (AV.bool false)]) fun v42 =>
  O.ret v42 g40
theorem sh0_eq (O : Ops) (C : Call) (h : H) : execF2 O C ir0 [] h = sh0 O C  h := by kernel_rfl

/-- sortilege/prop.Parse -/
noncomputable def sh1 (O : Ops) (C : Call) (a0 a1 : AV) (h0 : H) : R :=
  O.bv (O.shape 4 true (AV.agg [.str [], .str [], .list true 4 [], .int .i64 0])) fun c1 =>
  O.br (C 10 [a0, a1] ({ h0 with floors := H.size h0 :: h0.floors } : H)) fun v2 g3 =>
  O.bv (O.ev (.extract 0) [v2]) fun v4 =>
  O.bv (O.ev (.extract 1) [v2]) fun v5 =>
  O.bv (O.ev (.eq true .i) [v5, (AV.nili)]) fun v6 =>
  O.ifB v6 (
    O.bv (O.ev (.build [.str [], .str [], .list true 4 [], .int .i64 0] []) []) fun v7 =>
    O.bv (O.shape 4 true v7) fun c8 =>
    O.rett h0 (AV.tuple [c8, v5]) g3
  ) (
    O.br (C 11 [v4, (AV.int .i64 1)] g3) fun v7 g8 =>
    O.bv (O.ev (.extract 0) [v7]) fun v9 =>
    O.bv (O.ev (.extract 1) [v7]) fun v10 =>
    O.bv (O.shape 4 true (AV.agg [.str [], .str [], .list true 4 [], .int .i64 0])) fun c11 =>
    O.bv (O.shape 4 true v9) fun c12 =>
    O.bv (O.ev (.eq true .i) [v10, (AV.nili)]) fun v13 =>
    O.ifB v13 (
      O.bv (O.ev (.build [.str [], .str [], .list true 4 [], .int .i64 0] []) []) fun v14 =>
      O.bv (O.shape 4 true v14) fun c15 =>
      O.rett h0 (AV.tuple [c15, v10]) g8
    ) (
      O.bv (O.ev .nilchk [v4]) fun v14 =>
      O.bv (O.ev (.fieldAddr 0) [v14]) fun v15 =>
      O.bv (O.hload g8 v15 1 false) fun v16 =>
      O.br (C 12 [v16] g8) fun v17 g18 =>
      O.bv (O.ev (.field 0 1 false) [v17]) fun v19 =>
      O.bv (O.ev (.bin .neq) [v19, (AV.int .i64 0)]) fun v20 =>
      O.ifB v20 (
        O.bv (O.ev (.build [.str [], .str [], .list true 4 [], .int .i64 0] []) []) fun v21 =>
        O.bv (O.ev (.iface 0) [(AV.int .i64 20)]) fun v22 =>
        O.br (C 13 [v4, v22] g18) fun v23 g24 =>
        O.bv (O.shape 4 true v21) fun c25 =>
        O.rett h0 (AV.tuple [c25, v23]) g24
      ) (
        O.bv (O.shape 4 true c12) fun c21 =>
        O.rett h0 (AV.tuple [c21, (AV.nili)]) g18
      )
    )
  )
theorem sh1_eq (O : Ops) (C : Call) (a0 a1 : AV) (h : H) : execF2 O C ir1 [a0, a1] h = sh1 O C a0 a1 h := by kernel_rfl

/-- sortilege/nnf.Is -/
noncomputable def sh2_L1 (O : Ops) (C : Call) (S1 : St → R) (t43 t44 t45 : AV) (h : H) : R :=
  O.bv (O.ev (.bin .lss) [t45, t44]) fun v1 =>
  O.ifB v1 (
    O.bv (O.ev (.idxAddr 4) [t43, t45]) fun v2 =>
    O.bv (O.ev (.ld 4 true) [v2]) fun v3 =>
    O.bv (O.shape 4 true (AV.agg [.str [], .str [], .list true 4 [], .int .i64 0])) fun c4 =>
    O.bv (O.shape 4 true v3) fun c5 =>
    O.br (C 2 [c5] h) fun v6 g7 =>
    O.bv (O.ev (.un .not) [v6]) fun v8 =>
    O.ifB v8 (
      O.ret (AV.bool false) g7
    ) (
      O.bv (O.ev (.bin .add) [t45, (AV.int .i64 1)]) fun v9 =>
      S1 ([t43, t44, v9], g7)
    )
  ) (
    O.ret (AV.bool true) h
  )
noncomputable def sh2_J2 (O : Ops) (C : Call) (t1 t6 t7 : AV) (h : H) : R :=
  O.ifB t7 (
    O.ret (AV.bool false) h
  ) (
    O.bv (O.ev (.bin .eql) [t6, (AV.str [33])]) fun v1 =>
    O.ifB v1 (
      O.bv (O.ev (.fieldAddr 2) [t1]) fun v2 =>
      O.bv (O.ev (.ld 1 false) [v2]) fun v3 =>
      O.bv (O.ev .lenL [v3]) fun v4 =>
      O.bv (O.ev (.bin .eql) [v4, (AV.int .i64 1)]) fun v5 =>
      O.bv (O.gt (O.gv v5 true) (O.ev (.fieldAddr 2) [t1])) fun v6 =>
      O.bv (O.gt (O.gv v5 true) (O.ev (.ld 1 false) [v6])) fun v7 =>
      O.bv (O.gt (O.gv v5 true) (O.ev (.idxAddr 4) [v7, (AV.int .i64 0)])) fun v8 =>
      O.bv (O.gt (O.gv v5 true) (O.ev (.fieldAddr 0) [v8])) fun v9 =>
      O.bv (O.gt (O.gv v5 true) (O.ev (.ld 1 false) [v9])) fun v10 =>
      O.bv (O.gt (O.gv v5 true) (O.ev (.bin .eql) [v10, (AV.str [108, 97, 98, 101, 108])])) fun v11 =>
      O.bv (O.ev .pick [v5, v11, (AV.bool false)]) fun v12 =>
      O.bv (O.gt (O.gv v12 true) (O.ev (.fieldAddr 2) [t1])) fun v13 =>
      O.bv (O.gt (O.gv v12 true) (O.ev (.ld 1 false) [v13])) fun v14 =>
      O.bv (O.gt (O.gv v12 true) (O.ev (.idxAddr 4) [v14, (AV.int .i64 0)])) fun v15 =>
      O.bv (O.gt (O.gv v12 true) (O.ev (.fieldAddr 2) [v15])) fun v16 =>
      O.bv (O.gt (O.gv v12 true) (O.ev (.ld 1 false) [v16])) fun v17 =>
      O.bv (O.gt (O.gv v12 true) (O.ev .lenL [v17])) fun v18 =>
      O.bv (O.gt (O.gv v12 true) (O.ev (.bin .eql) [v18, (AV.int .i64 0)])) fun v19 =>
      O.bv (O.ev .pick [v12, v19, (AV.bool false)]) fun v20 =>
      O.ret v20 h
    ) (
      O.bv (O.ev (.fieldAddr 0) [t1]) fun v2 =>
      O.bv (O.ev (.ld 1 false) [v2]) fun v3 =>
      O.br (C 14 [v3] h) fun v4 g5 =>
      O.bv (O.ev (.fieldAddr 2) [t1]) fun v6 =>
      O.bv (O.ev (.ld 1 false) [v6]) fun v7 =>
      O.bv (O.ev .lenL [v7]) fun v8 =>
      O.bv (O.ev (.bin .neq) [v4, v8]) fun v9 =>
      O.ifB v9 (
        O.ret (AV.bool false) g5
      ) (
        O.bv (O.ev (.fieldAddr 2) [t1]) fun v10 =>
        O.bv (O.ev (.ld 1 false) [v10]) fun v11 =>
        O.bv (O.ev .lenL [v11]) fun v12 =>
        O.loop (fun S1 => fun q => sh2_L1 O C S1 (nth q.1 0) (nth q.1 1) (nth q.1 2) q.2) ([v11, v12, (AV.int .i64 0)], g5)
      )
    )
  )
noncomputable def sh2 (O : Ops) (C : Call) (a0 : AV) (h0 : H) : R :=
  O.bv (O.ev (.boxro 4 true) [a0]) fun v1 =>
  O.bv (O.ev (.fieldAddr 0) [v1]) fun v2 =>
  O.bv (O.ev (.ld 1 false) [v2]) fun v3 =>
  O.withK (fun q => sh2_J2 O C  (nth q.1 0) (nth q.1 1) (nth q.1 2) q.2) fun K2 =>
  O.bv (O.ev (.bin .eql) [v3, (AV.str [70])]) fun v4 =>
  O.ifB v4 (
    K2 ([v1, v3, v4], h0)
  ) (
    O.bv (O.ev (.bin .eql) [v3, (AV.str [71])]) fun v5 =>
    O.ifB v5 (
      K2 ([v1, v3, v5], h0)
    ) (
      O.bv (O.ev (.bin .eql) [v3, (AV.str [87])]) fun v6 =>
      O.ifB v6 (
        K2 ([v1, v3, v6], h0)
      ) (
        O.bv (O.ev (.bin .eql) [v3, (AV.str [61, 62])]) fun v7 =>
        K2 ([v1, v3, v7], h0)
      )
    )
  )
theorem sh2_eq (O : Ops) (C : Call) (a0 : AV) (h : H) : execF2 O C ir2 [a0] h = sh2 O C a0 h := by kernel_rfl

/-- sortilege/nnf.Normal -/
noncomputable def sh3 (O : Ops) (C : Call) (a0 a1 : AV) (h0 : H) : R :=
  O.bv (O.ev (.boxro 4 true) [a0]) fun v1 =>
  O.bv (O.shape 4 true (AV.agg [.str [], .str [], .list true 4 [], .int .i64 0])) fun c2 =>
  O.bv (O.ev (.ld 4 true) [v1]) fun v3 =>
  O.br (C 15 [v3] ({ h0 with floors := H.size h0 :: h0.floors } : H)) fun v4 g5 =>
  O.bv (O.ev (.un .not) [v4]) fun v6 =>
  O.ifB v6 (
    O.bv (O.ev (.build [.str [], .str [], .list true 4 [], .int .i64 0] []) []) fun v7 =>
    O.bv (O.ev (.iface 0) [(AV.int .i64 1)]) fun v8 =>
    O.bv (O.shape 4 true v7) fun c9 =>
    O.rett h0 (AV.tuple [c9, v8]) g5
  ) (
    O.bv (O.ev (.ld 4 true) [v1]) fun v7 =>
    O.br (C 16 [v7] g5) fun v8 g9 =>
    O.bv (O.ev (.bin .gtr) [v8, (AV.int .i64 4096)]) fun v10 =>
    O.ifB v10 (
      O.bv (O.ev (.build [.str [], .str [], .list true 4 [], .int .i64 0] []) []) fun v11 =>
      O.bv (O.ev (.iface 0) [(AV.int .i64 2)]) fun v12 =>
      O.bv (O.shape 4 true v11) fun c13 =>
      O.rett h0 (AV.tuple [c13, v12]) g9
    ) (
      O.bv (O.ev (.build [.int .i64 0] [(0, 1, false)]) [(AV.int .i64 4096)]) fun v11 =>
      O.bv (O.shape 1 true v11) fun c12 =>
      O.bv (O.ev (.ld 4 true) [v1]) fun v13 =>
      O.br (C 17 [(AV.ptr (H.size g9) 0 0), v13, a1] (H.push g9 (.cells 1 true c12 []))) fun v14 g15 =>
      O.bv (O.shape 4 true (AV.agg [.str [], .str [], .list true 4 [], .int .i64 0])) fun c16 =>
      O.bv (O.shape 4 true v14) fun c17 =>
      O.bv (O.ev .nilchk [(AV.ptr (H.size g9) 0 0)]) fun v18 =>
      O.bv (O.ev (.fieldAddr 0) [v18]) fun v19 =>
      O.bv (O.hload g15 v19 1 false) fun v20 =>
      O.bv (O.ev (.bin .lss) [v20, (AV.int .i64 0)]) fun v21 =>
      O.ifB v21 (
        O.bv (O.ev (.build [.str [], .str [], .list true 4 [], .int .i64 0] []) []) fun v22 =>
        O.bv (O.ev (.iface 0) [(AV.int .i64 2)]) fun v23 =>
        O.bv (O.shape 4 true v22) fun c24 =>
        O.rett h0 (AV.tuple [c24, v23]) g15
      ) (
        O.bv (O.shape 4 true c17) fun c22 =>
        O.rett h0 (AV.tuple [c22, (AV.nili)]) g15
      )
    )
  )
theorem sh3_eq (O : Ops) (C : Call) (a0 a1 : AV) (h : H) : execF2 O C ir3 [a0, a1] h = sh3 O C a0 a1 h := by kernel_rfl

/-- sortilege/sortilegelaw01.Num -/
noncomputable def sh4 (O : Ops) (C : Call) (a0 : AV) (h0 : H) : R :=
  O.bv (O.ev (.eq false .i) [a0, (AV.nili)]) fun v1 =>
  O.ifB v1 (
    O.rett h0 (AV.int .i64 0) ({ h0 with floors := H.size h0 :: h0.floors } : H)
  ) (
    O.bv (O.shape 1 false (AV.int .i64 0)) fun c2 =>
    O.bv (O.ev (.iface 1) [(AV.ptr (H.size ({ h0 with floors := H.size h0 :: h0.floors } : H)) 0 0)]) fun v3 =>
    O.br (C 18 [a0, v3] (H.push ({ h0 with floors := H.size h0 :: h0.floors } : H) (.cells 1 false c2 []))) fun v4 g5 =>
    O.ifB v4 (
      O.bv (O.hload g5 (AV.ptr (H.size ({ h0 with floors := H.size h0 :: h0.floors } : H)) 0 0) 1 false) fun v6 =>
      O.rett h0 v6 g5
    ) (
      O.rett h0 (AV.int .i64 (-1)) g5
    )
  )
theorem sh4_eq (O : Ops) (C : Call) (a0 : AV) (h : H) : execF2 O C ir4 [a0] h = sh4 O C a0 h := by kernel_rfl

/-- sortilege/nnf.Simple -/
noncomputable def sh5 (O : Ops) (C : Call) (a0 : AV) (h0 : H) : R :=
  O.bv (O.ev (.boxro 4 true) [a0]) fun v1 =>
  O.bv (O.shape 4 true (AV.agg [.str [], .str [], .list true 4 [], .int .i64 0])) fun c2 =>
  O.bv (O.ev (.ld 4 true) [v1]) fun v3 =>
  O.br (C 2 [v3] h0) fun v4 g5 =>
  O.bv (O.ev (.un .not) [v4]) fun v6 =>
  O.ifB v6 (
    O.bv (O.ev (.build [.str [], .str [], .list true 4 [], .int .i64 0] []) []) fun v7 =>
    O.bv (O.ev (.iface 0) [(AV.int .i64 1)]) fun v8 =>
    O.bv (O.shape 4 true v7) fun c9 =>
    O.ret (AV.tuple [c9, v8]) g5
  ) (
    O.bv (O.ev (.ld 4 true) [v1]) fun v7 =>
    O.br (C 16 [v7] g5) fun v8 g9 =>
    O.bv (O.ev (.bin .gtr) [v8, (AV.int .i64 4096)]) fun v10 =>
    O.ifB v10 (
      O.bv (O.ev (.build [.str [], .str [], .list true 4 [], .int .i64 0] []) []) fun v11 =>
      O.bv (O.ev (.iface 0) [(AV.int .i64 2)]) fun v12 =>
      O.bv (O.shape 4 true v11) fun c13 =>
      O.ret (AV.tuple [c13, v12]) g9
    ) (
      O.bv (O.ev (.ld 4 true) [v1]) fun v11 =>
      O.br (C 19 [v11] g9) fun v12 g13 =>
      O.bv (O.shape 4 true v12) fun c14 =>
      O.ret (AV.tuple [c14, (AV.nili)]) g13
    )
  )
theorem sh5_eq (O : Ops) (C : Call) (a0 : AV) (h : H) : execF2 O C ir5 [a0] h = sh5 O C a0 h := by kernel_rfl

/-- sortilege/prop.Same -/
noncomputable def sh7 (O : Ops) (C : Call) (a0 a1 : AV) (h0 : H) : R :=
  O.bv (O.ev (.boxro 4 true) [a0]) fun v1 =>
  O.bv (O.ev (.boxro 4 true) [a1]) fun v2 =>
  O.bv (O.ev (.fieldAddr 0) [v1]) fun v3 =>
  O.bv (O.ev (.ld 1 false) [v3]) fun v4 =>
  O.bv (O.ev (.fieldAddr 0) [v2]) fun v5 =>
  O.bv (O.ev (.ld 1 false) [v5]) fun v6 =>
  O.bv (O.ev (.bin .eql) [v4, v6]) fun v7 =>
  O.bv (O.gt (O.gv v7 true) (O.ev (.fieldAddr 1) [v1])) fun v8 =>
  O.bv (O.gt (O.gv v7 true) (O.ev (.ld 1 false) [v8])) fun v9 =>
  O.bv (O.gt (O.gv v7 true) (O.ev (.fieldAddr 1) [v2])) fun v10 =>
  O.bv (O.gt (O.gv v7 true) (O.ev (.ld 1 false) [v10])) fun v11 =>
  O.bv (O.gt (O.gv v7 true) (O.ev (.bin .eql) [v9, v11])) fun v12 =>
  O.bv (O.ev .pick [v7, v12, (AV.bool false)]) fun v13 =>
  O.bv (O.gt (O.gv v13 true) (O.ev (.fieldAddr 2) [v1])) fun v14 =>
  O.bv (O.gt (O.gv v13 true) (O.ev (.ld 1 false) [v14])) fun v15 =>
  O.bv (O.gt (O.gv v13 true) (O.ev (.fieldAddr 2) [v2])) fun v16 =>
  O.bv (O.gt (O.gv v13 true) (O.ev (.ld 1 false) [v16])) fun v17 =>
  O.br (O.gr (O.gv v13 true) (C 20 [v15, v17, (AV.func 7 [] [])] h0) h0) fun v18 g19 =>
  O.bv (O.ev .pick [v13, v18, (AV.bool false)]) fun v20 =>
  O.ret v20 g19
theorem sh7_eq (O : Ops) (C : Call) (a0 a1 : AV) (h : H) : execF2 O C ir7 [a0, a1] h = sh7 O C a0 a1 h := by kernel_rfl

/-- sortilege/prop.Print -/
noncomputable def sh9_J1 (O : Ops) (C : Call) (t1 t4 t5 : AV) (h : H) : R :=
  O.bv (O.ev (.ld 4 true) [t1]) fun v1 =>
  O.br (C 22 [v1, (AV.int .i64 0), t4] h) fun v2 g3 =>
  O.bv (O.ev (.bin .add) [v2, (AV.str [32])]) fun v4 =>
  O.bv (O.ev (.fieldAddr 0) [t1]) fun v5 =>
  O.bv (O.ev (.ld 1 false) [v5]) fun v6 =>
  O.bv (O.ev (.bin .add) [v4, v6]) fun v7 =>
  O.bv (O.ev (.bin .add) [v7, (AV.str [32])]) fun v8 =>
  O.bv (O.ev (.ld 4 true) [t1]) fun v9 =>
  O.br (C 22 [v9, (AV.int .i64 1), t5] g3) fun v10 g11 =>
  O.bv (O.ev (.bin .add) [v8, v10]) fun v12 =>
  O.ret v12 g11
noncomputable def sh9_J2 (O : Ops) (C : Call) (K1 : St → R) (t1 t3 t4 t5 t38 : AV) (h : H) : R :=
  O.ifB t38 (
    O.bv (O.ev (.bin .add) [t3, (AV.int .i64 1)]) fun v1 =>
    K1 ([t1, v1, t3], h)
  ) (
    K1 ([t1, t4, t5], h)
  )
noncomputable def sh9 (O : Ops) (C : Call) (a0 : AV) (h0 : H) : R :=
  O.bv (O.ev (.boxro 4 true) [a0]) fun v1 =>
  O.bv (O.ev (.fieldAddr 0) [v1]) fun v2 =>
  O.bv (O.ev (.ld 1 false) [v2]) fun v3 =>
  O.br (C 21 [v3] h0) fun v4 g5 =>
  O.bv (O.ev (.bin .add) [v4, (AV.int .i64 1)]) fun v6 =>
  O.withK (fun q => sh9_J1 O C  (nth q.1 0) (nth q.1 1) (nth q.1 2) q.2) fun K1 =>
  O.bv (O.ev (.bin .eql) [v4, (AV.int .i64 6)]) fun v7 =>
  O.ifB v7 (
    O.bv (O.ev (.fieldAddr 0) [v1]) fun v8 =>
    O.bv (O.ev (.ld 1 false) [v8]) fun v9 =>
    O.bv (O.ev (.bin .eql) [v9, (AV.str [108, 97, 98, 101, 108])]) fun v10 =>
    O.ifB v10 (
      O.bv (O.ev (.fieldAddr 1) [v1]) fun v11 =>
      O.bv (O.ev (.ld 1 false) [v11]) fun v12 =>
      O.bv (O.ev (.bin .add) [(AV.str [34]), v12]) fun v13 =>
      O.bv (O.ev (.bin .add) [v13, (AV.str [34])]) fun v14 =>
      O.ret v14 g5
    ) (
      O.bv (O.ev (.fieldAddr 0) [v1]) fun v11 =>
      O.bv (O.ev (.ld 1 false) [v11]) fun v12 =>
      O.ret v12 g5
    )
  ) (
    O.bv (O.ev (.bin .eql) [v4, (AV.int .i64 5)]) fun v8 =>
    O.ifB v8 (
      O.bv (O.ev (.fieldAddr 0) [v1]) fun v9 =>
      O.bv (O.ev (.ld 1 false) [v9]) fun v10 =>
      O.bv (O.ev (.bin .eql) [v10, (AV.str [33])]) fun v11 =>
      O.ifB v11 (
        O.bv (O.ev (.ld 4 true) [v1]) fun v12 =>
        O.br (C 22 [v12, (AV.int .i64 0), (AV.int .i64 5)] g5) fun v13 g14 =>
        O.bv (O.ev (.bin .add) [(AV.str [33]), v13]) fun v15 =>
        O.ret v15 g14
      ) (
        O.bv (O.ev (.fieldAddr 0) [v1]) fun v12 =>
        O.bv (O.ev (.ld 1 false) [v12]) fun v13 =>
        O.bv (O.ev (.bin .add) [v13, (AV.str [32])]) fun v14 =>
        O.bv (O.ev (.ld 4 true) [v1]) fun v15 =>
        O.br (C 22 [v15, (AV.int .i64 0), (AV.int .i64 5)] g5) fun v16 g17 =>
        O.bv (O.ev (.bin .add) [v14, v16]) fun v18 =>
        O.ret v18 g17
      )
    ) (
      O.withK (fun q => sh9_J2 O C K1 (nth q.1 0) (nth q.1 1) (nth q.1 2) (nth q.1 3) (nth q.1 4) q.2) fun K2 =>
      O.bv (O.ev (.bin .eql) [v4, (AV.int .i64 1)]) fun v9 =>
      O.ifB v9 (
        K2 ([v1, v4, v4, v6, v9], g5)
      ) (
        O.bv (O.ev (.bin .eql) [v4, (AV.int .i64 4)]) fun v10 =>
        K2 ([v1, v4, v4, v6, v10], g5)
      )
    )
  )
theorem sh9_eq (O : Ops) (C : Call) (a0 : AV) (h : H) : execF2 O C ir9 [a0] h = sh9 O C a0 h := by kernel_rfl

/-- sortilege/prop.begin -/
noncomputable def sh10 (O : Ops) (C : Call) (a0 a1 : AV) (h0 : H) : R :=
  O.bv (O.ev (.bin .lss) [a1, (AV.int .i64 1)]) fun v1 =>
  O.bv (O.gt (O.gv v1 false) (some a1)) fun v2 =>
  O.bv (O.gt (O.gv v1 false) (O.ev (.bin .gtr) [v2, (AV.int .i64 64)])) fun v3 =>
  O.bv (O.ev .pick [v1, (AV.bool true), v3]) fun v4 =>
  O.ifB v4 (
    O.bv (O.ev (.iface 0) [(AV.int .i64 1)]) fun v5 =>
    O.ret (AV.tuple [(AV.nilp), v5]) h0
  ) (
    O.br (C 23 [a0] h0) fun v5 g6 =>
    O.bv (O.ev (.extract 0) [v5]) fun v7 =>
    O.bv (O.ev (.extract 1) [v5]) fun v8 =>
    O.bv (O.ev (.eq true .i) [v8, (AV.nili)]) fun v9 =>
    O.ifB v9 (
      O.ret (AV.tuple [(AV.nilp), v8]) g6
    ) (
      O.bv (O.ev (.build [.nilp, .int .i64 0] [(0, 1, false), (1, 1, false)]) [v7, a1]) fun v10 =>
      O.bv (O.shape 2 true v10) fun c11 =>
      O.ret (AV.tuple [(AV.ptr (H.size g6) 0 0), (AV.nili)]) (H.push g6 (.cells 2 true c11 []))
    )
  )
theorem sh10_eq (O : Ops) (C : Call) (a0 a1 : AV) (h : H) : execF2 O C ir10 [a0, a1] h = sh10 O C a0 a1 h := by kernel_rfl

/-- (*sortilege/prop.parser).imply -/
noncomputable def sh11 (O : Ops) (C : Call) (a0 a1 : AV) (h0 : H) : R :=
  O.bv (O.ev (.boxro 1 false) [a0]) fun v1 =>
  O.bv (O.shape 4 true (AV.agg [.str [], .str [], .list true 4 [], .int .i64 0])) fun c2 =>
  O.bv (O.ev (.ld 1 false) [v1]) fun v3 =>
  O.bv (O.ev .nilchk [v3]) fun v4 =>
  O.bv (O.ev (.fieldAddr 1) [v4]) fun v5 =>
  O.bv (O.hload h0 v5 1 false) fun v6 =>
  O.bv (O.ev (.bin .gtr) [a1, v6]) fun v7 =>
  O.ifB v7 (
    O.bv (O.ev (.build [.str [], .str [], .list true 4 [], .int .i64 0] []) []) fun v8 =>
    O.bv (O.ev (.ld 1 false) [v1]) fun v9 =>
    O.bv (O.ev (.iface 0) [(AV.int .i64 21)]) fun v10 =>
    O.br (C 13 [v9, v10] h0) fun v11 g12 =>
    O.bv (O.shape 4 true v8) fun c13 =>
    O.ret (AV.tuple [c13, v11]) g12
  ) (
    O.bv (O.ev (.ld 1 false) [v1]) fun v8 =>
    O.bv (O.ev (.mkfunc 24 0) [v1]) fun v9 =>
    O.br (C 25 [v8, (AV.str [124]), a1, v9] h0) fun v10 g11 =>
    O.bv (O.ev (.extract 0) [v10]) fun v12 =>
    O.bv (O.ev (.extract 1) [v10]) fun v13 =>
    O.bv (O.shape 4 true (AV.agg [.str [], .str [], .list true 4 [], .int .i64 0])) fun c14 =>
    O.bv (O.shape 4 true v12) fun c15 =>
    O.bv (O.ev (.eq true .i) [v13, (AV.nili)]) fun v16 =>
    O.ifB v16 (
      O.bv (O.ev (.build [.str [], .str [], .list true 4 [], .int .i64 0] []) []) fun v17 =>
      O.bv (O.shape 4 true v17) fun c18 =>
      O.ret (AV.tuple [c18, v13]) g11
    ) (
      O.bv (O.ev (.ld 1 false) [v1]) fun v17 =>
      O.bv (O.ev (.ld 1 false) [v1]) fun v18 =>
      O.bv (O.ev (.mkfunc 11 1) [v18]) fun v19 =>
      O.bv (O.ev (.mkList 1 false) [(AV.str [61, 62])]) fun v20 =>
      O.br (C 26 [v17, a1, c15, v19, v20] g11) fun v21 g22 =>
      O.bv (O.ev (.extract 0) [v21]) fun v23 =>
      O.bv (O.ev (.extract 1) [v21]) fun v24 =>
      O.bv (O.shape 4 true v23) fun c25 =>
      O.ret (AV.tuple [c25, v24]) g22
    )
  )
theorem sh11_eq (O : Ops) (C : Call) (a0 a1 : AV) (h : H) : execF2 O C ir11 [a0, a1] h = sh11 O C a0 a1 h := by kernel_rfl

/-- (*sortilege/scan.Reader).Peek -/
noncomputable def sh12 (O : Ops) (C : Call) (a0 : AV) (h0 : H) : R :=
  O.bv (O.shape 3 true (AV.agg [.int .i64 0, .str [], .int .i64 0])) fun c1 =>
  O.bv (O.ev (.eq false .p) [a0, (AV.nilp)]) fun v2 =>
  O.ifB v2 (
    O.bv (O.ev (.build [.int .i64 0, .str [], .int .i64 0] []) []) fun v3 =>
    O.bv (O.shape 3 true v3) fun c4 =>
    O.ret c4 h0
  ) (
    O.bv (O.ev .nilchk [a0]) fun v3 =>
    O.bv (O.ev (.fieldAddr 0) [v3]) fun v4 =>
    O.bv (O.hload h0 v4 1 false) fun v5 =>
    O.bv (O.ev .nilchk [a0]) fun v6 =>
    O.bv (O.ev (.fieldAddr 1) [v6]) fun v7 =>
    O.bv (O.hload h0 v7 1 false) fun v8 =>
    O.bv (O.ev (.idxAddr 3) [v5, v8]) fun v9 =>
    O.bv (O.ev (.ld 3 true) [v9]) fun v10 =>
    O.bv (O.shape 3 true v10) fun c11 =>
    O.ret c11 h0
  )
theorem sh12_eq (O : Ops) (C : Call) (a0 : AV) (h : H) : execF2 O C ir12 [a0] h = sh12 O C a0 h := by kernel_rfl

/-- (*sortilege/prop.parser).at -/
noncomputable def sh13 (O : Ops) (C : Call) (a0 a1 : AV) (h0 : H) : R :=
  O.bv (O.ev .nilchk [a0]) fun v1 =>
  O.bv (O.ev (.fieldAddr 0) [v1]) fun v2 =>
  O.bv (O.hload h0 v2 1 false) fun v3 =>
  O.br (C 12 [v3] h0) fun v4 g5 =>
  O.bv (O.ev (.field 2 1 false) [v4]) fun v6 =>
  O.bv (O.ev (.build [.int .i64 0, .nili] [(0, 1, false), (1, 1, false)]) [v6, a1]) fun v7 =>
  O.bv (O.ev (.boxro 2 true) [v7]) fun v8 =>
  O.bv (O.ev (.iface 2) [v8]) fun v9 =>
  O.ret v9 g5
theorem sh13_eq (O : Ops) (C : Call) (a0 a1 : AV) (h : H) : execF2 O C ir13 [a0, a1] h = sh13 O C a0 a1 h := by kernel_rfl

/-- sortilege/nnf.kids -/
noncomputable def sh14_J1 (O : Ops) (C : Call) (t3 : AV) (h : H) : R :=
  O.bv (O.ev (.bin .eql) [t3, (AV.str [85])]) fun v1 =>
  O.ifB v1 (
    O.ifB v1 (
      O.ret (AV.int .i64 2) h
    ) (
      O.ret (AV.int .i64 (-1)) h
    )
  ) (
    O.bv (O.ev (.bin .eql) [t3, (AV.str [87])]) fun v2 =>
    O.ifB v2 (
      O.ifB v2 (
        O.ret (AV.int .i64 2) h
      ) (
        O.ret (AV.int .i64 (-1)) h
      )
    ) (
      O.bv (O.ev (.bin .eql) [t3, (AV.str [82])]) fun v3 =>
      O.ifB v3 (
        O.ret (AV.int .i64 2) h
      ) (
        O.ret (AV.int .i64 (-1)) h
      )
    )
  )
noncomputable def sh14_J2 (O : Ops) (C : Call) (t3 : AV) (h : H) : R :=
  O.withK (fun q => sh14_J1 O C  (nth q.1 0) q.2) fun K1 =>
  O.bv (O.ev (.bin .eql) [t3, (AV.str [38])]) fun v1 =>
  O.ifB v1 (
    O.ifB v1 (
      O.ret (AV.int .i64 2) h
    ) (
      K1 ([t3], h)
    )
  ) (
    O.bv (O.ev (.bin .eql) [t3, (AV.str [124])]) fun v2 =>
    O.ifB v2 (
      O.ifB v2 (
        O.ret (AV.int .i64 2) h
      ) (
        K1 ([t3], h)
      )
    ) (
      O.bv (O.ev (.bin .eql) [t3, (AV.str [61, 62])]) fun v3 =>
      O.ifB v3 (
        O.ret (AV.int .i64 2) h
      ) (
        K1 ([t3], h)
      )
    )
  )
noncomputable def sh14_J3 (O : Ops) (C : Call) (t3 : AV) (h : H) : R :=
  O.withK (fun q => sh14_J2 O C  (nth q.1 0) q.2) fun K2 =>
  O.bv (O.ev (.bin .eql) [t3, (AV.str [33])]) fun v1 =>
  O.ifB v1 (
    O.ifB v1 (
      O.ret (AV.int .i64 1) h
    ) (
      K2 ([t3], h)
    )
  ) (
    O.bv (O.ev (.bin .eql) [t3, (AV.str [88])]) fun v2 =>
    O.ifB v2 (
      O.ifB v2 (
        O.ret (AV.int .i64 1) h
      ) (
        K2 ([t3], h)
      )
    ) (
      O.bv (O.ev (.bin .eql) [t3, (AV.str [70])]) fun v3 =>
      O.ifB v3 (
        O.ifB v3 (
          O.ret (AV.int .i64 1) h
        ) (
          K2 ([t3], h)
        )
      ) (
        O.bv (O.ev (.bin .eql) [t3, (AV.str [71])]) fun v4 =>
        O.ifB v4 (
          O.ret (AV.int .i64 1) h
        ) (
          K2 ([t3], h)
        )
      )
    )
  )
noncomputable def sh14 (O : Ops) (C : Call) (a0 : AV) (h0 : H) : R :=
  O.withK (fun q => sh14_J3 O C  (nth q.1 0) q.2) fun K3 =>
  O.bv (O.ev (.bin .eql) [a0, (AV.str [116, 114, 117, 101])]) fun v1 =>
  O.ifB v1 (
    O.ifB v1 (
      O.ret (AV.int .i64 0) h0
    ) (
      K3 ([a0], h0)
    )
  ) (
    O.bv (O.ev (.bin .eql) [a0, (AV.str [102, 97, 108, 115, 101])]) fun v2 =>
    O.ifB v2 (
      O.ifB v2 (
        O.ret (AV.int .i64 0) h0
      ) (
        K3 ([a0], h0)
      )
    ) (
      O.bv (O.ev (.bin .eql) [a0, (AV.str [108, 97, 98, 101, 108])]) fun v3 =>
      O.ifB v3 (
        O.ret (AV.int .i64 0) h0
      ) (
        K3 ([a0], h0)
      )
    )
  )
theorem sh14_eq (O : Ops) (C : Call) (a0 : AV) (h : H) : execF2 O C ir14 [a0] h = sh14 O C a0 h := by kernel_rfl

/-- sortilege/nnf.form -/
noncomputable def sh15_L1 (O : Ops) (C : Call) (S1 : St → R) (t13 t14 t15 : AV) (h : H) : R :=
  O.bv (O.ev (.bin .lss) [t15, t14]) fun v1 =>
  O.ifB v1 (
    O.bv (O.ev (.idxAddr 4) [t13, t15]) fun v2 =>
    O.bv (O.ev (.ld 4 true) [v2]) fun v3 =>
    O.bv (O.shape 4 true (AV.agg [.str [], .str [], .list true 4 [], .int .i64 0])) fun c4 =>
    O.bv (O.shape 4 true v3) fun c5 =>
    O.br (C 15 [c5] h) fun v6 g7 =>
    O.bv (O.ev (.un .not) [v6]) fun v8 =>
    O.ifB v8 (
      O.ret (AV.bool false) g7
    ) (
      O.bv (O.ev (.bin .add) [t15, (AV.int .i64 1)]) fun v9 =>
      S1 ([t13, t14, v9], g7)
    )
  ) (
    O.ret (AV.bool true) h
  )
noncomputable def sh15 (O : Ops) (C : Call) (a0 : AV) (h0 : H) : R :=
  O.bv (O.ev (.boxro 4 true) [a0]) fun v1 =>
  O.bv (O.ev (.fieldAddr 0) [v1]) fun v2 =>
  O.bv (O.ev (.ld 1 false) [v2]) fun v3 =>
  O.br (C 14 [v3] h0) fun v4 g5 =>
  O.bv (O.ev (.fieldAddr 2) [v1]) fun v6 =>
  O.bv (O.ev (.ld 1 false) [v6]) fun v7 =>
  O.bv (O.ev .lenL [v7]) fun v8 =>
  O.bv (O.ev (.bin .neq) [v4, v8]) fun v9 =>
  O.ifB v9 (
    O.ret (AV.bool false) g5
  ) (
    O.bv (O.ev (.fieldAddr 2) [v1]) fun v10 =>
    O.bv (O.ev (.ld 1 false) [v10]) fun v11 =>
    O.bv (O.ev .lenL [v11]) fun v12 =>
    O.loop (fun S1 => fun q => sh15_L1 O C S1 (nth q.1 0) (nth q.1 1) (nth q.1 2) q.2) ([v11, v12, (AV.int .i64 0)], g5)
  )
theorem sh15_eq (O : Ops) (C : Call) (a0 : AV) (h : H) : execF2 O C ir15 [a0] h = sh15 O C a0 h := by kernel_rfl

/-- sortilege/prop.Size -/
noncomputable def sh16_L1 (O : Ops) (C : Call) (S1 : St → R) (t3 t7 t8 t9 : AV) (h : H) : R :=
  O.bv (O.ev (.bin .lss) [t9, t8]) fun v1 =>
  O.ifB v1 (
    O.bv (O.ev (.idxAddr 4) [t7, t9]) fun v2 =>
    O.bv (O.ev (.ld 4 true) [v2]) fun v3 =>
    O.bv (O.shape 4 true (AV.agg [.str [], .str [], .list true 4 [], .int .i64 0])) fun c4 =>
    O.bv (O.shape 4 true v3) fun c5 =>
    O.bv (O.ev (.bin .leq) [t3, (AV.int .i64 4096)]) fun v6 =>
    O.ifB v6 (
      O.br (C 16 [c5] h) fun v7 g8 =>
      O.bv (O.ev (.bin .add) [t3, v7]) fun v9 =>
      O.bv (O.ev .min [v9, (AV.int .i64 4097)]) fun v10 =>
      O.bv (O.ev (.bin .add) [t9, (AV.int .i64 1)]) fun v11 =>
      S1 ([v10, t7, t8, v11], g8)
    ) (
      O.bv (O.ev (.bin .add) [t9, (AV.int .i64 1)]) fun v7 =>
      S1 ([t3, t7, t8, v7], h)
    )
  ) (
    O.ret t3 h
  )
noncomputable def sh16 (O : Ops) (C : Call) (a0 : AV) (h0 : H) : R :=
  O.bv (O.ev (.boxro 4 true) [a0]) fun v1 =>
  O.bv (O.ev (.fieldAddr 2) [v1]) fun v2 =>
  O.bv (O.ev (.ld 1 false) [v2]) fun v3 =>
  O.bv (O.ev .lenL [v3]) fun v4 =>
  O.loop (fun S1 => fun q => sh16_L1 O C S1 (nth q.1 0) (nth q.1 1) (nth q.1 2) (nth q.1 3) q.2) ([(AV.int .i64 1), v3, v4, (AV.int .i64 0)], h0)
theorem sh16_eq (O : Ops) (C : Call) (a0 : AV) (h : H) : execF2 O C ir16 [a0] h = sh16 O C a0 h := by kernel_rfl

/-- (*sortilege/nnf.maker).make -/
noncomputable def sh17_J1 (O : Ops) (C : Call) (t7 l6 : AV) (h : H) : R :=
  O.br (C 33 [t7] h) fun v1 g2 =>
  O.bv (O.shape 4 true v1) fun c3 =>
  O.ret c3 g2
noncomputable def sh17_J2 (O : Ops) (C : Call) (t0 t2 t4 t7 l6 : AV) (h : H) : R :=
  O.bv (O.ev (.ld 4 true) [t4]) fun v1 =>
  O.br (C 30 [t0, t7, v1, t2, t2] h) fun v2 g3 =>
  O.bv (O.shape 4 true v2) fun c4 =>
  O.ret c4 g3
noncomputable def sh17_J3 (O : Ops) (C : Call) (K1 : St → R) (t0 t2 t4 t7 t18 l6 : AV) (h : H) : R :=
  O.bv (O.ev (.bin .eql) [t18, (AV.str [61, 62])]) fun v1 =>
  O.ifB v1 (
    O.ifB t2 (
      O.bv (O.ev (.ld 4 true) [t4]) fun v2 =>
      O.br (C 30 [t0, (AV.str [38]), v2, (AV.bool false), (AV.bool true)] h) fun v3 g4 =>
      O.bv (O.shape 4 true v3) fun c5 =>
      O.ret c5 g4
    ) (
      O.bv (O.ev (.ld 4 true) [t4]) fun v2 =>
      O.br (C 30 [t0, (AV.str [124]), v2, (AV.bool true), (AV.bool false)] h) fun v3 g4 =>
      O.bv (O.shape 4 true v3) fun c5 =>
      O.ret c5 g4
    )
  ) (
    O.bv (O.ev (.bin .eql) [t18, (AV.str [70])]) fun v2 =>
    O.ifB v2 (
      O.ifB v2 (
        O.bv (O.ev (.ld 4 true) [t4]) fun v3 =>
        O.br (C 31 [t0, v3, t2] h) fun v4 g5 =>
        O.bv (O.shape 4 true v4) fun c6 =>
        O.ret c6 g5
      ) (
        O.bv (O.ev (.bin .eql) [t18, (AV.str [87])]) fun v3 =>
        O.ifB v3 (
          O.bv (O.ev (.ld 4 true) [t4]) fun v4 =>
          O.br (C 32 [t0, v4, t2] h) fun v5 g6 =>
          O.bv (O.shape 4 true v5) fun c7 =>
          O.ret c7 g6
        ) (
          K1 ([t7, l6], h)
        )
      )
    ) (
      O.bv (O.ev (.bin .eql) [t18, (AV.str [71])]) fun v3 =>
      O.ifB v3 (
        O.bv (O.ev (.ld 4 true) [t4]) fun v4 =>
        O.br (C 31 [t0, v4, t2] h) fun v5 g6 =>
        O.bv (O.shape 4 true v5) fun c7 =>
        O.ret c7 g6
      ) (
        O.bv (O.ev (.bin .eql) [t18, (AV.str [87])]) fun v4 =>
        O.ifB v4 (
          O.bv (O.ev (.ld 4 true) [t4]) fun v5 =>
          O.br (C 32 [t0, v5, t2] h) fun v6 g7 =>
          O.bv (O.shape 4 true v6) fun c8 =>
          O.ret c8 g7
        ) (
          K1 ([t7, l6], h)
        )
      )
    )
  )
noncomputable def sh17_J4 (O : Ops) (C : Call) (K1 K2 : St → R) (t0 t2 t4 t7 t18 l6 : AV) (h : H) : R :=
  O.withK (fun q => sh17_J3 O C K1 (nth q.1 0) (nth q.1 1) (nth q.1 2) (nth q.1 3) (nth q.1 4) (nth q.1 5) q.2) fun K3 =>
  O.bv (O.ev (.bin .eql) [t18, (AV.str [85])]) fun v1 =>
  O.ifB v1 (
    O.ifB v1 (
      K2 ([t0, t2, t4, t7, l6], h)
    ) (
      K3 ([t0, t2, t4, t7, t18, l6], h)
    )
  ) (
    O.bv (O.ev (.bin .eql) [t18, (AV.str [82])]) fun v2 =>
    O.ifB v2 (
      K2 ([t0, t2, t4, t7, l6], h)
    ) (
      K3 ([t0, t2, t4, t7, t18, l6], h)
    )
  )
noncomputable def sh17_J5 (O : Ops) (C : Call) (t0 t2 t4 t7 l6 : AV) (h : H) : R :=
  O.withK (fun q => sh17_J1 O C  (nth q.1 0) (nth q.1 1) q.2) fun K1 =>
  O.bv (O.ev (.fieldAddr 0) [t4]) fun v1 =>
  O.bv (O.ev (.ld 1 false) [v1]) fun v2 =>
  O.withK (fun q => sh17_J2 O C  (nth q.1 0) (nth q.1 1) (nth q.1 2) (nth q.1 3) (nth q.1 4) q.2) fun K2 =>
  O.bv (O.ev (.bin .eql) [v2, (AV.str [108, 97, 98, 101, 108])]) fun v3 =>
  O.ifB v3 (
    O.bv (O.ev (.fieldAddr 1) [t4]) fun v4 =>
    O.bv (O.ev (.ld 1 false) [v4]) fun v5 =>
    O.bv (O.ev (.build [.str [], .str [], .list true 4 [], .int .i64 0] [(0, 1, false), (1, 1, false)]) [(AV.str [108, 97, 98, 101, 108]), v5]) fun v6 =>
    O.bv (O.shape 4 true (AV.agg [.str [], .str [], .list true 4 [], .int .i64 0])) fun c7 =>
    O.bv (O.shape 4 true v6) fun c8 =>
    O.bv (O.gt (O.gv t2 true) (some t0)) fun v9 =>
    O.br (O.gr (O.gv t2 true) (C 27 [v9] h) h) fun v10 g11 =>
    O.bv (O.gt (O.gv t2 true) (O.ev (.un .not) [v10])) fun v12 =>
    O.bv (O.ev .pick [t2, v12, (AV.bool false)]) fun v13 =>
    O.ifB v13 (
      O.bv (O.ev (.mkList 4 true) [c8]) fun v14 =>
      O.br (C 29 [(AV.str [33]), v14] g11) fun v15 g16 =>
      O.bv (O.shape 4 true v15) fun c17 =>
      O.ret c17 g16
    ) (
      O.bv (O.shape 4 true c8) fun c14 =>
      O.ret c14 g11
    )
  ) (
    O.bv (O.ev (.bin .eql) [v2, (AV.str [33])]) fun v4 =>
    O.ifB v4 (
      O.bv (O.ev .nilchk [t0]) fun v5 =>
      O.bv (O.ev (.fieldAddr 0) [v5]) fun v6 =>
      O.bv (O.hload h v6 1 false) fun v7 =>
      O.bv (O.ev (.bin .add) [v7, (AV.int .i64 1)]) fun v8 =>
      O.bv (O.ev .nilchk [t0]) fun v9 =>
      O.bv (O.ev (.fieldAddr 0) [v9]) fun v10 =>
      O.bh (O.hstore h v10 v8 1 false) fun g11 =>
      O.bv (O.ev (.fieldAddr 2) [t4]) fun v12 =>
      O.bv (O.ev (.ld 1 false) [v12]) fun v13 =>
      O.bv (O.ev (.idxAddr 4) [v13, (AV.int .i64 0)]) fun v14 =>
      O.bv (O.ev (.ld 4 true) [v14]) fun v15 =>
      O.bv (O.ev (.un .not) [t2]) fun v16 =>
      O.br (C 17 [t0, v15, v16] g11) fun v17 g18 =>
      O.bv (O.shape 4 true v17) fun c19 =>
      O.ret c19 g18
    ) (
      O.bv (O.ev (.bin .eql) [v2, (AV.str [88])]) fun v5 =>
      O.ifB v5 (
        O.bv (O.ev (.fieldAddr 2) [t4]) fun v6 =>
        O.bv (O.ev (.ld 1 false) [v6]) fun v7 =>
        O.bv (O.ev (.idxAddr 4) [v7, (AV.int .i64 0)]) fun v8 =>
        O.bv (O.ev (.ld 4 true) [v8]) fun v9 =>
        O.br (C 17 [t0, v9, t2] h) fun v10 g11 =>
        O.bv (O.ev (.mkList 4 true) [v10]) fun v12 =>
        O.br (C 29 [(AV.str [88]), v12] g11) fun v13 g14 =>
        O.bv (O.shape 4 true v13) fun c15 =>
        O.ret c15 g14
      ) (
        O.withK (fun q => sh17_J4 O C K1 K2 (nth q.1 0) (nth q.1 1) (nth q.1 2) (nth q.1 3) (nth q.1 4) (nth q.1 5) q.2) fun K4 =>
        O.bv (O.ev (.bin .eql) [v2, (AV.str [38])]) fun v6 =>
        O.ifB v6 (
          O.ifB v6 (
            K2 ([t0, t2, t4, t7, l6], h)
          ) (
            K4 ([t0, t2, t4, t7, v2, l6], h)
          )
        ) (
          O.bv (O.ev (.bin .eql) [v2, (AV.str [124])]) fun v7 =>
          O.ifB v7 (
            K2 ([t0, t2, t4, t7, l6], h)
          ) (
            K4 ([t0, t2, t4, t7, v2, l6], h)
          )
        )
      )
    )
  )
noncomputable def sh17 (O : Ops) (C : Call) (a0 a1 a2 : AV) (h0 : H) : R :=
  O.bv (O.ev (.boxro 4 true) [a1]) fun v1 =>
  O.bv (O.shape 4 true (AV.agg [.str [], .str [], .list true 4 [], .int .i64 0])) fun c2 =>
  O.br (C 27 [a0] h0) fun v3 g4 =>
  O.ifB v3 (
    O.bv (O.ev (.build [.str [], .str [], .list true 4 [], .int .i64 0] []) []) fun v5 =>
    O.bv (O.shape 4 true v5) fun c6 =>
    O.ret c6 g4
  ) (
    O.bv (O.ev (.fieldAddr 0) [v1]) fun v5 =>
    O.bv (O.ev (.ld 1 false) [v5]) fun v6 =>
    O.withK (fun q => sh17_J5 O C  (nth q.1 0) (nth q.1 1) (nth q.1 2) (nth q.1 3) (nth q.1 4) q.2) fun K5 =>
    O.ifB a2 (
      O.br (C 28 [v6] g4) fun v7 g8 =>
      K5 ([a0, a2, v1, v7, c2], g8)
    ) (
      K5 ([a0, a2, v1, v6, c2], g4)
    )
  )
theorem sh17_eq (O : Ops) (C : Call) (a0 a1 a2 : AV) (h : H) : execF2 O C ir17 [a0, a1, a2] h = sh17 O C a0 a1 a2 h := by kernel_rfl

/-- sortilege/nnf.simple -/
noncomputable def sh19_L1 (O : Ops) (C : Call) (S1 : St → R) (t12 t13 t14 l2 l3 : AV) (h : H) : R :=
  O.bv (O.ev (.bin .lss) [t14, t13]) fun v1 =>
  O.ifB v1 (
    O.bv (O.ev (.idxAddr 4) [t12, t14]) fun v2 =>
    O.bv (O.ev (.ld 4 true) [v2]) fun v3 =>
    O.bv (O.shape 4 true (AV.agg [.str [], .str [], .list true 4 [], .int .i64 0])) fun c4 =>
    O.bv (O.shape 4 true v3) fun c5 =>
    O.bv (O.part l3 2 1 false) fun v6 =>
    O.br (C 19 [c5] h) fun v7 g8 =>
    O.bv (O.ev (.mkList 4 true) [v7]) fun v9 =>
    O.bv (O.appList 4 64 v6 v9) fun v10 =>
    O.bv (O.setPart l3 2 v10 1 false) fun c11 =>
    O.bv (O.ev (.bin .add) [t14, (AV.int .i64 1)]) fun v12 =>
    S1 ([t12, t13, v12, l2, c11], g8)
  ) (
    O.bv (O.part l3 2 1 false) fun v2 =>
    O.bv (O.ev .lenL [v2]) fun v3 =>
    O.bv (O.ev (.bin .eql) [v3, (AV.int .i64 1)]) fun v4 =>
    O.ifB v4 (
      O.bv (O.part l3 0 1 false) fun v5 =>
      O.bv (O.ev (.bin .eql) [v5, (AV.str [88])]) fun v6 =>
      O.onG (O.gv v6 true) (
        O.bv (O.gt (O.gv v6 true) (O.part l3 2 1 false)) fun v7 =>
        O.bv (O.gt (O.gv v6 true) (O.ev (.idxAddr 4) [v7, (AV.int .i64 0)])) fun v8 =>
        O.bv (O.gt (O.gv v6 true) (O.ev (.ld 4 true) [v8])) fun v9 =>
        O.br (O.gr (O.gv v6 true) (C 34 [v9] h) h) fun v10 g11 =>
        O.bv (O.ev .pick [v6, v10, (AV.bool false)]) fun v12 =>
        O.ifB v12 (
          O.bv (O.part l3 2 1 false) fun v13 =>
          O.bv (O.ev (.idxAddr 4) [v13, (AV.int .i64 0)]) fun v14 =>
          O.bv (O.ev (.ld 4 true) [v14]) fun v15 =>
          O.bv (O.shape 4 true v15) fun c16 =>
          O.ret c16 g11
        ) (
          O.bv (O.shape 4 true l3) fun c13 =>
          O.ret c13 g11
        )
      ) (
        O.bv (O.gt (O.gv v6 true) none) fun v7 =>
        O.bv (O.gt (O.gv v6 true) (O.ev (.idxAddr 4) [v7, (AV.int .i64 0)])) fun v8 =>
        O.bv (O.gt (O.gv v6 true) (O.ev (.ld 4 true) [v8])) fun v9 =>
        O.br (O.gr (O.gv v6 true) (C 34 [v9] h) h) fun v10 g11 =>
        O.bv (O.ev .pick [v6, v10, (AV.bool false)]) fun v12 =>
        O.ifB v12 (
          O.bv (O.part l3 2 1 false) fun v13 =>
          O.bv (O.ev (.idxAddr 4) [v13, (AV.int .i64 0)]) fun v14 =>
          O.bv (O.ev (.ld 4 true) [v14]) fun v15 =>
          O.bv (O.shape 4 true v15) fun c16 =>
          O.ret c16 g11
        ) (
          O.bv (O.shape 4 true l3) fun c13 =>
          O.ret c13 g11
        )
      )
    ) (
      O.bv (O.ev (.bin .eql) [v3, (AV.int .i64 2)]) fun v5 =>
      O.ifB v5 (
        O.bv (O.part l3 2 1 false) fun v6 =>
        O.bv (O.ev (.idxAddr 4) [v6, (AV.int .i64 0)]) fun v7 =>
        O.bv (O.ev (.ld 4 true) [v7]) fun v8 =>
        O.bv (O.part l3 2 1 false) fun v9 =>
        O.bv (O.ev (.idxAddr 4) [v9, (AV.int .i64 1)]) fun v10 =>
        O.bv (O.ev (.ld 4 true) [v10]) fun v11 =>
        O.br (C 35 [l3, v8, v11] h) fun v12 g13 =>
        O.bv (O.shape 4 true v12) fun c14 =>
        O.ret c14 g13
      ) (
        O.bv (O.shape 4 true l3) fun c6 =>
        O.ret c6 h
      )
    )
  )
noncomputable def sh19 (O : Ops) (C : Call) (a0 : AV) (h0 : H) : R :=
  O.bv (O.ev (.boxro 4 true) [a0]) fun v1 =>
  O.bv (O.shape 4 true (AV.agg [.str [], .str [], .list true 4 [], .int .i64 0])) fun c2 =>
  O.bv (O.ev (.fieldAddr 0) [v1]) fun v3 =>
  O.bv (O.ev (.ld 1 false) [v3]) fun v4 =>
  O.bv (O.ev (.fieldAddr 1) [v1]) fun v5 =>
  O.bv (O.ev (.ld 1 false) [v5]) fun v6 =>
  O.bv (O.ev (.build [.str [], .str [], .list true 4 [], .int .i64 0] [(0, 1, false), (1, 1, false)]) [v4, v6]) fun v7 =>
  O.bv (O.shape 4 true (AV.agg [.str [], .str [], .list true 4 [], .int .i64 0])) fun c8 =>
  O.bv (O.claim c8 true [2]) fun c9 =>
  O.bv (O.shape 4 true v7) fun c10 =>
  O.bv (O.claim c10 true [2]) fun c11 =>
  O.bv (O.ev (.fieldAddr 2) [v1]) fun v12 =>
  O.bv (O.ev (.ld 1 false) [v12]) fun v13 =>
  O.bv (O.ev .lenL [v13]) fun v14 =>
  O.loop (fun S1 => fun q => sh19_L1 O C S1 (nth q.1 0) (nth q.1 1) (nth q.1 2) (nth q.1 3) (nth q.1 4) q.2) ([v13, v14, (AV.int .i64 0), c2, c11], h0)
theorem sh19_eq (O : Ops) (C : Call) (a0 : AV) (h : H) : execF2 O C ir19 [a0] h = sh19 O C a0 h := by kernel_rfl

/-- slices.EqualFunc[[]sortilege/prop.Formula,[]sortilege/prop.Formula,sortilege/prop.Formula,sortilege/prop.Formula] -/
noncomputable def sh20_L1 (O : Ops) (C : Call) (S1 : St → R) (t1 t2 t15 t16 t17 : AV) (h : H) : R :=
  O.bv (O.ev (.bin .lss) [t17, t16]) fun v1 =>
  O.ifB v1 (
    O.bv (O.ev (.idxAddr 4) [t15, t17]) fun v2 =>
    O.bv (O.ev (.ld 4 true) [v2]) fun v3 =>
    O.bv (O.shape 4 true (AV.agg [.str [], .str [], .list true 4 [], .int .i64 0])) fun c4 =>
    O.bv (O.shape 4 true v3) fun c5 =>
    O.bv (O.ev (.idxAddr 4) [t1, t17]) fun v6 =>
    O.bv (O.ev (.ld 4 true) [v6]) fun v7 =>
    O.bv (O.shape 4 true (AV.agg [.str [], .str [], .list true 4 [], .int .i64 0])) fun c8 =>
    O.bv (O.shape 4 true v7) fun c9 =>
    O.br (O.callV C t2 [c5, c9] h) fun v10 g11 =>
    O.bv (O.ev (.un .not) [v10]) fun v12 =>
    O.ifB v12 (
      O.ret (AV.bool false) g11
    ) (
      O.bv (O.ev (.bin .add) [t17, (AV.int .i64 1)]) fun v13 =>
      S1 ([t1, t2, t15, t16, v13], g11)
    )
  ) (
    O.ret (AV.bool true) h
  )
noncomputable def sh20 (O : Ops) (C : Call) (a0 a1 a2 : AV) (h0 : H) : R :=
  O.bv (O.ev .lenL [a0]) fun v1 =>
  O.bv (O.ev .lenL [a1]) fun v2 =>
  O.bv (O.ev (.bin .neq) [v1, v2]) fun v3 =>
  O.ifB v3 (
    O.ret (AV.bool false) h0
  ) (
    O.bv (O.ev .lenL [a0]) fun v4 =>
    O.loop (fun S1 => fun q => sh20_L1 O C S1 (nth q.1 0) (nth q.1 1) (nth q.1 2) (nth q.1 3) (nth q.1 4) q.2) ([a1, a2, a0, v4, (AV.int .i64 0)], h0)
  )
theorem sh20_eq (O : Ops) (C : Call) (a0 a1 a2 : AV) (h : H) : execF2 O C ir20 [a0, a1, a2] h = sh20 O C a0 a1 a2 h := by kernel_rfl

/-- (*sortilege/prop.parser).query -/
noncomputable def sh39_L1 (O : Ops) (C : Call) (S2 : St → R) (t0 t136 t137 l2 l4 : AV) (h : H) : R :=
  O.bv (O.ev (.bin .lss) [t137, (AV.int .i64 2)]) fun v1 =>
  O.ifB v1 (
    O.bv (O.ev (.idxArr 2 1 false) [t136, t137]) fun v2 =>
    O.bv (O.ev .nilchk [t0]) fun v3 =>
    O.bv (O.ev (.fieldAddr 0) [v3]) fun v4 =>
    O.bv (O.hload h v4 1 false) fun v5 =>
    O.br (C 38 [v5, v2] h) fun v6 g7 =>
    O.bv (O.ev (.eq true .i) [v6, (AV.nili)]) fun v8 =>
    O.ifB v8 (
      O.bv (O.ev (.build [.str [], .str [], .str [], .list true 4 [], .int .i64 0, .int .i64 0] []) []) fun v9 =>
      O.bv (O.shape 6 true v9) fun c10 =>
      O.ret (AV.tuple [c10, v6]) g7
    ) (
      O.bv (O.ev (.bin .add) [t137, (AV.int .i64 1)]) fun v9 =>
      S2 ([t0, t136, v9, l2, l4], g7)
    )
  ) (
    O.bv (O.shape 6 true l4) fun c2 =>
    O.ret (AV.tuple [c2, (AV.nili)]) h
  )
noncomputable def sh39_L2 (O : Ops) (C : Call) (S3 : St → R) (t0 t136 t137 l2 l4 : AV) (h : H) : R :=
  O.bv (O.ev (.bin .lss) [t137, (AV.int .i64 2)]) fun v1 =>
  O.ifB v1 (
    O.bv (O.ev (.idxArr 2 1 false) [t136, t137]) fun v2 =>
    O.bv (O.ev .nilchk [t0]) fun v3 =>
    O.bv (O.ev (.fieldAddr 0) [v3]) fun v4 =>
    O.bv (O.hload h v4 1 false) fun v5 =>
    O.br (C 38 [v5, v2] h) fun v6 g7 =>
    O.bv (O.ev (.eq true .i) [v6, (AV.nili)]) fun v8 =>
    O.ifB v8 (
      O.bv (O.ev (.build [.str [], .str [], .str [], .list true 4 [], .int .i64 0, .int .i64 0] []) []) fun v9 =>
      O.bv (O.shape 6 true v9) fun c10 =>
      O.ret (AV.tuple [c10, v6]) g7
    ) (
      O.bv (O.ev (.bin .add) [t137, (AV.int .i64 1)]) fun v9 =>
      S3 ([t0, t136, v9, l2, l4], g7)
    )
  ) (
    O.bv (O.shape 6 true l4) fun c2 =>
    O.ret (AV.tuple [c2, (AV.nili)]) h
  )
noncomputable def sh39_L3 (O : Ops) (C : Call) (S4 : St → R) (t0 t136 t137 l2 l4 : AV) (h : H) : R :=
  O.bv (O.ev (.bin .lss) [t137, (AV.int .i64 2)]) fun v1 =>
  O.ifB v1 (
    O.bv (O.ev (.idxArr 2 1 false) [t136, t137]) fun v2 =>
    O.bv (O.ev .nilchk [t0]) fun v3 =>
    O.bv (O.ev (.fieldAddr 0) [v3]) fun v4 =>
    O.bv (O.hload h v4 1 false) fun v5 =>
    O.br (C 38 [v5, v2] h) fun v6 g7 =>
    O.bv (O.ev (.eq true .i) [v6, (AV.nili)]) fun v8 =>
    O.ifB v8 (
      O.bv (O.ev (.build [.str [], .str [], .str [], .list true 4 [], .int .i64 0, .int .i64 0] []) []) fun v9 =>
      O.bv (O.shape 6 true v9) fun c10 =>
      O.ret (AV.tuple [c10, v6]) g7
    ) (
      O.bv (O.ev (.bin .add) [t137, (AV.int .i64 1)]) fun v9 =>
      S4 ([t0, t136, v9, l2, l4], g7)
    )
  ) (
    O.bv (O.shape 6 true l4) fun c2 =>
    O.ret (AV.tuple [c2, (AV.nili)]) h
  )
noncomputable def sh39_L4 (O : Ops) (C : Call) (S5 : St → R) (t0 t136 t137 l2 l4 : AV) (h : H) : R :=
  O.bv (O.ev (.bin .lss) [t137, (AV.int .i64 2)]) fun v1 =>
  O.ifB v1 (
    O.bv (O.ev (.idxArr 2 1 false) [t136, t137]) fun v2 =>
    O.bv (O.ev .nilchk [t0]) fun v3 =>
    O.bv (O.ev (.fieldAddr 0) [v3]) fun v4 =>
    O.bv (O.hload h v4 1 false) fun v5 =>
    O.br (C 38 [v5, v2] h) fun v6 g7 =>
    O.bv (O.ev (.eq true .i) [v6, (AV.nili)]) fun v8 =>
    O.ifB v8 (
      O.bv (O.ev (.build [.str [], .str [], .str [], .list true 4 [], .int .i64 0, .int .i64 0] []) []) fun v9 =>
      O.bv (O.shape 6 true v9) fun c10 =>
      O.ret (AV.tuple [c10, v6]) g7
    ) (
      O.bv (O.ev (.bin .add) [t137, (AV.int .i64 1)]) fun v9 =>
      S5 ([t0, t136, v9, l2, l4], g7)
    )
  ) (
    O.bv (O.shape 6 true l4) fun c2 =>
    O.ret (AV.tuple [c2, (AV.nili)]) h
  )
noncomputable def sh39_L5 (O : Ops) (C : Call) (S6 : St → R) (t0 t136 t137 l2 l4 : AV) (h : H) : R :=
  O.bv (O.ev (.bin .lss) [t137, (AV.int .i64 2)]) fun v1 =>
  O.ifB v1 (
    O.bv (O.ev (.idxArr 2 1 false) [t136, t137]) fun v2 =>
    O.bv (O.ev .nilchk [t0]) fun v3 =>
    O.bv (O.ev (.fieldAddr 0) [v3]) fun v4 =>
    O.bv (O.hload h v4 1 false) fun v5 =>
    O.br (C 38 [v5, v2] h) fun v6 g7 =>
    O.bv (O.ev (.eq true .i) [v6, (AV.nili)]) fun v8 =>
    O.ifB v8 (
      O.bv (O.ev (.build [.str [], .str [], .str [], .list true 4 [], .int .i64 0, .int .i64 0] []) []) fun v9 =>
      O.bv (O.shape 6 true v9) fun c10 =>
      O.ret (AV.tuple [c10, v6]) g7
    ) (
      O.bv (O.ev (.bin .add) [t137, (AV.int .i64 1)]) fun v9 =>
      S6 ([t0, t136, v9, l2, l4], g7)
    )
  ) (
    O.bv (O.shape 6 true l4) fun c2 =>
    O.ret (AV.tuple [c2, (AV.nili)]) h
  )
noncomputable def sh39_L6 (O : Ops) (C : Call) (S7 : St → R) (t0 t136 t137 l2 l4 : AV) (h : H) : R :=
  O.bv (O.ev (.bin .lss) [t137, (AV.int .i64 2)]) fun v1 =>
  O.ifB v1 (
    O.bv (O.ev (.idxArr 2 1 false) [t136, t137]) fun v2 =>
    O.bv (O.ev .nilchk [t0]) fun v3 =>
    O.bv (O.ev (.fieldAddr 0) [v3]) fun v4 =>
    O.bv (O.hload h v4 1 false) fun v5 =>
    O.br (C 38 [v5, v2] h) fun v6 g7 =>
    O.bv (O.ev (.eq true .i) [v6, (AV.nili)]) fun v8 =>
    O.ifB v8 (
      O.bv (O.ev (.build [.str [], .str [], .str [], .list true 4 [], .int .i64 0, .int .i64 0] []) []) fun v9 =>
      O.bv (O.shape 6 true v9) fun c10 =>
      O.ret (AV.tuple [c10, v6]) g7
    ) (
      O.bv (O.ev (.bin .add) [t137, (AV.int .i64 1)]) fun v9 =>
      S7 ([t0, t136, v9, l2, l4], g7)
    )
  ) (
    O.bv (O.shape 6 true l4) fun c2 =>
    O.ret (AV.tuple [c2, (AV.nili)]) h
  )
noncomputable def sh39_L7 (O : Ops) (C : Call) (S8 : St → R) (t0 t136 t137 l2 l4 : AV) (h : H) : R :=
  O.bv (O.ev (.bin .lss) [t137, (AV.int .i64 2)]) fun v1 =>
  O.ifB v1 (
    O.bv (O.ev (.idxArr 2 1 false) [t136, t137]) fun v2 =>
    O.bv (O.ev .nilchk [t0]) fun v3 =>
    O.bv (O.ev (.fieldAddr 0) [v3]) fun v4 =>
    O.bv (O.hload h v4 1 false) fun v5 =>
    O.br (C 38 [v5, v2] h) fun v6 g7 =>
    O.bv (O.ev (.eq true .i) [v6, (AV.nili)]) fun v8 =>
    O.ifB v8 (
      O.bv (O.ev (.build [.str [], .str [], .str [], .list true 4 [], .int .i64 0, .int .i64 0] []) []) fun v9 =>
      O.bv (O.shape 6 true v9) fun c10 =>
      O.ret (AV.tuple [c10, v6]) g7
    ) (
      O.bv (O.ev (.bin .add) [t137, (AV.int .i64 1)]) fun v9 =>
      S8 ([t0, t136, v9, l2, l4], g7)
    )
  ) (
    O.bv (O.shape 6 true l4) fun c2 =>
    O.ret (AV.tuple [c2, (AV.nili)]) h
  )
noncomputable def sh39_L8 (O : Ops) (C : Call) (S9 : St → R) (t0 t136 t137 l2 l4 : AV) (h : H) : R :=
  O.bv (O.ev (.bin .lss) [t137, (AV.int .i64 2)]) fun v1 =>
  O.ifB v1 (
    O.bv (O.ev (.idxArr 2 1 false) [t136, t137]) fun v2 =>
    O.bv (O.ev .nilchk [t0]) fun v3 =>
    O.bv (O.ev (.fieldAddr 0) [v3]) fun v4 =>
    O.bv (O.hload h v4 1 false) fun v5 =>
    O.br (C 38 [v5, v2] h) fun v6 g7 =>
    O.bv (O.ev (.eq true .i) [v6, (AV.nili)]) fun v8 =>
    O.ifB v8 (
      O.bv (O.ev (.build [.str [], .str [], .str [], .list true 4 [], .int .i64 0, .int .i64 0] []) []) fun v9 =>
      O.bv (O.shape 6 true v9) fun c10 =>
      O.ret (AV.tuple [c10, v6]) g7
    ) (
      O.bv (O.ev (.bin .add) [t137, (AV.int .i64 1)]) fun v9 =>
      S9 ([t0, t136, v9, l2, l4], g7)
    )
  ) (
    O.bv (O.shape 6 true l4) fun c2 =>
    O.ret (AV.tuple [c2, (AV.nili)]) h
  )
noncomputable def sh39_L9 (O : Ops) (C : Call) (S10 : St → R) (t0 t136 t137 l2 l4 : AV) (h : H) : R :=
  O.bv (O.ev (.bin .lss) [t137, (AV.int .i64 2)]) fun v1 =>
  O.ifB v1 (
    O.bv (O.ev (.idxArr 2 1 false) [t136, t137]) fun v2 =>
    O.bv (O.ev .nilchk [t0]) fun v3 =>
    O.bv (O.ev (.fieldAddr 0) [v3]) fun v4 =>
    O.bv (O.hload h v4 1 false) fun v5 =>
    O.br (C 38 [v5, v2] h) fun v6 g7 =>
    O.bv (O.ev (.eq true .i) [v6, (AV.nili)]) fun v8 =>
    O.ifB v8 (
      O.bv (O.ev (.build [.str [], .str [], .str [], .list true 4 [], .int .i64 0, .int .i64 0] []) []) fun v9 =>
      O.bv (O.shape 6 true v9) fun c10 =>
      O.ret (AV.tuple [c10, v6]) g7
    ) (
      O.bv (O.ev (.bin .add) [t137, (AV.int .i64 1)]) fun v9 =>
      S10 ([t0, t136, v9, l2, l4], g7)
    )
  ) (
    O.bv (O.shape 6 true l4) fun c2 =>
    O.ret (AV.tuple [c2, (AV.nili)]) h
  )
noncomputable def sh39_L10 (O : Ops) (C : Call) (S11 : St → R) (t0 t136 t137 l2 l4 : AV) (h : H) : R :=
  O.bv (O.ev (.bin .lss) [t137, (AV.int .i64 2)]) fun v1 =>
  O.ifB v1 (
    O.bv (O.ev (.idxArr 2 1 false) [t136, t137]) fun v2 =>
    O.bv (O.ev .nilchk [t0]) fun v3 =>
    O.bv (O.ev (.fieldAddr 0) [v3]) fun v4 =>
    O.bv (O.hload h v4 1 false) fun v5 =>
    O.br (C 38 [v5, v2] h) fun v6 g7 =>
    O.bv (O.ev (.eq true .i) [v6, (AV.nili)]) fun v8 =>
    O.ifB v8 (
      O.bv (O.ev (.build [.str [], .str [], .str [], .list true 4 [], .int .i64 0, .int .i64 0] []) []) fun v9 =>
      O.bv (O.shape 6 true v9) fun c10 =>
      O.ret (AV.tuple [c10, v6]) g7
    ) (
      O.bv (O.ev (.bin .add) [t137, (AV.int .i64 1)]) fun v9 =>
      S11 ([t0, t136, v9, l2, l4], g7)
    )
  ) (
    O.bv (O.shape 6 true l4) fun c2 =>
    O.ret (AV.tuple [c2, (AV.nili)]) h
  )
noncomputable def sh39_L11 (O : Ops) (C : Call) (S12 : St → R) (t0 t136 t137 l2 l4 : AV) (h : H) : R :=
  O.bv (O.ev (.bin .lss) [t137, (AV.int .i64 2)]) fun v1 =>
  O.ifB v1 (
    O.bv (O.ev (.idxArr 2 1 false) [t136, t137]) fun v2 =>
    O.bv (O.ev .nilchk [t0]) fun v3 =>
    O.bv (O.ev (.fieldAddr 0) [v3]) fun v4 =>
    O.bv (O.hload h v4 1 false) fun v5 =>
    O.br (C 38 [v5, v2] h) fun v6 g7 =>
    O.bv (O.ev (.eq true .i) [v6, (AV.nili)]) fun v8 =>
    O.ifB v8 (
      O.bv (O.ev (.build [.str [], .str [], .str [], .list true 4 [], .int .i64 0, .int .i64 0] []) []) fun v9 =>
      O.bv (O.shape 6 true v9) fun c10 =>
      O.ret (AV.tuple [c10, v6]) g7
    ) (
      O.bv (O.ev (.bin .add) [t137, (AV.int .i64 1)]) fun v9 =>
      S12 ([t0, t136, v9, l2, l4], g7)
    )
  ) (
    O.bv (O.shape 6 true l4) fun c2 =>
    O.ret (AV.tuple [c2, (AV.nili)]) h
  )
noncomputable def sh39_L12 (O : Ops) (C : Call) (S13 : St → R) (t0 t136 t137 l2 l4 : AV) (h : H) : R :=
  O.bv (O.ev (.bin .lss) [t137, (AV.int .i64 2)]) fun v1 =>
  O.ifB v1 (
    O.bv (O.ev (.idxArr 2 1 false) [t136, t137]) fun v2 =>
    O.bv (O.ev .nilchk [t0]) fun v3 =>
    O.bv (O.ev (.fieldAddr 0) [v3]) fun v4 =>
    O.bv (O.hload h v4 1 false) fun v5 =>
    O.br (C 38 [v5, v2] h) fun v6 g7 =>
    O.bv (O.ev (.eq true .i) [v6, (AV.nili)]) fun v8 =>
    O.ifB v8 (
      O.bv (O.ev (.build [.str [], .str [], .str [], .list true 4 [], .int .i64 0, .int .i64 0] []) []) fun v9 =>
      O.bv (O.shape 6 true v9) fun c10 =>
      O.ret (AV.tuple [c10, v6]) g7
    ) (
      O.bv (O.ev (.bin .add) [t137, (AV.int .i64 1)]) fun v9 =>
      S13 ([t0, t136, v9, l2, l4], g7)
    )
  ) (
    O.bv (O.shape 6 true l4) fun c2 =>
    O.ret (AV.tuple [c2, (AV.nili)]) h
  )
noncomputable def sh39_L13 (O : Ops) (C : Call) (S14 : St → R) (t0 t136 t137 l2 l4 : AV) (h : H) : R :=
  O.bv (O.ev (.bin .lss) [t137, (AV.int .i64 2)]) fun v1 =>
  O.ifB v1 (
    O.bv (O.ev (.idxArr 2 1 false) [t136, t137]) fun v2 =>
    O.bv (O.ev .nilchk [t0]) fun v3 =>
    O.bv (O.ev (.fieldAddr 0) [v3]) fun v4 =>
    O.bv (O.hload h v4 1 false) fun v5 =>
    O.br (C 38 [v5, v2] h) fun v6 g7 =>
    O.bv (O.ev (.eq true .i) [v6, (AV.nili)]) fun v8 =>
    O.ifB v8 (
      O.bv (O.ev (.build [.str [], .str [], .str [], .list true 4 [], .int .i64 0, .int .i64 0] []) []) fun v9 =>
      O.bv (O.shape 6 true v9) fun c10 =>
      O.ret (AV.tuple [c10, v6]) g7
    ) (
      O.bv (O.ev (.bin .add) [t137, (AV.int .i64 1)]) fun v9 =>
      S14 ([t0, t136, v9, l2, l4], g7)
    )
  ) (
    O.bv (O.shape 6 true l4) fun c2 =>
    O.ret (AV.tuple [c2, (AV.nili)]) h
  )
noncomputable def sh39_L14 (O : Ops) (C : Call) (S15 : St → R) (t0 t136 t137 l2 l4 : AV) (h : H) : R :=
  O.bv (O.ev (.bin .lss) [t137, (AV.int .i64 2)]) fun v1 =>
  O.ifB v1 (
    O.bv (O.ev (.idxArr 2 1 false) [t136, t137]) fun v2 =>
    O.bv (O.ev .nilchk [t0]) fun v3 =>
    O.bv (O.ev (.fieldAddr 0) [v3]) fun v4 =>
    O.bv (O.hload h v4 1 false) fun v5 =>
    O.br (C 38 [v5, v2] h) fun v6 g7 =>
    O.bv (O.ev (.eq true .i) [v6, (AV.nili)]) fun v8 =>
    O.ifB v8 (
      O.bv (O.ev (.build [.str [], .str [], .str [], .list true 4 [], .int .i64 0, .int .i64 0] []) []) fun v9 =>
      O.bv (O.shape 6 true v9) fun c10 =>
      O.ret (AV.tuple [c10, v6]) g7
    ) (
      O.bv (O.ev (.bin .add) [t137, (AV.int .i64 1)]) fun v9 =>
      S15 ([t0, t136, v9, l2, l4], g7)
    )
  ) (
    O.bv (O.shape 6 true l4) fun c2 =>
    O.ret (AV.tuple [c2, (AV.nili)]) h
  )
noncomputable def sh39_L15 (O : Ops) (C : Call) (S16 : St → R) (t0 t136 t137 l2 l4 : AV) (h : H) : R :=
  O.bv (O.ev (.bin .lss) [t137, (AV.int .i64 2)]) fun v1 =>
  O.ifB v1 (
    O.bv (O.ev (.idxArr 2 1 false) [t136, t137]) fun v2 =>
    O.bv (O.ev .nilchk [t0]) fun v3 =>
    O.bv (O.ev (.fieldAddr 0) [v3]) fun v4 =>
    O.bv (O.hload h v4 1 false) fun v5 =>
    O.br (C 38 [v5, v2] h) fun v6 g7 =>
    O.bv (O.ev (.eq true .i) [v6, (AV.nili)]) fun v8 =>
    O.ifB v8 (
      O.bv (O.ev (.build [.str [], .str [], .str [], .list true 4 [], .int .i64 0, .int .i64 0] []) []) fun v9 =>
      O.bv (O.shape 6 true v9) fun c10 =>
      O.ret (AV.tuple [c10, v6]) g7
    ) (
      O.bv (O.ev (.bin .add) [t137, (AV.int .i64 1)]) fun v9 =>
      S16 ([t0, t136, v9, l2, l4], g7)
    )
  ) (
    O.bv (O.shape 6 true l4) fun c2 =>
    O.ret (AV.tuple [c2, (AV.nili)]) h
  )
noncomputable def sh39_L16 (O : Ops) (C : Call) (S17 : St → R) (t0 t136 t137 l2 l4 : AV) (h : H) : R :=
  O.bv (O.ev (.bin .lss) [t137, (AV.int .i64 2)]) fun v1 =>
  O.ifB v1 (
    O.bv (O.ev (.idxArr 2 1 false) [t136, t137]) fun v2 =>
    O.bv (O.ev .nilchk [t0]) fun v3 =>
    O.bv (O.ev (.fieldAddr 0) [v3]) fun v4 =>
    O.bv (O.hload h v4 1 false) fun v5 =>
    O.br (C 38 [v5, v2] h) fun v6 g7 =>
    O.bv (O.ev (.eq true .i) [v6, (AV.nili)]) fun v8 =>
    O.ifB v8 (
      O.bv (O.ev (.build [.str [], .str [], .str [], .list true 4 [], .int .i64 0, .int .i64 0] []) []) fun v9 =>
      O.bv (O.shape 6 true v9) fun c10 =>
      O.ret (AV.tuple [c10, v6]) g7
    ) (
      O.bv (O.ev (.bin .add) [t137, (AV.int .i64 1)]) fun v9 =>
      S17 ([t0, t136, v9, l2, l4], g7)
    )
  ) (
    O.bv (O.shape 6 true l4) fun c2 =>
    O.ret (AV.tuple [c2, (AV.nili)]) h
  )
noncomputable def sh39_L17 (O : Ops) (C : Call) (S18 : St → R) (t0 t136 t137 l2 l4 : AV) (h : H) : R :=
  O.bv (O.ev (.bin .lss) [t137, (AV.int .i64 2)]) fun v1 =>
  O.ifB v1 (
    O.bv (O.ev (.idxArr 2 1 false) [t136, t137]) fun v2 =>
    O.bv (O.ev .nilchk [t0]) fun v3 =>
    O.bv (O.ev (.fieldAddr 0) [v3]) fun v4 =>
    O.bv (O.hload h v4 1 false) fun v5 =>
    O.br (C 38 [v5, v2] h) fun v6 g7 =>
    O.bv (O.ev (.eq true .i) [v6, (AV.nili)]) fun v8 =>
    O.ifB v8 (
      O.bv (O.ev (.build [.str [], .str [], .str [], .list true 4 [], .int .i64 0, .int .i64 0] []) []) fun v9 =>
      O.bv (O.shape 6 true v9) fun c10 =>
      O.ret (AV.tuple [c10, v6]) g7
    ) (
      O.bv (O.ev (.bin .add) [t137, (AV.int .i64 1)]) fun v9 =>
      S18 ([t0, t136, v9, l2, l4], g7)
    )
  ) (
    O.bv (O.shape 6 true l4) fun c2 =>
    O.ret (AV.tuple [c2, (AV.nili)]) h
  )
noncomputable def sh39_L18 (O : Ops) (C : Call) (S19 : St → R) (t0 t136 t137 l2 l4 : AV) (h : H) : R :=
  O.bv (O.ev (.bin .lss) [t137, (AV.int .i64 2)]) fun v1 =>
  O.ifB v1 (
    O.bv (O.ev (.idxArr 2 1 false) [t136, t137]) fun v2 =>
    O.bv (O.ev .nilchk [t0]) fun v3 =>
    O.bv (O.ev (.fieldAddr 0) [v3]) fun v4 =>
    O.bv (O.hload h v4 1 false) fun v5 =>
    O.br (C 38 [v5, v2] h) fun v6 g7 =>
    O.bv (O.ev (.eq true .i) [v6, (AV.nili)]) fun v8 =>
    O.ifB v8 (
      O.bv (O.ev (.build [.str [], .str [], .str [], .list true 4 [], .int .i64 0, .int .i64 0] []) []) fun v9 =>
      O.bv (O.shape 6 true v9) fun c10 =>
      O.ret (AV.tuple [c10, v6]) g7
    ) (
      O.bv (O.ev (.bin .add) [t137, (AV.int .i64 1)]) fun v9 =>
      S19 ([t0, t136, v9, l2, l4], g7)
    )
  ) (
    O.bv (O.shape 6 true l4) fun c2 =>
    O.ret (AV.tuple [c2, (AV.nili)]) h
  )
noncomputable def sh39_L19 (O : Ops) (C : Call) (S20 : St → R) (t0 t136 t137 l2 l4 : AV) (h : H) : R :=
  O.bv (O.ev (.bin .lss) [t137, (AV.int .i64 2)]) fun v1 =>
  O.ifB v1 (
    O.bv (O.ev (.idxArr 2 1 false) [t136, t137]) fun v2 =>
    O.bv (O.ev .nilchk [t0]) fun v3 =>
    O.bv (O.ev (.fieldAddr 0) [v3]) fun v4 =>
    O.bv (O.hload h v4 1 false) fun v5 =>
    O.br (C 38 [v5, v2] h) fun v6 g7 =>
    O.bv (O.ev (.eq true .i) [v6, (AV.nili)]) fun v8 =>
    O.ifB v8 (
      O.bv (O.ev (.build [.str [], .str [], .str [], .list true 4 [], .int .i64 0, .int .i64 0] []) []) fun v9 =>
      O.bv (O.shape 6 true v9) fun c10 =>
      O.ret (AV.tuple [c10, v6]) g7
    ) (
      O.bv (O.ev (.bin .add) [t137, (AV.int .i64 1)]) fun v9 =>
      S20 ([t0, t136, v9, l2, l4], g7)
    )
  ) (
    O.bv (O.shape 6 true l4) fun c2 =>
    O.ret (AV.tuple [c2, (AV.nili)]) h
  )
noncomputable def sh39_L20 (O : Ops) (C : Call) (S21 : St → R) (t0 t136 t137 l2 l4 : AV) (h : H) : R :=
  O.bv (O.ev (.bin .lss) [t137, (AV.int .i64 2)]) fun v1 =>
  O.ifB v1 (
    O.bv (O.ev (.idxArr 2 1 false) [t136, t137]) fun v2 =>
    O.bv (O.ev .nilchk [t0]) fun v3 =>
    O.bv (O.ev (.fieldAddr 0) [v3]) fun v4 =>
    O.bv (O.hload h v4 1 false) fun v5 =>
    O.br (C 38 [v5, v2] h) fun v6 g7 =>
    O.bv (O.ev (.eq true .i) [v6, (AV.nili)]) fun v8 =>
    O.ifB v8 (
      O.bv (O.ev (.build [.str [], .str [], .str [], .list true 4 [], .int .i64 0, .int .i64 0] []) []) fun v9 =>
      O.bv (O.shape 6 true v9) fun c10 =>
      O.ret (AV.tuple [c10, v6]) g7
    ) (
      O.bv (O.ev (.bin .add) [t137, (AV.int .i64 1)]) fun v9 =>
      S21 ([t0, t136, v9, l2, l4], g7)
    )
  ) (
    O.bv (O.shape 6 true l4) fun c2 =>
    O.ret (AV.tuple [c2, (AV.nili)]) h
  )
noncomputable def sh39_L21 (O : Ops) (C : Call) (S22 : St → R) (t0 t136 t137 l2 l4 : AV) (h : H) : R :=
  O.bv (O.ev (.bin .lss) [t137, (AV.int .i64 2)]) fun v1 =>
  O.ifB v1 (
    O.bv (O.ev (.idxArr 2 1 false) [t136, t137]) fun v2 =>
    O.bv (O.ev .nilchk [t0]) fun v3 =>
    O.bv (O.ev (.fieldAddr 0) [v3]) fun v4 =>
    O.bv (O.hload h v4 1 false) fun v5 =>
    O.br (C 38 [v5, v2] h) fun v6 g7 =>
    O.bv (O.ev (.eq true .i) [v6, (AV.nili)]) fun v8 =>
    O.ifB v8 (
      O.bv (O.ev (.build [.str [], .str [], .str [], .list true 4 [], .int .i64 0, .int .i64 0] []) []) fun v9 =>
      O.bv (O.shape 6 true v9) fun c10 =>
      O.ret (AV.tuple [c10, v6]) g7
    ) (
      O.bv (O.ev (.bin .add) [t137, (AV.int .i64 1)]) fun v9 =>
      S22 ([t0, t136, v9, l2, l4], g7)
    )
  ) (
    O.bv (O.shape 6 true l4) fun c2 =>
    O.ret (AV.tuple [c2, (AV.nili)]) h
  )
noncomputable def sh39_L22 (O : Ops) (C : Call) (S23 : St → R) (t0 t136 t137 l2 l4 : AV) (h : H) : R :=
  O.bv (O.ev (.bin .lss) [t137, (AV.int .i64 2)]) fun v1 =>
  O.ifB v1 (
    O.bv (O.ev (.idxArr 2 1 false) [t136, t137]) fun v2 =>
    O.bv (O.ev .nilchk [t0]) fun v3 =>
    O.bv (O.ev (.fieldAddr 0) [v3]) fun v4 =>
    O.bv (O.hload h v4 1 false) fun v5 =>
    O.br (C 38 [v5, v2] h) fun v6 g7 =>
    O.bv (O.ev (.eq true .i) [v6, (AV.nili)]) fun v8 =>
    O.ifB v8 (
      O.bv (O.ev (.build [.str [], .str [], .str [], .list true 4 [], .int .i64 0, .int .i64 0] []) []) fun v9 =>
      O.bv (O.shape 6 true v9) fun c10 =>
      O.ret (AV.tuple [c10, v6]) g7
    ) (
      O.bv (O.ev (.bin .add) [t137, (AV.int .i64 1)]) fun v9 =>
      S23 ([t0, t136, v9, l2, l4], g7)
    )
  ) (
    O.bv (O.shape 6 true l4) fun c2 =>
    O.ret (AV.tuple [c2, (AV.nili)]) h
  )
noncomputable def sh39_L23 (O : Ops) (C : Call) (S24 : St → R) (t0 t136 t137 l2 l4 : AV) (h : H) : R :=
  O.bv (O.ev (.bin .lss) [t137, (AV.int .i64 2)]) fun v1 =>
  O.ifB v1 (
    O.bv (O.ev (.idxArr 2 1 false) [t136, t137]) fun v2 =>
    O.bv (O.ev .nilchk [t0]) fun v3 =>
    O.bv (O.ev (.fieldAddr 0) [v3]) fun v4 =>
    O.bv (O.hload h v4 1 false) fun v5 =>
    O.br (C 38 [v5, v2] h) fun v6 g7 =>
    O.bv (O.ev (.eq true .i) [v6, (AV.nili)]) fun v8 =>
    O.ifB v8 (
      O.bv (O.ev (.build [.str [], .str [], .str [], .list true 4 [], .int .i64 0, .int .i64 0] []) []) fun v9 =>
      O.bv (O.shape 6 true v9) fun c10 =>
      O.ret (AV.tuple [c10, v6]) g7
    ) (
      O.bv (O.ev (.bin .add) [t137, (AV.int .i64 1)]) fun v9 =>
      S24 ([t0, t136, v9, l2, l4], g7)
    )
  ) (
    O.bv (O.shape 6 true l4) fun c2 =>
    O.ret (AV.tuple [c2, (AV.nili)]) h
  )
noncomputable def sh39_L24 (O : Ops) (C : Call) (S25 : St → R) (t0 t136 t137 l2 l4 : AV) (h : H) : R :=
  O.bv (O.ev (.bin .lss) [t137, (AV.int .i64 2)]) fun v1 =>
  O.ifB v1 (
    O.bv (O.ev (.idxArr 2 1 false) [t136, t137]) fun v2 =>
    O.bv (O.ev .nilchk [t0]) fun v3 =>
    O.bv (O.ev (.fieldAddr 0) [v3]) fun v4 =>
    O.bv (O.hload h v4 1 false) fun v5 =>
    O.br (C 38 [v5, v2] h) fun v6 g7 =>
    O.bv (O.ev (.eq true .i) [v6, (AV.nili)]) fun v8 =>
    O.ifB v8 (
      O.bv (O.ev (.build [.str [], .str [], .str [], .list true 4 [], .int .i64 0, .int .i64 0] []) []) fun v9 =>
      O.bv (O.shape 6 true v9) fun c10 =>
      O.ret (AV.tuple [c10, v6]) g7
    ) (
      O.bv (O.ev (.bin .add) [t137, (AV.int .i64 1)]) fun v9 =>
      S25 ([t0, t136, v9, l2, l4], g7)
    )
  ) (
    O.bv (O.shape 6 true l4) fun c2 =>
    O.ret (AV.tuple [c2, (AV.nili)]) h
  )
noncomputable def sh39_L25 (O : Ops) (C : Call) (S26 : St → R) (t0 t136 t137 l2 l4 : AV) (h : H) : R :=
  O.bv (O.ev (.bin .lss) [t137, (AV.int .i64 2)]) fun v1 =>
  O.ifB v1 (
    O.bv (O.ev (.idxArr 2 1 false) [t136, t137]) fun v2 =>
    O.bv (O.ev .nilchk [t0]) fun v3 =>
    O.bv (O.ev (.fieldAddr 0) [v3]) fun v4 =>
    O.bv (O.hload h v4 1 false) fun v5 =>
    O.br (C 38 [v5, v2] h) fun v6 g7 =>
    O.bv (O.ev (.eq true .i) [v6, (AV.nili)]) fun v8 =>
    O.ifB v8 (
      O.bv (O.ev (.build [.str [], .str [], .str [], .list true 4 [], .int .i64 0, .int .i64 0] []) []) fun v9 =>
      O.bv (O.shape 6 true v9) fun c10 =>
      O.ret (AV.tuple [c10, v6]) g7
    ) (
      O.bv (O.ev (.bin .add) [t137, (AV.int .i64 1)]) fun v9 =>
      S26 ([t0, t136, v9, l2, l4], g7)
    )
  ) (
    O.bv (O.shape 6 true l4) fun c2 =>
    O.ret (AV.tuple [c2, (AV.nili)]) h
  )
noncomputable def sh39_L26 (O : Ops) (C : Call) (S27 : St → R) (t0 t136 t137 l2 l4 : AV) (h : H) : R :=
  O.bv (O.ev (.bin .lss) [t137, (AV.int .i64 2)]) fun v1 =>
  O.ifB v1 (
    O.bv (O.ev (.idxArr 2 1 false) [t136, t137]) fun v2 =>
    O.bv (O.ev .nilchk [t0]) fun v3 =>
    O.bv (O.ev (.fieldAddr 0) [v3]) fun v4 =>
    O.bv (O.hload h v4 1 false) fun v5 =>
    O.br (C 38 [v5, v2] h) fun v6 g7 =>
    O.bv (O.ev (.eq true .i) [v6, (AV.nili)]) fun v8 =>
    O.ifB v8 (
      O.bv (O.ev (.build [.str [], .str [], .str [], .list true 4 [], .int .i64 0, .int .i64 0] []) []) fun v9 =>
      O.bv (O.shape 6 true v9) fun c10 =>
      O.ret (AV.tuple [c10, v6]) g7
    ) (
      O.bv (O.ev (.bin .add) [t137, (AV.int .i64 1)]) fun v9 =>
      S27 ([t0, t136, v9, l2, l4], g7)
    )
  ) (
    O.bv (O.shape 6 true l4) fun c2 =>
    O.ret (AV.tuple [c2, (AV.nili)]) h
  )
noncomputable def sh39_L27 (O : Ops) (C : Call) (S28 : St → R) (t0 t136 t137 l2 l4 : AV) (h : H) : R :=
  O.bv (O.ev (.bin .lss) [t137, (AV.int .i64 2)]) fun v1 =>
  O.ifB v1 (
    O.bv (O.ev (.idxArr 2 1 false) [t136, t137]) fun v2 =>
    O.bv (O.ev .nilchk [t0]) fun v3 =>
    O.bv (O.ev (.fieldAddr 0) [v3]) fun v4 =>
    O.bv (O.hload h v4 1 false) fun v5 =>
    O.br (C 38 [v5, v2] h) fun v6 g7 =>
    O.bv (O.ev (.eq true .i) [v6, (AV.nili)]) fun v8 =>
    O.ifB v8 (
      O.bv (O.ev (.build [.str [], .str [], .str [], .list true 4 [], .int .i64 0, .int .i64 0] []) []) fun v9 =>
      O.bv (O.shape 6 true v9) fun c10 =>
      O.ret (AV.tuple [c10, v6]) g7
    ) (
      O.bv (O.ev (.bin .add) [t137, (AV.int .i64 1)]) fun v9 =>
      S28 ([t0, t136, v9, l2, l4], g7)
    )
  ) (
    O.bv (O.shape 6 true l4) fun c2 =>
    O.ret (AV.tuple [c2, (AV.nili)]) h
  )
noncomputable def sh39_L28 (O : Ops) (C : Call) (S29 : St → R) (t0 t136 t137 l2 l4 : AV) (h : H) : R :=
  O.bv (O.ev (.bin .lss) [t137, (AV.int .i64 2)]) fun v1 =>
  O.ifB v1 (
    O.bv (O.ev (.idxArr 2 1 false) [t136, t137]) fun v2 =>
    O.bv (O.ev .nilchk [t0]) fun v3 =>
    O.bv (O.ev (.fieldAddr 0) [v3]) fun v4 =>
    O.bv (O.hload h v4 1 false) fun v5 =>
    O.br (C 38 [v5, v2] h) fun v6 g7 =>
    O.bv (O.ev (.eq true .i) [v6, (AV.nili)]) fun v8 =>
    O.ifB v8 (
      O.bv (O.ev (.build [.str [], .str [], .str [], .list true 4 [], .int .i64 0, .int .i64 0] []) []) fun v9 =>
      O.bv (O.shape 6 true v9) fun c10 =>
      O.ret (AV.tuple [c10, v6]) g7
    ) (
      O.bv (O.ev (.bin .add) [t137, (AV.int .i64 1)]) fun v9 =>
      S29 ([t0, t136, v9, l2, l4], g7)
    )
  ) (
    O.bv (O.shape 6 true l4) fun c2 =>
    O.ret (AV.tuple [c2, (AV.nili)]) h
  )
noncomputable def sh39_L29 (O : Ops) (C : Call) (S30 : St → R) (t0 t136 t137 l2 l4 : AV) (h : H) : R :=
  O.bv (O.ev (.bin .lss) [t137, (AV.int .i64 2)]) fun v1 =>
  O.ifB v1 (
    O.bv (O.ev (.idxArr 2 1 false) [t136, t137]) fun v2 =>
    O.bv (O.ev .nilchk [t0]) fun v3 =>
    O.bv (O.ev (.fieldAddr 0) [v3]) fun v4 =>
    O.bv (O.hload h v4 1 false) fun v5 =>
    O.br (C 38 [v5, v2] h) fun v6 g7 =>
    O.bv (O.ev (.eq true .i) [v6, (AV.nili)]) fun v8 =>
    O.ifB v8 (
      O.bv (O.ev (.build [.str [], .str [], .str [], .list true 4 [], .int .i64 0, .int .i64 0] []) []) fun v9 =>
      O.bv (O.shape 6 true v9) fun c10 =>
      O.ret (AV.tuple [c10, v6]) g7
    ) (
      O.bv (O.ev (.bin .add) [t137, (AV.int .i64 1)]) fun v9 =>
      S30 ([t0, t136, v9, l2, l4], g7)
    )
  ) (
    O.bv (O.shape 6 true l4) fun c2 =>
    O.ret (AV.tuple [c2, (AV.nili)]) h
  )
noncomputable def sh39_L30 (O : Ops) (C : Call) (S31 : St → R) (t0 t136 t137 l2 l4 : AV) (h : H) : R :=
  O.bv (O.ev (.bin .lss) [t137, (AV.int .i64 2)]) fun v1 =>
  O.ifB v1 (
    O.bv (O.ev (.idxArr 2 1 false) [t136, t137]) fun v2 =>
    O.bv (O.ev .nilchk [t0]) fun v3 =>
    O.bv (O.ev (.fieldAddr 0) [v3]) fun v4 =>
    O.bv (O.hload h v4 1 false) fun v5 =>
    O.br (C 38 [v5, v2] h) fun v6 g7 =>
    O.bv (O.ev (.eq true .i) [v6, (AV.nili)]) fun v8 =>
    O.ifB v8 (
      O.bv (O.ev (.build [.str [], .str [], .str [], .list true 4 [], .int .i64 0, .int .i64 0] []) []) fun v9 =>
      O.bv (O.shape 6 true v9) fun c10 =>
      O.ret (AV.tuple [c10, v6]) g7
    ) (
      O.bv (O.ev (.bin .add) [t137, (AV.int .i64 1)]) fun v9 =>
      S31 ([t0, t136, v9, l2, l4], g7)
    )
  ) (
    O.bv (O.shape 6 true l4) fun c2 =>
    O.ret (AV.tuple [c2, (AV.nili)]) h
  )
noncomputable def sh39_L31 (O : Ops) (C : Call) (S32 : St → R) (t0 t136 t137 l2 l4 : AV) (h : H) : R :=
  O.bv (O.ev (.bin .lss) [t137, (AV.int .i64 2)]) fun v1 =>
  O.ifB v1 (
    O.bv (O.ev (.idxArr 2 1 false) [t136, t137]) fun v2 =>
    O.bv (O.ev .nilchk [t0]) fun v3 =>
    O.bv (O.ev (.fieldAddr 0) [v3]) fun v4 =>
    O.bv (O.hload h v4 1 false) fun v5 =>
    O.br (C 38 [v5, v2] h) fun v6 g7 =>
    O.bv (O.ev (.eq true .i) [v6, (AV.nili)]) fun v8 =>
    O.ifB v8 (
      O.bv (O.ev (.build [.str [], .str [], .str [], .list true 4 [], .int .i64 0, .int .i64 0] []) []) fun v9 =>
      O.bv (O.shape 6 true v9) fun c10 =>
      O.ret (AV.tuple [c10, v6]) g7
    ) (
      O.bv (O.ev (.bin .add) [t137, (AV.int .i64 1)]) fun v9 =>
      S32 ([t0, t136, v9, l2, l4], g7)
    )
  ) (
    O.bv (O.shape 6 true l4) fun c2 =>
    O.ret (AV.tuple [c2, (AV.nili)]) h
  )
noncomputable def sh39_L32 (O : Ops) (C : Call) (S33 : St → R) (t0 t136 t137 l2 l4 : AV) (h : H) : R :=
  O.bv (O.ev (.bin .lss) [t137, (AV.int .i64 2)]) fun v1 =>
  O.ifB v1 (
    O.bv (O.ev (.idxArr 2 1 false) [t136, t137]) fun v2 =>
    O.bv (O.ev .nilchk [t0]) fun v3 =>
    O.bv (O.ev (.fieldAddr 0) [v3]) fun v4 =>
    O.bv (O.hload h v4 1 false) fun v5 =>
    O.br (C 38 [v5, v2] h) fun v6 g7 =>
    O.bv (O.ev (.eq true .i) [v6, (AV.nili)]) fun v8 =>
    O.ifB v8 (
      O.bv (O.ev (.build [.str [], .str [], .str [], .list true 4 [], .int .i64 0, .int .i64 0] []) []) fun v9 =>
      O.bv (O.shape 6 true v9) fun c10 =>
      O.ret (AV.tuple [c10, v6]) g7
    ) (
      O.bv (O.ev (.bin .add) [t137, (AV.int .i64 1)]) fun v9 =>
      S33 ([t0, t136, v9, l2, l4], g7)
    )
  ) (
    O.bv (O.shape 6 true l4) fun c2 =>
    O.ret (AV.tuple [c2, (AV.nili)]) h
  )
noncomputable def sh39_L33 (O : Ops) (C : Call) (S1 : St → R) (t0 t24 t25 l2 l4 : AV) (h : H) : R :=
  O.bv (O.ev (.bin .lss) [t25, (AV.int .i64 2)]) fun v1 =>
  O.ifB v1 (
    O.bv (O.ev (.idxArr 2 1 false) [t24, t25]) fun v2 =>
    O.bv (O.ev .nilchk [t0]) fun v3 =>
    O.bv (O.ev (.fieldAddr 0) [v3]) fun v4 =>
    O.bv (O.hload h v4 1 false) fun v5 =>
    O.br (C 12 [v5] h) fun v6 g7 =>
    O.bv (O.shape 3 true (AV.agg [.int .i64 0, .str [], .int .i64 0])) fun c8 =>
    O.bv (O.shape 3 true v6) fun c9 =>
    O.bv (O.ev .nilchk [t0]) fun v10 =>
    O.bv (O.ev (.fieldAddr 0) [v10]) fun v11 =>
    O.bv (O.hload g7 v11 1 false) fun v12 =>
    O.bv (O.ev (.idxAddr 1) [v2, (AV.int .i64 0)]) fun v13 =>
    O.bv (O.ev (.ld 1 false) [v13]) fun v14 =>
    O.br (C 36 [v12, v14] g7) fun v15 g16 =>
    O.bv (O.ev (.un .not) [v15]) fun v17 =>
    O.bv (O.gt (O.gv v17 true) (some t0)) fun v18 =>
    O.bv (O.gt (O.gv v17 true) (O.ev .nilchk [v18])) fun v19 =>
    O.bv (O.gt (O.gv v17 true) (O.ev (.fieldAddr 0) [v19])) fun v20 =>
    O.bv (O.gt (O.gv v17 true) (O.hload g16 v20 1 false)) fun v21 =>
    O.bv (O.gt (O.gv v17 true) (some v2)) fun v22 =>
    O.bv (O.gt (O.gv v17 true) (O.ev (.idxAddr 1) [v22, (AV.int .i64 1)])) fun v23 =>
    O.bv (O.gt (O.gv v17 true) (O.ev (.ld 1 false) [v23])) fun v24 =>
    O.br (O.gr (O.gv v17 true) (C 36 [v21, v24] g16) g16) fun v25 g26 =>
    O.bv (O.gt (O.gv v17 true) (O.ev (.un .not) [v25])) fun v27 =>
    O.bv (O.ev .pick [v17, v27, (AV.bool false)]) fun v28 =>
    O.ifB v28 (
      O.bv (O.ev (.build [.str [], .str [], .str [], .list true 4 [], .int .i64 0, .int .i64 0] []) []) fun v29 =>
      O.bv (O.ev (.iface 0) [(AV.int .i64 20)]) fun v30 =>
      O.br (C 13 [t0, v30] g26) fun v31 g32 =>
      O.bv (O.shape 6 true v29) fun c33 =>
      O.ret (AV.tuple [c33, v31]) g32
    ) (
      O.bv (O.part l4 0 1 false) fun v29 =>
      O.bv (O.part c9 1 1 false) fun v30 =>
      O.bv (O.ev (.bin .add) [v29, v30]) fun v31 =>
      O.bv (O.setPart l4 0 v31 1 false) fun c32 =>
      O.bv (O.ev (.bin .add) [t25, (AV.int .i64 1)]) fun v33 =>
      S1 ([t0, t24, v33, l2, c32], g26)
    )
  ) (
    O.bv (O.ev .nilchk [t0]) fun v2 =>
    O.bv (O.ev (.fieldAddr 0) [v2]) fun v3 =>
    O.bv (O.hload h v3 1 false) fun v4 =>
    O.br (C 12 [v4] h) fun v5 g6 =>
    O.bv (O.shape 3 true (AV.agg [.int .i64 0, .str [], .int .i64 0])) fun c7 =>
    O.bv (O.shape 3 true v5) fun c8 =>
    O.bv (O.part l4 0 1 false) fun v9 =>
    O.bv (O.part l4 0 1 false) fun v10 =>
    O.bv (O.ev .lenS [v10]) fun v11 =>
    O.bv (O.ev (.bin .sub) [v11, (AV.int .i64 1)]) fun v12 =>
    O.bv (O.ev .idxStr [v9, v12]) fun v13 =>
    O.bv (O.ev (.bin .eql) [v13, (AV.int .u8 61)]) fun v14 =>
    O.onG (O.gv v14 true) (
      O.bv (O.gt (O.gv v14 true) (O.part c8 1 1 false)) fun v15 =>
      O.bv (O.gt (O.gv v14 true) (O.ev (.bin .neq) [v15, (AV.str [49])])) fun v16 =>
      O.bv (O.ev .pick [v14, v16, (AV.bool false)]) fun v17 =>
      O.onG (O.gv v17 false) (
        O.bv (O.gt (O.gv v17 false) (O.part l4 0 1 false)) fun v18 =>
        O.onG (O.gv v17 false) (
          O.bv (O.gt (O.gv v17 false) (O.part l4 0 1 false)) fun v19 =>
          O.bv (O.gt (O.gv v17 false) (O.ev .lenS [v19])) fun v20 =>
          O.bv (O.gt (O.gv v17 false) (O.ev (.bin .sub) [v20, (AV.int .i64 1)])) fun v21 =>
          O.bv (O.gt (O.gv v17 false) (O.ev .idxStr [v18, v21])) fun v22 =>
          O.bv (O.gt (O.gv v17 false) (O.ev (.bin .eql) [v22, (AV.int .u8 62)])) fun v23 =>
          O.bv (O.gt (O.gv v17 false) (some v23)) fun v24 =>
          O.onG (O.gv v24 true) (
            O.bv (O.gt (O.gv v24 true) (O.part c8 1 1 false)) fun v25 =>
            O.bv (O.gt (O.gv v24 true) (O.ev (.bin .neq) [v25, (AV.str [48])])) fun v26 =>
            O.bv (O.gt (O.gv v17 false) (O.ev .pick [v24, v26, (AV.bool false)])) fun v27 =>
            O.bv (O.ev .pick [v17, (AV.bool true), v27]) fun v28 =>
            O.onG (O.gv v28 false) (
              O.bv (O.gt (O.gv v28 false) (O.part c8 0 1 false)) fun v29 =>
              O.bv (O.gt (O.gv v28 false) (O.ev (.bin .neq) [v29, (AV.int .i64 2)])) fun v30 =>
              O.bv (O.ev .pick [v28, (AV.bool true), v30]) fun v31 =>
              O.ifB v31 (
                O.bv (O.ev (.build [.str [], .str [], .str [], .list true 4 [], .int .i64 0, .int .i64 0] []) []) fun v32 =>
                O.bv (O.ev (.iface 0) [(AV.int .i64 20)]) fun v33 =>
                O.br (C 13 [t0, v33] g6) fun v34 g35 =>
                O.bv (O.shape 6 true v32) fun c36 =>
                O.ret (AV.tuple [c36, v34]) g35
              ) (
                O.bv (O.part l4 0 1 false) fun v32 =>
                O.bv (O.ev .nilchk [t0]) fun v33 =>
                O.bv (O.ev (.fieldAddr 0) [v33]) fun v34 =>
                O.bv (O.hload g6 v34 1 false) fun v35 =>
                O.br (C 37 [v35] g6) fun v36 g37 =>
                O.bv (O.ev (.field 1 1 false) [v36]) fun v38 =>
                O.bv (O.ev (.bin .add) [v32, v38]) fun v39 =>
                O.bv (O.setPart l4 0 v39 1 false) fun c40 =>
                O.bv (O.ev .nilchk [t0]) fun v41 =>
                O.bv (O.ev (.fieldAddr 0) [v41]) fun v42 =>
                O.bv (O.hload g37 v42 1 false) fun v43 =>
                O.br (C 38 [v43, (AV.str [91])] g37) fun v44 g45 =>
                O.bv (O.ev (.eq true .i) [v44, (AV.nili)]) fun v46 =>
                O.ifB v46 (
                  O.bv (O.ev (.build [.str [], .str [], .str [], .list true 4 [], .int .i64 0, .int .i64 0] []) []) fun v47 =>
                  O.bv (O.shape 6 true v47) fun c48 =>
                  O.ret (AV.tuple [c48, v44]) g45
                ) (
                  O.br (C 11 [t0, (AV.int .i64 1)] g45) fun v47 g48 =>
                  O.bv (O.ev (.extract 0) [v47]) fun v49 =>
                  O.bv (O.ev (.extract 1) [v47]) fun v50 =>
                  O.bv (O.shape 4 true (AV.agg [.str [], .str [], .list true 4 [], .int .i64 0])) fun c51 =>
                  O.bv (O.shape 4 true v49) fun c52 =>
                  O.bv (O.ev (.eq true .i) [v50, (AV.nili)]) fun v53 =>
                  O.ifB v53 (
                    O.bv (O.ev (.build [.str [], .str [], .str [], .list true 4 [], .int .i64 0, .int .i64 0] []) []) fun v54 =>
                    O.bv (O.shape 6 true v54) fun c55 =>
                    O.ret (AV.tuple [c55, v50]) g48
                  ) (
                    O.bv (O.setPart c40 1 c52 4 true) fun c54 =>
                    O.bv (O.ev (.build [.str [], .str []] [(0, 1, false), (1, 1, false)]) [(AV.str [93]), (AV.str [59])]) fun v55 =>
                    O.loop (fun S2 => fun q => sh39_L1 O C S2 (nth q.1 0) (nth q.1 1) (nth q.1 2) (nth q.1 3) (nth q.1 4) q.2) ([t0, v55, (AV.int .i64 0), l2, c54], g48)
                  )
                )
              )
            ) (
              O.bv (O.gt (O.gv v28 false) none) fun v29 =>
              O.bv (O.gt (O.gv v28 false) (O.ev (.bin .neq) [v29, (AV.int .i64 2)])) fun v30 =>
              O.bv (O.ev .pick [v28, (AV.bool true), v30]) fun v31 =>
              O.ifB v31 (
                O.bv (O.ev (.build [.str [], .str [], .str [], .list true 4 [], .int .i64 0, .int .i64 0] []) []) fun v32 =>
                O.bv (O.ev (.iface 0) [(AV.int .i64 20)]) fun v33 =>
                O.br (C 13 [t0, v33] g6) fun v34 g35 =>
                O.bv (O.shape 6 true v32) fun c36 =>
                O.ret (AV.tuple [c36, v34]) g35
              ) (
                O.bv (O.part l4 0 1 false) fun v32 =>
                O.bv (O.ev .nilchk [t0]) fun v33 =>
                O.bv (O.ev (.fieldAddr 0) [v33]) fun v34 =>
                O.bv (O.hload g6 v34 1 false) fun v35 =>
                O.br (C 37 [v35] g6) fun v36 g37 =>
                O.bv (O.ev (.field 1 1 false) [v36]) fun v38 =>
                O.bv (O.ev (.bin .add) [v32, v38]) fun v39 =>
                O.bv (O.setPart l4 0 v39 1 false) fun c40 =>
                O.bv (O.ev .nilchk [t0]) fun v41 =>
                O.bv (O.ev (.fieldAddr 0) [v41]) fun v42 =>
                O.bv (O.hload g37 v42 1 false) fun v43 =>
                O.br (C 38 [v43, (AV.str [91])] g37) fun v44 g45 =>
                O.bv (O.ev (.eq true .i) [v44, (AV.nili)]) fun v46 =>
                O.ifB v46 (
                  O.bv (O.ev (.build [.str [], .str [], .str [], .list true 4 [], .int .i64 0, .int .i64 0] []) []) fun v47 =>
                  O.bv (O.shape 6 true v47) fun c48 =>
                  O.ret (AV.tuple [c48, v44]) g45
                ) (
                  O.br (C 11 [t0, (AV.int .i64 1)] g45) fun v47 g48 =>
                  O.bv (O.ev (.extract 0) [v47]) fun v49 =>
                  O.bv (O.ev (.extract 1) [v47]) fun v50 =>
                  O.bv (O.shape 4 true (AV.agg [.str [], .str [], .list true 4 [], .int .i64 0])) fun c51 =>
                  O.bv (O.shape 4 true v49) fun c52 =>
                  O.bv (O.ev (.eq true .i) [v50, (AV.nili)]) fun v53 =>
                  O.ifB v53 (
                    O.bv (O.ev (.build [.str [], .str [], .str [], .list true 4 [], .int .i64 0, .int .i64 0] []) []) fun v54 =>
                    O.bv (O.shape 6 true v54) fun c55 =>
                    O.ret (AV.tuple [c55, v50]) g48
                  ) (
                    O.bv (O.setPart c40 1 c52 4 true) fun c54 =>
                    O.bv (O.ev (.build [.str [], .str []] [(0, 1, false), (1, 1, false)]) [(AV.str [93]), (AV.str [59])]) fun v55 =>
                    O.loop (fun S3 => fun q => sh39_L2 O C S3 (nth q.1 0) (nth q.1 1) (nth q.1 2) (nth q.1 3) (nth q.1 4) q.2) ([t0, v55, (AV.int .i64 0), l2, c54], g48)
                  )
                )
              )
            )
          ) (
            O.bv (O.gt (O.gv v24 true) none) fun v25 =>
            O.bv (O.gt (O.gv v24 true) (O.ev (.bin .neq) [v25, (AV.str [48])])) fun v26 =>
            O.bv (O.gt (O.gv v17 false) (O.ev .pick [v24, v26, (AV.bool false)])) fun v27 =>
            O.bv (O.ev .pick [v17, (AV.bool true), v27]) fun v28 =>
            O.onG (O.gv v28 false) (
              O.bv (O.gt (O.gv v28 false) (O.part c8 0 1 false)) fun v29 =>
              O.bv (O.gt (O.gv v28 false) (O.ev (.bin .neq) [v29, (AV.int .i64 2)])) fun v30 =>
              O.bv (O.ev .pick [v28, (AV.bool true), v30]) fun v31 =>
              O.ifB v31 (
                O.bv (O.ev (.build [.str [], .str [], .str [], .list true 4 [], .int .i64 0, .int .i64 0] []) []) fun v32 =>
                O.bv (O.ev (.iface 0) [(AV.int .i64 20)]) fun v33 =>
                O.br (C 13 [t0, v33] g6) fun v34 g35 =>
                O.bv (O.shape 6 true v32) fun c36 =>
                O.ret (AV.tuple [c36, v34]) g35
              ) (
                O.bv (O.part l4 0 1 false) fun v32 =>
                O.bv (O.ev .nilchk [t0]) fun v33 =>
                O.bv (O.ev (.fieldAddr 0) [v33]) fun v34 =>
                O.bv (O.hload g6 v34 1 false) fun v35 =>
                O.br (C 37 [v35] g6) fun v36 g37 =>
                O.bv (O.ev (.field 1 1 false) [v36]) fun v38 =>
                O.bv (O.ev (.bin .add) [v32, v38]) fun v39 =>
                O.bv (O.setPart l4 0 v39 1 false) fun c40 =>
                O.bv (O.ev .nilchk [t0]) fun v41 =>
                O.bv (O.ev (.fieldAddr 0) [v41]) fun v42 =>
                O.bv (O.hload g37 v42 1 false) fun v43 =>
                O.br (C 38 [v43, (AV.str [91])] g37) fun v44 g45 =>
                O.bv (O.ev (.eq true .i) [v44, (AV.nili)]) fun v46 =>
                O.ifB v46 (
                  O.bv (O.ev (.build [.str [], .str [], .str [], .list true 4 [], .int .i64 0, .int .i64 0] []) []) fun v47 =>
                  O.bv (O.shape 6 true v47) fun c48 =>
                  O.ret (AV.tuple [c48, v44]) g45
                ) (
                  O.br (C 11 [t0, (AV.int .i64 1)] g45) fun v47 g48 =>
                  O.bv (O.ev (.extract 0) [v47]) fun v49 =>
                  O.bv (O.ev (.extract 1) [v47]) fun v50 =>
                  O.bv (O.shape 4 true (AV.agg [.str [], .str [], .list true 4 [], .int .i64 0])) fun c51 =>
                  O.bv (O.shape 4 true v49) fun c52 =>
                  O.bv (O.ev (.eq true .i) [v50, (AV.nili)]) fun v53 =>
                  O.ifB v53 (
                    O.bv (O.ev (.build [.str [], .str [], .str [], .list true 4 [], .int .i64 0, .int .i64 0] []) []) fun v54 =>
                    O.bv (O.shape 6 true v54) fun c55 =>
                    O.ret (AV.tuple [c55, v50]) g48
                  ) (
                    O.bv (O.setPart c40 1 c52 4 true) fun c54 =>
                    O.bv (O.ev (.build [.str [], .str []] [(0, 1, false), (1, 1, false)]) [(AV.str [93]), (AV.str [59])]) fun v55 =>
                    O.loop (fun S4 => fun q => sh39_L3 O C S4 (nth q.1 0) (nth q.1 1) (nth q.1 2) (nth q.1 3) (nth q.1 4) q.2) ([t0, v55, (AV.int .i64 0), l2, c54], g48)
                  )
                )
              )
            ) (
              O.bv (O.gt (O.gv v28 false) none) fun v29 =>
              O.bv (O.gt (O.gv v28 false) (O.ev (.bin .neq) [v29, (AV.int .i64 2)])) fun v30 =>
              O.bv (O.ev .pick [v28, (AV.bool true), v30]) fun v31 =>
              O.ifB v31 (
                O.bv (O.ev (.build [.str [], .str [], .str [], .list true 4 [], .int .i64 0, .int .i64 0] []) []) fun v32 =>
                O.bv (O.ev (.iface 0) [(AV.int .i64 20)]) fun v33 =>
                O.br (C 13 [t0, v33] g6) fun v34 g35 =>
                O.bv (O.shape 6 true v32) fun c36 =>
                O.ret (AV.tuple [c36, v34]) g35
              ) (
                O.bv (O.part l4 0 1 false) fun v32 =>
                O.bv (O.ev .nilchk [t0]) fun v33 =>
                O.bv (O.ev (.fieldAddr 0) [v33]) fun v34 =>
                O.bv (O.hload g6 v34 1 false) fun v35 =>
                O.br (C 37 [v35] g6) fun v36 g37 =>
                O.bv (O.ev (.field 1 1 false) [v36]) fun v38 =>
                O.bv (O.ev (.bin .add) [v32, v38]) fun v39 =>
                O.bv (O.setPart l4 0 v39 1 false) fun c40 =>
                O.bv (O.ev .nilchk [t0]) fun v41 =>
                O.bv (O.ev (.fieldAddr 0) [v41]) fun v42 =>
                O.bv (O.hload g37 v42 1 false) fun v43 =>
                O.br (C 38 [v43, (AV.str [91])] g37) fun v44 g45 =>
                O.bv (O.ev (.eq true .i) [v44, (AV.nili)]) fun v46 =>
                O.ifB v46 (
                  O.bv (O.ev (.build [.str [], .str [], .str [], .list true 4 [], .int .i64 0, .int .i64 0] []) []) fun v47 =>
                  O.bv (O.shape 6 true v47) fun c48 =>
                  O.ret (AV.tuple [c48, v44]) g45
                ) (
                  O.br (C 11 [t0, (AV.int .i64 1)] g45) fun v47 g48 =>
                  O.bv (O.ev (.extract 0) [v47]) fun v49 =>
                  O.bv (O.ev (.extract 1) [v47]) fun v50 =>
                  O.bv (O.shape 4 true (AV.agg [.str [], .str [], .list true 4 [], .int .i64 0])) fun c51 =>
                  O.bv (O.shape 4 true v49) fun c52 =>
                  O.bv (O.ev (.eq true .i) [v50, (AV.nili)]) fun v53 =>
                  O.ifB v53 (
                    O.bv (O.ev (.build [.str [], .str [], .str [], .list true 4 [], .int .i64 0, .int .i64 0] []) []) fun v54 =>
                    O.bv (O.shape 6 true v54) fun c55 =>
                    O.ret (AV.tuple [c55, v50]) g48
                  ) (
                    O.bv (O.setPart c40 1 c52 4 true) fun c54 =>
                    O.bv (O.ev (.build [.str [], .str []] [(0, 1, false), (1, 1, false)]) [(AV.str [93]), (AV.str [59])]) fun v55 =>
                    O.loop (fun S5 => fun q => sh39_L4 O C S5 (nth q.1 0) (nth q.1 1) (nth q.1 2) (nth q.1 3) (nth q.1 4) q.2) ([t0, v55, (AV.int .i64 0), l2, c54], g48)
                  )
                )
              )
            )
          )
        ) (
          O.bv (O.gt (O.gv v17 false) none) fun v19 =>
          O.bv (O.gt (O.gv v17 false) (O.ev .lenS [v19])) fun v20 =>
          O.bv (O.gt (O.gv v17 false) (O.ev (.bin .sub) [v20, (AV.int .i64 1)])) fun v21 =>
          O.bv (O.gt (O.gv v17 false) (O.ev .idxStr [v18, v21])) fun v22 =>
          O.bv (O.gt (O.gv v17 false) (O.ev (.bin .eql) [v22, (AV.int .u8 62)])) fun v23 =>
          O.bv (O.gt (O.gv v17 false) (some v23)) fun v24 =>
          O.onG (O.gv v24 true) (
            O.bv (O.gt (O.gv v24 true) (O.part c8 1 1 false)) fun v25 =>
            O.bv (O.gt (O.gv v24 true) (O.ev (.bin .neq) [v25, (AV.str [48])])) fun v26 =>
            O.bv (O.gt (O.gv v17 false) (O.ev .pick [v24, v26, (AV.bool false)])) fun v27 =>
            O.bv (O.ev .pick [v17, (AV.bool true), v27]) fun v28 =>
            O.onG (O.gv v28 false) (
              O.bv (O.gt (O.gv v28 false) (O.part c8 0 1 false)) fun v29 =>
              O.bv (O.gt (O.gv v28 false) (O.ev (.bin .neq) [v29, (AV.int .i64 2)])) fun v30 =>
              O.bv (O.ev .pick [v28, (AV.bool true), v30]) fun v31 =>
              O.ifB v31 (
                O.bv (O.ev (.build [.str [], .str [], .str [], .list true 4 [], .int .i64 0, .int .i64 0] []) []) fun v32 =>
                O.bv (O.ev (.iface 0) [(AV.int .i64 20)]) fun v33 =>
                O.br (C 13 [t0, v33] g6) fun v34 g35 =>
                O.bv (O.shape 6 true v32) fun c36 =>
                O.ret (AV.tuple [c36, v34]) g35
              ) (
                O.bv (O.part l4 0 1 false) fun v32 =>
                O.bv (O.ev .nilchk [t0]) fun v33 =>
                O.bv (O.ev (.fieldAddr 0) [v33]) fun v34 =>
                O.bv (O.hload g6 v34 1 false) fun v35 =>
                O.br (C 37 [v35] g6) fun v36 g37 =>
                O.bv (O.ev (.field 1 1 false) [v36]) fun v38 =>
                O.bv (O.ev (.bin .add) [v32, v38]) fun v39 =>
                O.bv (O.setPart l4 0 v39 1 false) fun c40 =>
                O.bv (O.ev .nilchk [t0]) fun v41 =>
                O.bv (O.ev (.fieldAddr 0) [v41]) fun v42 =>
                O.bv (O.hload g37 v42 1 false) fun v43 =>
                O.br (C 38 [v43, (AV.str [91])] g37) fun v44 g45 =>
                O.bv (O.ev (.eq true .i) [v44, (AV.nili)]) fun v46 =>
                O.ifB v46 (
                  O.bv (O.ev (.build [.str [], .str [], .str [], .list true 4 [], .int .i64 0, .int .i64 0] []) []) fun v47 =>
                  O.bv (O.shape 6 true v47) fun c48 =>
                  O.ret (AV.tuple [c48, v44]) g45
                ) (
                  O.br (C 11 [t0, (AV.int .i64 1)] g45) fun v47 g48 =>
                  O.bv (O.ev (.extract 0) [v47]) fun v49 =>
                  O.bv (O.ev (.extract 1) [v47]) fun v50 =>
                  O.bv (O.shape 4 true (AV.agg [.str [], .str [], .list true 4 [], .int .i64 0])) fun c51 =>
                  O.bv (O.shape 4 true v49) fun c52 =>
                  O.bv (O.ev (.eq true .i) [v50, (AV.nili)]) fun v53 =>
                  O.ifB v53 (
                    O.bv (O.ev (.build [.str [], .str [], .str [], .list true 4 [], .int .i64 0, .int .i64 0] []) []) fun v54 =>
                    O.bv (O.shape 6 true v54) fun c55 =>
                    O.ret (AV.tuple [c55, v50]) g48
                  ) (
                    O.bv (O.setPart c40 1 c52 4 true) fun c54 =>
                    O.bv (O.ev (.build [.str [], .str []] [(0, 1, false), (1, 1, false)]) [(AV.str [93]), (AV.str [59])]) fun v55 =>
                    O.loop (fun S6 => fun q => sh39_L5 O C S6 (nth q.1 0) (nth q.1 1) (nth q.1 2) (nth q.1 3) (nth q.1 4) q.2) ([t0, v55, (AV.int .i64 0), l2, c54], g48)
                  )
                )
              )
            ) (
              O.bv (O.gt (O.gv v28 false) none) fun v29 =>
              O.bv (O.gt (O.gv v28 false) (O.ev (.bin .neq) [v29, (AV.int .i64 2)])) fun v30 =>
              O.bv (O.ev .pick [v28, (AV.bool true), v30]) fun v31 =>
              O.ifB v31 (
                O.bv (O.ev (.build [.str [], .str [], .str [], .list true 4 [], .int .i64 0, .int .i64 0] []) []) fun v32 =>
                O.bv (O.ev (.iface 0) [(AV.int .i64 20)]) fun v33 =>
                O.br (C 13 [t0, v33] g6) fun v34 g35 =>
                O.bv (O.shape 6 true v32) fun c36 =>
                O.ret (AV.tuple [c36, v34]) g35
              ) (
                O.bv (O.part l4 0 1 false) fun v32 =>
                O.bv (O.ev .nilchk [t0]) fun v33 =>
                O.bv (O.ev (.fieldAddr 0) [v33]) fun v34 =>
                O.bv (O.hload g6 v34 1 false) fun v35 =>
                O.br (C 37 [v35] g6) fun v36 g37 =>
                O.bv (O.ev (.field 1 1 false) [v36]) fun v38 =>
                O.bv (O.ev (.bin .add) [v32, v38]) fun v39 =>
                O.bv (O.setPart l4 0 v39 1 false) fun c40 =>
                O.bv (O.ev .nilchk [t0]) fun v41 =>
                O.bv (O.ev (.fieldAddr 0) [v41]) fun v42 =>
                O.bv (O.hload g37 v42 1 false) fun v43 =>
                O.br (C 38 [v43, (AV.str [91])] g37) fun v44 g45 =>
                O.bv (O.ev (.eq true .i) [v44, (AV.nili)]) fun v46 =>
                O.ifB v46 (
                  O.bv (O.ev (.build [.str [], .str [], .str [], .list true 4 [], .int .i64 0, .int .i64 0] []) []) fun v47 =>
                  O.bv (O.shape 6 true v47) fun c48 =>
                  O.ret (AV.tuple [c48, v44]) g45
                ) (
                  O.br (C 11 [t0, (AV.int .i64 1)] g45) fun v47 g48 =>
                  O.bv (O.ev (.extract 0) [v47]) fun v49 =>
                  O.bv (O.ev (.extract 1) [v47]) fun v50 =>
                  O.bv (O.shape 4 true (AV.agg [.str [], .str [], .list true 4 [], .int .i64 0])) fun c51 =>
                  O.bv (O.shape 4 true v49) fun c52 =>
                  O.bv (O.ev (.eq true .i) [v50, (AV.nili)]) fun v53 =>
                  O.ifB v53 (
                    O.bv (O.ev (.build [.str [], .str [], .str [], .list true 4 [], .int .i64 0, .int .i64 0] []) []) fun v54 =>
                    O.bv (O.shape 6 true v54) fun c55 =>
                    O.ret (AV.tuple [c55, v50]) g48
                  ) (
                    O.bv (O.setPart c40 1 c52 4 true) fun c54 =>
                    O.bv (O.ev (.build [.str [], .str []] [(0, 1, false), (1, 1, false)]) [(AV.str [93]), (AV.str [59])]) fun v55 =>
                    O.loop (fun S7 => fun q => sh39_L6 O C S7 (nth q.1 0) (nth q.1 1) (nth q.1 2) (nth q.1 3) (nth q.1 4) q.2) ([t0, v55, (AV.int .i64 0), l2, c54], g48)
                  )
                )
              )
            )
          ) (
            O.bv (O.gt (O.gv v24 true) none) fun v25 =>
            O.bv (O.gt (O.gv v24 true) (O.ev (.bin .neq) [v25, (AV.str [48])])) fun v26 =>
            O.bv (O.gt (O.gv v17 false) (O.ev .pick [v24, v26, (AV.bool false)])) fun v27 =>
            O.bv (O.ev .pick [v17, (AV.bool true), v27]) fun v28 =>
            O.onG (O.gv v28 false) (
              O.bv (O.gt (O.gv v28 false) (O.part c8 0 1 false)) fun v29 =>
              O.bv (O.gt (O.gv v28 false) (O.ev (.bin .neq) [v29, (AV.int .i64 2)])) fun v30 =>
              O.bv (O.ev .pick [v28, (AV.bool true), v30]) fun v31 =>
              O.ifB v31 (
                O.bv (O.ev (.build [.str [], .str [], .str [], .list true 4 [], .int .i64 0, .int .i64 0] []) []) fun v32 =>
                O.bv (O.ev (.iface 0) [(AV.int .i64 20)]) fun v33 =>
                O.br (C 13 [t0, v33] g6) fun v34 g35 =>
                O.bv (O.shape 6 true v32) fun c36 =>
                O.ret (AV.tuple [c36, v34]) g35
              ) (
                O.bv (O.part l4 0 1 false) fun v32 =>
                O.bv (O.ev .nilchk [t0]) fun v33 =>
                O.bv (O.ev (.fieldAddr 0) [v33]) fun v34 =>
                O.bv (O.hload g6 v34 1 false) fun v35 =>
                O.br (C 37 [v35] g6) fun v36 g37 =>
                O.bv (O.ev (.field 1 1 false) [v36]) fun v38 =>
                O.bv (O.ev (.bin .add) [v32, v38]) fun v39 =>
                O.bv (O.setPart l4 0 v39 1 false) fun c40 =>
                O.bv (O.ev .nilchk [t0]) fun v41 =>
                O.bv (O.ev (.fieldAddr 0) [v41]) fun v42 =>
                O.bv (O.hload g37 v42 1 false) fun v43 =>
                O.br (C 38 [v43, (AV.str [91])] g37) fun v44 g45 =>
                O.bv (O.ev (.eq true .i) [v44, (AV.nili)]) fun v46 =>
                O.ifB v46 (
                  O.bv (O.ev (.build [.str [], .str [], .str [], .list true 4 [], .int .i64 0, .int .i64 0] []) []) fun v47 =>
                  O.bv (O.shape 6 true v47) fun c48 =>
                  O.ret (AV.tuple [c48, v44]) g45
                ) (
                  O.br (C 11 [t0, (AV.int .i64 1)] g45) fun v47 g48 =>
                  O.bv (O.ev (.extract 0) [v47]) fun v49 =>
                  O.bv (O.ev (.extract 1) [v47]) fun v50 =>
                  O.bv (O.shape 4 true (AV.agg [.str [], .str [], .list true 4 [], .int .i64 0])) fun c51 =>
                  O.bv (O.shape 4 true v49) fun c52 =>
                  O.bv (O.ev (.eq true .i) [v50, (AV.nili)]) fun v53 =>
                  O.ifB v53 (
                    O.bv (O.ev (.build [.str [], .str [], .str [], .list true 4 [], .int .i64 0, .int .i64 0] []) []) fun v54 =>
                    O.bv (O.shape 6 true v54) fun c55 =>
                    O.ret (AV.tuple [c55, v50]) g48
                  ) (
                    O.bv (O.setPart c40 1 c52 4 true) fun c54 =>
                    O.bv (O.ev (.build [.str [], .str []] [(0, 1, false), (1, 1, false)]) [(AV.str [93]), (AV.str [59])]) fun v55 =>
                    O.loop (fun S8 => fun q => sh39_L7 O C S8 (nth q.1 0) (nth q.1 1) (nth q.1 2) (nth q.1 3) (nth q.1 4) q.2) ([t0, v55, (AV.int .i64 0), l2, c54], g48)
                  )
                )
              )
            ) (
              O.bv (O.gt (O.gv v28 false) none) fun v29 =>
              O.bv (O.gt (O.gv v28 false) (O.ev (.bin .neq) [v29, (AV.int .i64 2)])) fun v30 =>
              O.bv (O.ev .pick [v28, (AV.bool true), v30]) fun v31 =>
              O.ifB v31 (
                O.bv (O.ev (.build [.str [], .str [], .str [], .list true 4 [], .int .i64 0, .int .i64 0] []) []) fun v32 =>
                O.bv (O.ev (.iface 0) [(AV.int .i64 20)]) fun v33 =>
                O.br (C 13 [t0, v33] g6) fun v34 g35 =>
                O.bv (O.shape 6 true v32) fun c36 =>
                O.ret (AV.tuple [c36, v34]) g35
              ) (
                O.bv (O.part l4 0 1 false) fun v32 =>
                O.bv (O.ev .nilchk [t0]) fun v33 =>
                O.bv (O.ev (.fieldAddr 0) [v33]) fun v34 =>
                O.bv (O.hload g6 v34 1 false) fun v35 =>
                O.br (C 37 [v35] g6) fun v36 g37 =>
                O.bv (O.ev (.field 1 1 false) [v36]) fun v38 =>
                O.bv (O.ev (.bin .add) [v32, v38]) fun v39 =>
                O.bv (O.setPart l4 0 v39 1 false) fun c40 =>
                O.bv (O.ev .nilchk [t0]) fun v41 =>
                O.bv (O.ev (.fieldAddr 0) [v41]) fun v42 =>
                O.bv (O.hload g37 v42 1 false) fun v43 =>
                O.br (C 38 [v43, (AV.str [91])] g37) fun v44 g45 =>
                O.bv (O.ev (.eq true .i) [v44, (AV.nili)]) fun v46 =>
                O.ifB v46 (
                  O.bv (O.ev (.build [.str [], .str [], .str [], .list true 4 [], .int .i64 0, .int .i64 0] []) []) fun v47 =>
                  O.bv (O.shape 6 true v47) fun c48 =>
                  O.ret (AV.tuple [c48, v44]) g45
                ) (
                  O.br (C 11 [t0, (AV.int .i64 1)] g45) fun v47 g48 =>
                  O.bv (O.ev (.extract 0) [v47]) fun v49 =>
                  O.bv (O.ev (.extract 1) [v47]) fun v50 =>
                  O.bv (O.shape 4 true (AV.agg [.str [], .str [], .list true 4 [], .int .i64 0])) fun c51 =>
                  O.bv (O.shape 4 true v49) fun c52 =>
                  O.bv (O.ev (.eq true .i) [v50, (AV.nili)]) fun v53 =>
                  O.ifB v53 (
                    O.bv (O.ev (.build [.str [], .str [], .str [], .list true 4 [], .int .i64 0, .int .i64 0] []) []) fun v54 =>
                    O.bv (O.shape 6 true v54) fun c55 =>
                    O.ret (AV.tuple [c55, v50]) g48
                  ) (
                    O.bv (O.setPart c40 1 c52 4 true) fun c54 =>
                    O.bv (O.ev (.build [.str [], .str []] [(0, 1, false), (1, 1, false)]) [(AV.str [93]), (AV.str [59])]) fun v55 =>
                    O.loop (fun S9 => fun q => sh39_L8 O C S9 (nth q.1 0) (nth q.1 1) (nth q.1 2) (nth q.1 3) (nth q.1 4) q.2) ([t0, v55, (AV.int .i64 0), l2, c54], g48)
                  )
                )
              )
            )
          )
        )
      ) (
        O.bv (O.gt (O.gv v17 false) none) fun v18 =>
        O.onG (O.gv v17 false) (
          O.bv (O.gt (O.gv v17 false) (O.part l4 0 1 false)) fun v19 =>
          O.bv (O.gt (O.gv v17 false) (O.ev .lenS [v19])) fun v20 =>
          O.bv (O.gt (O.gv v17 false) (O.ev (.bin .sub) [v20, (AV.int .i64 1)])) fun v21 =>
          O.bv (O.gt (O.gv v17 false) (O.ev .idxStr [v18, v21])) fun v22 =>
          O.bv (O.gt (O.gv v17 false) (O.ev (.bin .eql) [v22, (AV.int .u8 62)])) fun v23 =>
          O.bv (O.gt (O.gv v17 false) (some v23)) fun v24 =>
          O.onG (O.gv v24 true) (
            O.bv (O.gt (O.gv v24 true) (O.part c8 1 1 false)) fun v25 =>
            O.bv (O.gt (O.gv v24 true) (O.ev (.bin .neq) [v25, (AV.str [48])])) fun v26 =>
            O.bv (O.gt (O.gv v17 false) (O.ev .pick [v24, v26, (AV.bool false)])) fun v27 =>
            O.bv (O.ev .pick [v17, (AV.bool true), v27]) fun v28 =>
            O.onG (O.gv v28 false) (
              O.bv (O.gt (O.gv v28 false) (O.part c8 0 1 false)) fun v29 =>
              O.bv (O.gt (O.gv v28 false) (O.ev (.bin .neq) [v29, (AV.int .i64 2)])) fun v30 =>
              O.bv (O.ev .pick [v28, (AV.bool true), v30]) fun v31 =>
              O.ifB v31 (
                O.bv (O.ev (.build [.str [], .str [], .str [], .list true 4 [], .int .i64 0, .int .i64 0] []) []) fun v32 =>
                O.bv (O.ev (.iface 0) [(AV.int .i64 20)]) fun v33 =>
                O.br (C 13 [t0, v33] g6) fun v34 g35 =>
                O.bv (O.shape 6 true v32) fun c36 =>
                O.ret (AV.tuple [c36, v34]) g35
              ) (
                O.bv (O.part l4 0 1 false) fun v32 =>
                O.bv (O.ev .nilchk [t0]) fun v33 =>
                O.bv (O.ev (.fieldAddr 0) [v33]) fun v34 =>
                O.bv (O.hload g6 v34 1 false) fun v35 =>
                O.br (C 37 [v35] g6) fun v36 g37 =>
                O.bv (O.ev (.field 1 1 false) [v36]) fun v38 =>
                O.bv (O.ev (.bin .add) [v32, v38]) fun v39 =>
                O.bv (O.setPart l4 0 v39 1 false) fun c40 =>
                O.bv (O.ev .nilchk [t0]) fun v41 =>
                O.bv (O.ev (.fieldAddr 0) [v41]) fun v42 =>
                O.bv (O.hload g37 v42 1 false) fun v43 =>
                O.br (C 38 [v43, (AV.str [91])] g37) fun v44 g45 =>
                O.bv (O.ev (.eq true .i) [v44, (AV.nili)]) fun v46 =>
                O.ifB v46 (
                  O.bv (O.ev (.build [.str [], .str [], .str [], .list true 4 [], .int .i64 0, .int .i64 0] []) []) fun v47 =>
                  O.bv (O.shape 6 true v47) fun c48 =>
                  O.ret (AV.tuple [c48, v44]) g45
                ) (
                  O.br (C 11 [t0, (AV.int .i64 1)] g45) fun v47 g48 =>
                  O.bv (O.ev (.extract 0) [v47]) fun v49 =>
                  O.bv (O.ev (.extract 1) [v47]) fun v50 =>
                  O.bv (O.shape 4 true (AV.agg [.str [], .str [], .list true 4 [], .int .i64 0])) fun c51 =>
                  O.bv (O.shape 4 true v49) fun c52 =>
                  O.bv (O.ev (.eq true .i) [v50, (AV.nili)]) fun v53 =>
                  O.ifB v53 (
                    O.bv (O.ev (.build [.str [], .str [], .str [], .list true 4 [], .int .i64 0, .int .i64 0] []) []) fun v54 =>
                    O.bv (O.shape 6 true v54) fun c55 =>
                    O.ret (AV.tuple [c55, v50]) g48
                  ) (
                    O.bv (O.setPart c40 1 c52 4 true) fun c54 =>
                    O.bv (O.ev (.build [.str [], .str []] [(0, 1, false), (1, 1, false)]) [(AV.str [93]), (AV.str [59])]) fun v55 =>
                    O.loop (fun S10 => fun q => sh39_L9 O C S10 (nth q.1 0) (nth q.1 1) (nth q.1 2) (nth q.1 3) (nth q.1 4) q.2) ([t0, v55, (AV.int .i64 0), l2, c54], g48)
                  )
                )
              )
            ) (
              O.bv (O.gt (O.gv v28 false) none) fun v29 =>
              O.bv (O.gt (O.gv v28 false) (O.ev (.bin .neq) [v29, (AV.int .i64 2)])) fun v30 =>
              O.bv (O.ev .pick [v28, (AV.bool true), v30]) fun v31 =>
              O.ifB v31 (
                O.bv (O.ev (.build [.str [], .str [], .str [], .list true 4 [], .int .i64 0, .int .i64 0] []) []) fun v32 =>
                O.bv (O.ev (.iface 0) [(AV.int .i64 20)]) fun v33 =>
                O.br (C 13 [t0, v33] g6) fun v34 g35 =>
                O.bv (O.shape 6 true v32) fun c36 =>
                O.ret (AV.tuple [c36, v34]) g35
              ) (
                O.bv (O.part l4 0 1 false) fun v32 =>
                O.bv (O.ev .nilchk [t0]) fun v33 =>
                O.bv (O.ev (.fieldAddr 0) [v33]) fun v34 =>
                O.bv (O.hload g6 v34 1 false) fun v35 =>
                O.br (C 37 [v35] g6) fun v36 g37 =>
                O.bv (O.ev (.field 1 1 false) [v36]) fun v38 =>
                O.bv (O.ev (.bin .add) [v32, v38]) fun v39 =>
                O.bv (O.setPart l4 0 v39 1 false) fun c40 =>
                O.bv (O.ev .nilchk [t0]) fun v41 =>
                O.bv (O.ev (.fieldAddr 0) [v41]) fun v42 =>
                O.bv (O.hload g37 v42 1 false) fun v43 =>
                O.br (C 38 [v43, (AV.str [91])] g37) fun v44 g45 =>
                O.bv (O.ev (.eq true .i) [v44, (AV.nili)]) fun v46 =>
                O.ifB v46 (
                  O.bv (O.ev (.build [.str [], .str [], .str [], .list true 4 [], .int .i64 0, .int .i64 0] []) []) fun v47 =>
                  O.bv (O.shape 6 true v47) fun c48 =>
                  O.ret (AV.tuple [c48, v44]) g45
                ) (
                  O.br (C 11 [t0, (AV.int .i64 1)] g45) fun v47 g48 =>
                  O.bv (O.ev (.extract 0) [v47]) fun v49 =>
                  O.bv (O.ev (.extract 1) [v47]) fun v50 =>
                  O.bv (O.shape 4 true (AV.agg [.str [], .str [], .list true 4 [], .int .i64 0])) fun c51 =>
                  O.bv (O.shape 4 true v49) fun c52 =>
                  O.bv (O.ev (.eq true .i) [v50, (AV.nili)]) fun v53 =>
                  O.ifB v53 (
                    O.bv (O.ev (.build [.str [], .str [], .str [], .list true 4 [], .int .i64 0, .int .i64 0] []) []) fun v54 =>
                    O.bv (O.shape 6 true v54) fun c55 =>
                    O.ret (AV.tuple [c55, v50]) g48
                  ) (
                    O.bv (O.setPart c40 1 c52 4 true) fun c54 =>
                    O.bv (O.ev (.build [.str [], .str []] [(0, 1, false), (1, 1, false)]) [(AV.str [93]), (AV.str [59])]) fun v55 =>
                    O.loop (fun S11 => fun q => sh39_L10 O C S11 (nth q.1 0) (nth q.1 1) (nth q.1 2) (nth q.1 3) (nth q.1 4) q.2) ([t0, v55, (AV.int .i64 0), l2, c54], g48)
                  )
                )
              )
            )
          ) (
            O.bv (O.gt (O.gv v24 true) none) fun v25 =>
            O.bv (O.gt (O.gv v24 true) (O.ev (.bin .neq) [v25, (AV.str [48])])) fun v26 =>
            O.bv (O.gt (O.gv v17 false) (O.ev .pick [v24, v26, (AV.bool false)])) fun v27 =>
            O.bv (O.ev .pick [v17, (AV.bool true), v27]) fun v28 =>
            O.onG (O.gv v28 false) (
              O.bv (O.gt (O.gv v28 false) (O.part c8 0 1 false)) fun v29 =>
              O.bv (O.gt (O.gv v28 false) (O.ev (.bin .neq) [v29, (AV.int .i64 2)])) fun v30 =>
              O.bv (O.ev .pick [v28, (AV.bool true), v30]) fun v31 =>
              O.ifB v31 (
                O.bv (O.ev (.build [.str [], .str [], .str [], .list true 4 [], .int .i64 0, .int .i64 0] []) []) fun v32 =>
                O.bv (O.ev (.iface 0) [(AV.int .i64 20)]) fun v33 =>
                O.br (C 13 [t0, v33] g6) fun v34 g35 =>
                O.bv (O.shape 6 true v32) fun c36 =>
                O.ret (AV.tuple [c36, v34]) g35
              ) (
                O.bv (O.part l4 0 1 false) fun v32 =>
                O.bv (O.ev .nilchk [t0]) fun v33 =>
                O.bv (O.ev (.fieldAddr 0) [v33]) fun v34 =>
                O.bv (O.hload g6 v34 1 false) fun v35 =>
                O.br (C 37 [v35] g6) fun v36 g37 =>
                O.bv (O.ev (.field 1 1 false) [v36]) fun v38 =>
                O.bv (O.ev (.bin .add) [v32, v38]) fun v39 =>
                O.bv (O.setPart l4 0 v39 1 false) fun c40 =>
                O.bv (O.ev .nilchk [t0]) fun v41 =>
                O.bv (O.ev (.fieldAddr 0) [v41]) fun v42 =>
                O.bv (O.hload g37 v42 1 false) fun v43 =>
                O.br (C 38 [v43, (AV.str [91])] g37) fun v44 g45 =>
                O.bv (O.ev (.eq true .i) [v44, (AV.nili)]) fun v46 =>
                O.ifB v46 (
                  O.bv (O.ev (.build [.str [], .str [], .str [], .list true 4 [], .int .i64 0, .int .i64 0] []) []) fun v47 =>
                  O.bv (O.shape 6 true v47) fun c48 =>
                  O.ret (AV.tuple [c48, v44]) g45
                ) (
                  O.br (C 11 [t0, (AV.int .i64 1)] g45) fun v47 g48 =>
                  O.bv (O.ev (.extract 0) [v47]) fun v49 =>
                  O.bv (O.ev (.extract 1) [v47]) fun v50 =>
                  O.bv (O.shape 4 true (AV.agg [.str [], .str [], .list true 4 [], .int .i64 0])) fun c51 =>
                  O.bv (O.shape 4 true v49) fun c52 =>
                  O.bv (O.ev (.eq true .i) [v50, (AV.nili)]) fun v53 =>
                  O.ifB v53 (
                    O.bv (O.ev (.build [.str [], .str [], .str [], .list true 4 [], .int .i64 0, .int .i64 0] []) []) fun v54 =>
                    O.bv (O.shape 6 true v54) fun c55 =>
                    O.ret (AV.tuple [c55, v50]) g48
                  ) (
                    O.bv (O.setPart c40 1 c52 4 true) fun c54 =>
                    O.bv (O.ev (.build [.str [], .str []] [(0, 1, false), (1, 1, false)]) [(AV.str [93]), (AV.str [59])]) fun v55 =>
                    O.loop (fun S12 => fun q => sh39_L11 O C S12 (nth q.1 0) (nth q.1 1) (nth q.1 2) (nth q.1 3) (nth q.1 4) q.2) ([t0, v55, (AV.int .i64 0), l2, c54], g48)
                  )
                )
              )
            ) (
              O.bv (O.gt (O.gv v28 false) none) fun v29 =>
              O.bv (O.gt (O.gv v28 false) (O.ev (.bin .neq) [v29, (AV.int .i64 2)])) fun v30 =>
              O.bv (O.ev .pick [v28, (AV.bool true), v30]) fun v31 =>
              O.ifB v31 (
                O.bv (O.ev (.build [.str [], .str [], .str [], .list true 4 [], .int .i64 0, .int .i64 0] []) []) fun v32 =>
                O.bv (O.ev (.iface 0) [(AV.int .i64 20)]) fun v33 =>
                O.br (C 13 [t0, v33] g6) fun v34 g35 =>
                O.bv (O.shape 6 true v32) fun c36 =>
                O.ret (AV.tuple [c36, v34]) g35
              ) (
                O.bv (O.part l4 0 1 false) fun v32 =>
                O.bv (O.ev .nilchk [t0]) fun v33 =>
                O.bv (O.ev (.fieldAddr 0) [v33]) fun v34 =>
                O.bv (O.hload g6 v34 1 false) fun v35 =>
                O.br (C 37 [v35] g6) fun v36 g37 =>
                O.bv (O.ev (.field 1 1 false) [v36]) fun v38 =>
                O.bv (O.ev (.bin .add) [v32, v38]) fun v39 =>
                O.bv (O.setPart l4 0 v39 1 false) fun c40 =>
                O.bv (O.ev .nilchk [t0]) fun v41 =>
                O.bv (O.ev (.fieldAddr 0) [v41]) fun v42 =>
                O.bv (O.hload g37 v42 1 false) fun v43 =>
                O.br (C 38 [v43, (AV.str [91])] g37) fun v44 g45 =>
                O.bv (O.ev (.eq true .i) [v44, (AV.nili)]) fun v46 =>
                O.ifB v46 (
                  O.bv (O.ev (.build [.str [], .str [], .str [], .list true 4 [], .int .i64 0, .int .i64 0] []) []) fun v47 =>
                  O.bv (O.shape 6 true v47) fun c48 =>
                  O.ret (AV.tuple [c48, v44]) g45
                ) (
                  O.br (C 11 [t0, (AV.int .i64 1)] g45) fun v47 g48 =>
                  O.bv (O.ev (.extract 0) [v47]) fun v49 =>
                  O.bv (O.ev (.extract 1) [v47]) fun v50 =>
                  O.bv (O.shape 4 true (AV.agg [.str [], .str [], .list true 4 [], .int .i64 0])) fun c51 =>
                  O.bv (O.shape 4 true v49) fun c52 =>
                  O.bv (O.ev (.eq true .i) [v50, (AV.nili)]) fun v53 =>
                  O.ifB v53 (
                    O.bv (O.ev (.build [.str [], .str [], .str [], .list true 4 [], .int .i64 0, .int .i64 0] []) []) fun v54 =>
                    O.bv (O.shape 6 true v54) fun c55 =>
                    O.ret (AV.tuple [c55, v50]) g48
                  ) (
                    O.bv (O.setPart c40 1 c52 4 true) fun c54 =>
                    O.bv (O.ev (.build [.str [], .str []] [(0, 1, false), (1, 1, false)]) [(AV.str [93]), (AV.str [59])]) fun v55 =>
                    O.loop (fun S13 => fun q => sh39_L12 O C S13 (nth q.1 0) (nth q.1 1) (nth q.1 2) (nth q.1 3) (nth q.1 4) q.2) ([t0, v55, (AV.int .i64 0), l2, c54], g48)
                  )
                )
              )
            )
          )
        ) (
          O.bv (O.gt (O.gv v17 false) none) fun v19 =>
          O.bv (O.gt (O.gv v17 false) (O.ev .lenS [v19])) fun v20 =>
          O.bv (O.gt (O.gv v17 false) (O.ev (.bin .sub) [v20, (AV.int .i64 1)])) fun v21 =>
          O.bv (O.gt (O.gv v17 false) (O.ev .idxStr [v18, v21])) fun v22 =>
          O.bv (O.gt (O.gv v17 false) (O.ev (.bin .eql) [v22, (AV.int .u8 62)])) fun v23 =>
          O.bv (O.gt (O.gv v17 false) (some v23)) fun v24 =>
          O.onG (O.gv v24 true) (
            O.bv (O.gt (O.gv v24 true) (O.part c8 1 1 false)) fun v25 =>
            O.bv (O.gt (O.gv v24 true) (O.ev (.bin .neq) [v25, (AV.str [48])])) fun v26 =>
            O.bv (O.gt (O.gv v17 false) (O.ev .pick [v24, v26, (AV.bool false)])) fun v27 =>
            O.bv (O.ev .pick [v17, (AV.bool true), v27]) fun v28 =>
            O.onG (O.gv v28 false) (
              O.bv (O.gt (O.gv v28 false) (O.part c8 0 1 false)) fun v29 =>
              O.bv (O.gt (O.gv v28 false) (O.ev (.bin .neq) [v29, (AV.int .i64 2)])) fun v30 =>
              O.bv (O.ev .pick [v28, (AV.bool true), v30]) fun v31 =>
              O.ifB v31 (
                O.bv (O.ev (.build [.str [], .str [], .str [], .list true 4 [], .int .i64 0, .int .i64 0] []) []) fun v32 =>
                O.bv (O.ev (.iface 0) [(AV.int .i64 20)]) fun v33 =>
                O.br (C 13 [t0, v33] g6) fun v34 g35 =>
                O.bv (O.shape 6 true v32) fun c36 =>
                O.ret (AV.tuple [c36, v34]) g35
              ) (
                O.bv (O.part l4 0 1 false) fun v32 =>
                O.bv (O.ev .nilchk [t0]) fun v33 =>
                O.bv (O.ev (.fieldAddr 0) [v33]) fun v34 =>
                O.bv (O.hload g6 v34 1 false) fun v35 =>
                O.br (C 37 [v35] g6) fun v36 g37 =>
                O.bv (O.ev (.field 1 1 false) [v36]) fun v38 =>
                O.bv (O.ev (.bin .add) [v32, v38]) fun v39 =>
                O.bv (O.setPart l4 0 v39 1 false) fun c40 =>
                O.bv (O.ev .nilchk [t0]) fun v41 =>
                O.bv (O.ev (.fieldAddr 0) [v41]) fun v42 =>
                O.bv (O.hload g37 v42 1 false) fun v43 =>
                O.br (C 38 [v43, (AV.str [91])] g37) fun v44 g45 =>
                O.bv (O.ev (.eq true .i) [v44, (AV.nili)]) fun v46 =>
                O.ifB v46 (
                  O.bv (O.ev (.build [.str [], .str [], .str [], .list true 4 [], .int .i64 0, .int .i64 0] []) []) fun v47 =>
                  O.bv (O.shape 6 true v47) fun c48 =>
                  O.ret (AV.tuple [c48, v44]) g45
                ) (
                  O.br (C 11 [t0, (AV.int .i64 1)] g45) fun v47 g48 =>
                  O.bv (O.ev (.extract 0) [v47]) fun v49 =>
                  O.bv (O.ev (.extract 1) [v47]) fun v50 =>
                  O.bv (O.shape 4 true (AV.agg [.str [], .str [], .list true 4 [], .int .i64 0])) fun c51 =>
                  O.bv (O.shape 4 true v49) fun c52 =>
                  O.bv (O.ev (.eq true .i) [v50, (AV.nili)]) fun v53 =>
                  O.ifB v53 (
                    O.bv (O.ev (.build [.str [], .str [], .str [], .list true 4 [], .int .i64 0, .int .i64 0] []) []) fun v54 =>
                    O.bv (O.shape 6 true v54) fun c55 =>
                    O.ret (AV.tuple [c55, v50]) g48
                  ) (
                    O.bv (O.setPart c40 1 c52 4 true) fun c54 =>
                    O.bv (O.ev (.build [.str [], .str []] [(0, 1, false), (1, 1, false)]) [(AV.str [93]), (AV.str [59])]) fun v55 =>
                    O.loop (fun S14 => fun q => sh39_L13 O C S14 (nth q.1 0) (nth q.1 1) (nth q.1 2) (nth q.1 3) (nth q.1 4) q.2) ([t0, v55, (AV.int .i64 0), l2, c54], g48)
                  )
                )
              )
            ) (
              O.bv (O.gt (O.gv v28 false) none) fun v29 =>
              O.bv (O.gt (O.gv v28 false) (O.ev (.bin .neq) [v29, (AV.int .i64 2)])) fun v30 =>
              O.bv (O.ev .pick [v28, (AV.bool true), v30]) fun v31 =>
              O.ifB v31 (
                O.bv (O.ev (.build [.str [], .str [], .str [], .list true 4 [], .int .i64 0, .int .i64 0] []) []) fun v32 =>
                O.bv (O.ev (.iface 0) [(AV.int .i64 20)]) fun v33 =>
                O.br (C 13 [t0, v33] g6) fun v34 g35 =>
                O.bv (O.shape 6 true v32) fun c36 =>
                O.ret (AV.tuple [c36, v34]) g35
              ) (
                O.bv (O.part l4 0 1 false) fun v32 =>
                O.bv (O.ev .nilchk [t0]) fun v33 =>
                O.bv (O.ev (.fieldAddr 0) [v33]) fun v34 =>
                O.bv (O.hload g6 v34 1 false) fun v35 =>
                O.br (C 37 [v35] g6) fun v36 g37 =>
                O.bv (O.ev (.field 1 1 false) [v36]) fun v38 =>
                O.bv (O.ev (.bin .add) [v32, v38]) fun v39 =>
                O.bv (O.setPart l4 0 v39 1 false) fun c40 =>
                O.bv (O.ev .nilchk [t0]) fun v41 =>
                O.bv (O.ev (.fieldAddr 0) [v41]) fun v42 =>
                O.bv (O.hload g37 v42 1 false) fun v43 =>
                O.br (C 38 [v43, (AV.str [91])] g37) fun v44 g45 =>
                O.bv (O.ev (.eq true .i) [v44, (AV.nili)]) fun v46 =>
                O.ifB v46 (
                  O.bv (O.ev (.build [.str [], .str [], .str [], .list true 4 [], .int .i64 0, .int .i64 0] []) []) fun v47 =>
                  O.bv (O.shape 6 true v47) fun c48 =>
                  O.ret (AV.tuple [c48, v44]) g45
                ) (
                  O.br (C 11 [t0, (AV.int .i64 1)] g45) fun v47 g48 =>
                  O.bv (O.ev (.extract 0) [v47]) fun v49 =>
                  O.bv (O.ev (.extract 1) [v47]) fun v50 =>
                  O.bv (O.shape 4 true (AV.agg [.str [], .str [], .list true 4 [], .int .i64 0])) fun c51 =>
                  O.bv (O.shape 4 true v49) fun c52 =>
                  O.bv (O.ev (.eq true .i) [v50, (AV.nili)]) fun v53 =>
                  O.ifB v53 (
                    O.bv (O.ev (.build [.str [], .str [], .str [], .list true 4 [], .int .i64 0, .int .i64 0] []) []) fun v54 =>
                    O.bv (O.shape 6 true v54) fun c55 =>
                    O.ret (AV.tuple [c55, v50]) g48
                  ) (
                    O.bv (O.setPart c40 1 c52 4 true) fun c54 =>
                    O.bv (O.ev (.build [.str [], .str []] [(0, 1, false), (1, 1, false)]) [(AV.str [93]), (AV.str [59])]) fun v55 =>
                    O.loop (fun S15 => fun q => sh39_L14 O C S15 (nth q.1 0) (nth q.1 1) (nth q.1 2) (nth q.1 3) (nth q.1 4) q.2) ([t0, v55, (AV.int .i64 0), l2, c54], g48)
                  )
                )
              )
            )
          ) (
            O.bv (O.gt (O.gv v24 true) none) fun v25 =>
            O.bv (O.gt (O.gv v24 true) (O.ev (.bin .neq) [v25, (AV.str [48])])) fun v26 =>
            O.bv (O.gt (O.gv v17 false) (O.ev .pick [v24, v26, (AV.bool false)])) fun v27 =>
            O.bv (O.ev .pick [v17, (AV.bool true), v27]) fun v28 =>
            O.onG (O.gv v28 false) (
              O.bv (O.gt (O.gv v28 false) (O.part c8 0 1 false)) fun v29 =>
              O.bv (O.gt (O.gv v28 false) (O.ev (.bin .neq) [v29, (AV.int .i64 2)])) fun v30 =>
              O.bv (O.ev .pick [v28, (AV.bool true), v30]) fun v31 =>
              O.ifB v31 (
                O.bv (O.ev (.build [.str [], .str [], .str [], .list true 4 [], .int .i64 0, .int .i64 0] []) []) fun v32 =>
                O.bv (O.ev (.iface 0) [(AV.int .i64 20)]) fun v33 =>
                O.br (C 13 [t0, v33] g6) fun v34 g35 =>
                O.bv (O.shape 6 true v32) fun c36 =>
                O.ret (AV.tuple [c36, v34]) g35
              ) (
                O.bv (O.part l4 0 1 false) fun v32 =>
                O.bv (O.ev .nilchk [t0]) fun v33 =>
                O.bv (O.ev (.fieldAddr 0) [v33]) fun v34 =>
                O.bv (O.hload g6 v34 1 false) fun v35 =>
                O.br (C 37 [v35] g6) fun v36 g37 =>
                O.bv (O.ev (.field 1 1 false) [v36]) fun v38 =>
                O.bv (O.ev (.bin .add) [v32, v38]) fun v39 =>
                O.bv (O.setPart l4 0 v39 1 false) fun c40 =>
                O.bv (O.ev .nilchk [t0]) fun v41 =>
                O.bv (O.ev (.fieldAddr 0) [v41]) fun v42 =>
                O.bv (O.hload g37 v42 1 false) fun v43 =>
                O.br (C 38 [v43, (AV.str [91])] g37) fun v44 g45 =>
                O.bv (O.ev (.eq true .i) [v44, (AV.nili)]) fun v46 =>
                O.ifB v46 (
                  O.bv (O.ev (.build [.str [], .str [], .str [], .list true 4 [], .int .i64 0, .int .i64 0] []) []) fun v47 =>
                  O.bv (O.shape 6 true v47) fun c48 =>
                  O.ret (AV.tuple [c48, v44]) g45
                ) (
                  O.br (C 11 [t0, (AV.int .i64 1)] g45) fun v47 g48 =>
                  O.bv (O.ev (.extract 0) [v47]) fun v49 =>
                  O.bv (O.ev (.extract 1) [v47]) fun v50 =>
                  O.bv (O.shape 4 true (AV.agg [.str [], .str [], .list true 4 [], .int .i64 0])) fun c51 =>
                  O.bv (O.shape 4 true v49) fun c52 =>
                  O.bv (O.ev (.eq true .i) [v50, (AV.nili)]) fun v53 =>
                  O.ifB v53 (
                    O.bv (O.ev (.build [.str [], .str [], .str [], .list true 4 [], .int .i64 0, .int .i64 0] []) []) fun v54 =>
                    O.bv (O.shape 6 true v54) fun c55 =>
                    O.ret (AV.tuple [c55, v50]) g48
                  ) (
                    O.bv (O.setPart c40 1 c52 4 true) fun c54 =>
                    O.bv (O.ev (.build [.str [], .str []] [(0, 1, false), (1, 1, false)]) [(AV.str [93]), (AV.str [59])]) fun v55 =>
                    O.loop (fun S16 => fun q => sh39_L15 O C S16 (nth q.1 0) (nth q.1 1) (nth q.1 2) (nth q.1 3) (nth q.1 4) q.2) ([t0, v55, (AV.int .i64 0), l2, c54], g48)
                  )
                )
              )
            ) (
              O.bv (O.gt (O.gv v28 false) none) fun v29 =>
              O.bv (O.gt (O.gv v28 false) (O.ev (.bin .neq) [v29, (AV.int .i64 2)])) fun v30 =>
              O.bv (O.ev .pick [v28, (AV.bool true), v30]) fun v31 =>
              O.ifB v31 (
                O.bv (O.ev (.build [.str [], .str [], .str [], .list true 4 [], .int .i64 0, .int .i64 0] []) []) fun v32 =>
                O.bv (O.ev (.iface 0) [(AV.int .i64 20)]) fun v33 =>
                O.br (C 13 [t0, v33] g6) fun v34 g35 =>
                O.bv (O.shape 6 true v32) fun c36 =>
                O.ret (AV.tuple [c36, v34]) g35
              ) (
                O.bv (O.part l4 0 1 false) fun v32 =>
                O.bv (O.ev .nilchk [t0]) fun v33 =>
                O.bv (O.ev (.fieldAddr 0) [v33]) fun v34 =>
                O.bv (O.hload g6 v34 1 false) fun v35 =>
                O.br (C 37 [v35] g6) fun v36 g37 =>
                O.bv (O.ev (.field 1 1 false) [v36]) fun v38 =>
                O.bv (O.ev (.bin .add) [v32, v38]) fun v39 =>
                O.bv (O.setPart l4 0 v39 1 false) fun c40 =>
                O.bv (O.ev .nilchk [t0]) fun v41 =>
                O.bv (O.ev (.fieldAddr 0) [v41]) fun v42 =>
                O.bv (O.hload g37 v42 1 false) fun v43 =>
                O.br (C 38 [v43, (AV.str [91])] g37) fun v44 g45 =>
                O.bv (O.ev (.eq true .i) [v44, (AV.nili)]) fun v46 =>
                O.ifB v46 (
                  O.bv (O.ev (.build [.str [], .str [], .str [], .list true 4 [], .int .i64 0, .int .i64 0] []) []) fun v47 =>
                  O.bv (O.shape 6 true v47) fun c48 =>
                  O.ret (AV.tuple [c48, v44]) g45
                ) (
                  O.br (C 11 [t0, (AV.int .i64 1)] g45) fun v47 g48 =>
                  O.bv (O.ev (.extract 0) [v47]) fun v49 =>
                  O.bv (O.ev (.extract 1) [v47]) fun v50 =>
                  O.bv (O.shape 4 true (AV.agg [.str [], .str [], .list true 4 [], .int .i64 0])) fun c51 =>
                  O.bv (O.shape 4 true v49) fun c52 =>
                  O.bv (O.ev (.eq true .i) [v50, (AV.nili)]) fun v53 =>
                  O.ifB v53 (
                    O.bv (O.ev (.build [.str [], .str [], .str [], .list true 4 [], .int .i64 0, .int .i64 0] []) []) fun v54 =>
                    O.bv (O.shape 6 true v54) fun c55 =>
                    O.ret (AV.tuple [c55, v50]) g48
                  ) (
                    O.bv (O.setPart c40 1 c52 4 true) fun c54 =>
                    O.bv (O.ev (.build [.str [], .str []] [(0, 1, false), (1, 1, false)]) [(AV.str [93]), (AV.str [59])]) fun v55 =>
                    O.loop (fun S17 => fun q => sh39_L16 O C S17 (nth q.1 0) (nth q.1 1) (nth q.1 2) (nth q.1 3) (nth q.1 4) q.2) ([t0, v55, (AV.int .i64 0), l2, c54], g48)
                  )
                )
              )
            )
          )
        )
      )
    ) (
      O.bv (O.gt (O.gv v14 true) none) fun v15 =>
      O.bv (O.gt (O.gv v14 true) (O.ev (.bin .neq) [v15, (AV.str [49])])) fun v16 =>
      O.bv (O.ev .pick [v14, v16, (AV.bool false)]) fun v17 =>
      O.onG (O.gv v17 false) (
        O.bv (O.gt (O.gv v17 false) (O.part l4 0 1 false)) fun v18 =>
        O.onG (O.gv v17 false) (
          O.bv (O.gt (O.gv v17 false) (O.part l4 0 1 false)) fun v19 =>
          O.bv (O.gt (O.gv v17 false) (O.ev .lenS [v19])) fun v20 =>
          O.bv (O.gt (O.gv v17 false) (O.ev (.bin .sub) [v20, (AV.int .i64 1)])) fun v21 =>
          O.bv (O.gt (O.gv v17 false) (O.ev .idxStr [v18, v21])) fun v22 =>
          O.bv (O.gt (O.gv v17 false) (O.ev (.bin .eql) [v22, (AV.int .u8 62)])) fun v23 =>
          O.bv (O.gt (O.gv v17 false) (some v23)) fun v24 =>
          O.onG (O.gv v24 true) (
            O.bv (O.gt (O.gv v24 true) (O.part c8 1 1 false)) fun v25 =>
            O.bv (O.gt (O.gv v24 true) (O.ev (.bin .neq) [v25, (AV.str [48])])) fun v26 =>
            O.bv (O.gt (O.gv v17 false) (O.ev .pick [v24, v26, (AV.bool false)])) fun v27 =>
            O.bv (O.ev .pick [v17, (AV.bool true), v27]) fun v28 =>
            O.onG (O.gv v28 false) (
              O.bv (O.gt (O.gv v28 false) (O.part c8 0 1 false)) fun v29 =>
              O.bv (O.gt (O.gv v28 false) (O.ev (.bin .neq) [v29, (AV.int .i64 2)])) fun v30 =>
              O.bv (O.ev .pick [v28, (AV.bool true), v30]) fun v31 =>
              O.ifB v31 (
                O.bv (O.ev (.build [.str [], .str [], .str [], .list true 4 [], .int .i64 0, .int .i64 0] []) []) fun v32 =>
                O.bv (O.ev (.iface 0) [(AV.int .i64 20)]) fun v33 =>
                O.br (C 13 [t0, v33] g6) fun v34 g35 =>
                O.bv (O.shape 6 true v32) fun c36 =>
                O.ret (AV.tuple [c36, v34]) g35
              ) (
                O.bv (O.part l4 0 1 false) fun v32 =>
                O.bv (O.ev .nilchk [t0]) fun v33 =>
                O.bv (O.ev (.fieldAddr 0) [v33]) fun v34 =>
                O.bv (O.hload g6 v34 1 false) fun v35 =>
                O.br (C 37 [v35] g6) fun v36 g37 =>
                O.bv (O.ev (.field 1 1 false) [v36]) fun v38 =>
                O.bv (O.ev (.bin .add) [v32, v38]) fun v39 =>
                O.bv (O.setPart l4 0 v39 1 false) fun c40 =>
                O.bv (O.ev .nilchk [t0]) fun v41 =>
                O.bv (O.ev (.fieldAddr 0) [v41]) fun v42 =>
                O.bv (O.hload g37 v42 1 false) fun v43 =>
                O.br (C 38 [v43, (AV.str [91])] g37) fun v44 g45 =>
                O.bv (O.ev (.eq true .i) [v44, (AV.nili)]) fun v46 =>
                O.ifB v46 (
                  O.bv (O.ev (.build [.str [], .str [], .str [], .list true 4 [], .int .i64 0, .int .i64 0] []) []) fun v47 =>
                  O.bv (O.shape 6 true v47) fun c48 =>
                  O.ret (AV.tuple [c48, v44]) g45
                ) (
                  O.br (C 11 [t0, (AV.int .i64 1)] g45) fun v47 g48 =>
                  O.bv (O.ev (.extract 0) [v47]) fun v49 =>
                  O.bv (O.ev (.extract 1) [v47]) fun v50 =>
                  O.bv (O.shape 4 true (AV.agg [.str [], .str [], .list true 4 [], .int .i64 0])) fun c51 =>
                  O.bv (O.shape 4 true v49) fun c52 =>
                  O.bv (O.ev (.eq true .i) [v50, (AV.nili)]) fun v53 =>
                  O.ifB v53 (
                    O.bv (O.ev (.build [.str [], .str [], .str [], .list true 4 [], .int .i64 0, .int .i64 0] []) []) fun v54 =>
                    O.bv (O.shape 6 true v54) fun c55 =>
                    O.ret (AV.tuple [c55, v50]) g48
                  ) (
                    O.bv (O.setPart c40 1 c52 4 true) fun c54 =>
                    O.bv (O.ev (.build [.str [], .str []] [(0, 1, false), (1, 1, false)]) [(AV.str [93]), (AV.str [59])]) fun v55 =>
                    O.loop (fun S18 => fun q => sh39_L17 O C S18 (nth q.1 0) (nth q.1 1) (nth q.1 2) (nth q.1 3) (nth q.1 4) q.2) ([t0, v55, (AV.int .i64 0), l2, c54], g48)
                  )
                )
              )
            ) (
              O.bv (O.gt (O.gv v28 false) none) fun v29 =>
              O.bv (O.gt (O.gv v28 false) (O.ev (.bin .neq) [v29, (AV.int .i64 2)])) fun v30 =>
              O.bv (O.ev .pick [v28, (AV.bool true), v30]) fun v31 =>
              O.ifB v31 (
                O.bv (O.ev (.build [.str [], .str [], .str [], .list true 4 [], .int .i64 0, .int .i64 0] []) []) fun v32 =>
                O.bv (O.ev (.iface 0) [(AV.int .i64 20)]) fun v33 =>
                O.br (C 13 [t0, v33] g6) fun v34 g35 =>
                O.bv (O.shape 6 true v32) fun c36 =>
                O.ret (AV.tuple [c36, v34]) g35
              ) (
                O.bv (O.part l4 0 1 false) fun v32 =>
                O.bv (O.ev .nilchk [t0]) fun v33 =>
                O.bv (O.ev (.fieldAddr 0) [v33]) fun v34 =>
                O.bv (O.hload g6 v34 1 false) fun v35 =>
                O.br (C 37 [v35] g6) fun v36 g37 =>
                O.bv (O.ev (.field 1 1 false) [v36]) fun v38 =>
                O.bv (O.ev (.bin .add) [v32, v38]) fun v39 =>
                O.bv (O.setPart l4 0 v39 1 false) fun c40 =>
                O.bv (O.ev .nilchk [t0]) fun v41 =>
                O.bv (O.ev (.fieldAddr 0) [v41]) fun v42 =>
                O.bv (O.hload g37 v42 1 false) fun v43 =>
                O.br (C 38 [v43, (AV.str [91])] g37) fun v44 g45 =>
                O.bv (O.ev (.eq true .i) [v44, (AV.nili)]) fun v46 =>
                O.ifB v46 (
                  O.bv (O.ev (.build [.str [], .str [], .str [], .list true 4 [], .int .i64 0, .int .i64 0] []) []) fun v47 =>
                  O.bv (O.shape 6 true v47) fun c48 =>
                  O.ret (AV.tuple [c48, v44]) g45
                ) (
                  O.br (C 11 [t0, (AV.int .i64 1)] g45) fun v47 g48 =>
                  O.bv (O.ev (.extract 0) [v47]) fun v49 =>
                  O.bv (O.ev (.extract 1) [v47]) fun v50 =>
                  O.bv (O.shape 4 true (AV.agg [.str [], .str [], .list true 4 [], .int .i64 0])) fun c51 =>
                  O.bv (O.shape 4 true v49) fun c52 =>
                  O.bv (O.ev (.eq true .i) [v50, (AV.nili)]) fun v53 =>
                  O.ifB v53 (
                    O.bv (O.ev (.build [.str [], .str [], .str [], .list true 4 [], .int .i64 0, .int .i64 0] []) []) fun v54 =>
                    O.bv (O.shape 6 true v54) fun c55 =>
                    O.ret (AV.tuple [c55, v50]) g48
                  ) (
                    O.bv (O.setPart c40 1 c52 4 true) fun c54 =>
                    O.bv (O.ev (.build [.str [], .str []] [(0, 1, false), (1, 1, false)]) [(AV.str [93]), (AV.str [59])]) fun v55 =>
                    O.loop (fun S19 => fun q => sh39_L18 O C S19 (nth q.1 0) (nth q.1 1) (nth q.1 2) (nth q.1 3) (nth q.1 4) q.2) ([t0, v55, (AV.int .i64 0), l2, c54], g48)
                  )
                )
              )
            )
          ) (
            O.bv (O.gt (O.gv v24 true) none) fun v25 =>
            O.bv (O.gt (O.gv v24 true) (O.ev (.bin .neq) [v25, (AV.str [48])])) fun v26 =>
            O.bv (O.gt (O.gv v17 false) (O.ev .pick [v24, v26, (AV.bool false)])) fun v27 =>
            O.bv (O.ev .pick [v17, (AV.bool true), v27]) fun v28 =>
            O.onG (O.gv v28 false) (
              O.bv (O.gt (O.gv v28 false) (O.part c8 0 1 false)) fun v29 =>
              O.bv (O.gt (O.gv v28 false) (O.ev (.bin .neq) [v29, (AV.int .i64 2)])) fun v30 =>
              O.bv (O.ev .pick [v28, (AV.bool true), v30]) fun v31 =>
              O.ifB v31 (
                O.bv (O.ev (.build [.str [], .str [], .str [], .list true 4 [], .int .i64 0, .int .i64 0] []) []) fun v32 =>
                O.bv (O.ev (.iface 0) [(AV.int .i64 20)]) fun v33 =>
                O.br (C 13 [t0, v33] g6) fun v34 g35 =>
                O.bv (O.shape 6 true v32) fun c36 =>
                O.ret (AV.tuple [c36, v34]) g35
              ) (
                O.bv (O.part l4 0 1 false) fun v32 =>
                O.bv (O.ev .nilchk [t0]) fun v33 =>
                O.bv (O.ev (.fieldAddr 0) [v33]) fun v34 =>
                O.bv (O.hload g6 v34 1 false) fun v35 =>
                O.br (C 37 [v35] g6) fun v36 g37 =>
                O.bv (O.ev (.field 1 1 false) [v36]) fun v38 =>
                O.bv (O.ev (.bin .add) [v32, v38]) fun v39 =>
                O.bv (O.setPart l4 0 v39 1 false) fun c40 =>
                O.bv (O.ev .nilchk [t0]) fun v41 =>
                O.bv (O.ev (.fieldAddr 0) [v41]) fun v42 =>
                O.bv (O.hload g37 v42 1 false) fun v43 =>
                O.br (C 38 [v43, (AV.str [91])] g37) fun v44 g45 =>
                O.bv (O.ev (.eq true .i) [v44, (AV.nili)]) fun v46 =>
                O.ifB v46 (
                  O.bv (O.ev (.build [.str [], .str [], .str [], .list true 4 [], .int .i64 0, .int .i64 0] []) []) fun v47 =>
                  O.bv (O.shape 6 true v47) fun c48 =>
                  O.ret (AV.tuple [c48, v44]) g45
                ) (
                  O.br (C 11 [t0, (AV.int .i64 1)] g45) fun v47 g48 =>
                  O.bv (O.ev (.extract 0) [v47]) fun v49 =>
                  O.bv (O.ev (.extract 1) [v47]) fun v50 =>
                  O.bv (O.shape 4 true (AV.agg [.str [], .str [], .list true 4 [], .int .i64 0])) fun c51 =>
                  O.bv (O.shape 4 true v49) fun c52 =>
                  O.bv (O.ev (.eq true .i) [v50, (AV.nili)]) fun v53 =>
                  O.ifB v53 (
                    O.bv (O.ev (.build [.str [], .str [], .str [], .list true 4 [], .int .i64 0, .int .i64 0] []) []) fun v54 =>
                    O.bv (O.shape 6 true v54) fun c55 =>
                    O.ret (AV.tuple [c55, v50]) g48
                  ) (
                    O.bv (O.setPart c40 1 c52 4 true) fun c54 =>
                    O.bv (O.ev (.build [.str [], .str []] [(0, 1, false), (1, 1, false)]) [(AV.str [93]), (AV.str [59])]) fun v55 =>
                    O.loop (fun S20 => fun q => sh39_L19 O C S20 (nth q.1 0) (nth q.1 1) (nth q.1 2) (nth q.1 3) (nth q.1 4) q.2) ([t0, v55, (AV.int .i64 0), l2, c54], g48)
                  )
                )
              )
            ) (
              O.bv (O.gt (O.gv v28 false) none) fun v29 =>
              O.bv (O.gt (O.gv v28 false) (O.ev (.bin .neq) [v29, (AV.int .i64 2)])) fun v30 =>
              O.bv (O.ev .pick [v28, (AV.bool true), v30]) fun v31 =>
              O.ifB v31 (
                O.bv (O.ev (.build [.str [], .str [], .str [], .list true 4 [], .int .i64 0, .int .i64 0] []) []) fun v32 =>
                O.bv (O.ev (.iface 0) [(AV.int .i64 20)]) fun v33 =>
                O.br (C 13 [t0, v33] g6) fun v34 g35 =>
                O.bv (O.shape 6 true v32) fun c36 =>
                O.ret (AV.tuple [c36, v34]) g35
              ) (
                O.bv (O.part l4 0 1 false) fun v32 =>
                O.bv (O.ev .nilchk [t0]) fun v33 =>
                O.bv (O.ev (.fieldAddr 0) [v33]) fun v34 =>
                O.bv (O.hload g6 v34 1 false) fun v35 =>
                O.br (C 37 [v35] g6) fun v36 g37 =>
                O.bv (O.ev (.field 1 1 false) [v36]) fun v38 =>
                O.bv (O.ev (.bin .add) [v32, v38]) fun v39 =>
                O.bv (O.setPart l4 0 v39 1 false) fun c40 =>
                O.bv (O.ev .nilchk [t0]) fun v41 =>
                O.bv (O.ev (.fieldAddr 0) [v41]) fun v42 =>
                O.bv (O.hload g37 v42 1 false) fun v43 =>
                O.br (C 38 [v43, (AV.str [91])] g37) fun v44 g45 =>
                O.bv (O.ev (.eq true .i) [v44, (AV.nili)]) fun v46 =>
                O.ifB v46 (
                  O.bv (O.ev (.build [.str [], .str [], .str [], .list true 4 [], .int .i64 0, .int .i64 0] []) []) fun v47 =>
                  O.bv (O.shape 6 true v47) fun c48 =>
                  O.ret (AV.tuple [c48, v44]) g45
                ) (
                  O.br (C 11 [t0, (AV.int .i64 1)] g45) fun v47 g48 =>
                  O.bv (O.ev (.extract 0) [v47]) fun v49 =>
                  O.bv (O.ev (.extract 1) [v47]) fun v50 =>
                  O.bv (O.shape 4 true (AV.agg [.str [], .str [], .list true 4 [], .int .i64 0])) fun c51 =>
                  O.bv (O.shape 4 true v49) fun c52 =>
                  O.bv (O.ev (.eq true .i) [v50, (AV.nili)]) fun v53 =>
                  O.ifB v53 (
                    O.bv (O.ev (.build [.str [], .str [], .str [], .list true 4 [], .int .i64 0, .int .i64 0] []) []) fun v54 =>
                    O.bv (O.shape 6 true v54) fun c55 =>
                    O.ret (AV.tuple [c55, v50]) g48
                  ) (
                    O.bv (O.setPart c40 1 c52 4 true) fun c54 =>
                    O.bv (O.ev (.build [.str [], .str []] [(0, 1, false), (1, 1, false)]) [(AV.str [93]), (AV.str [59])]) fun v55 =>
                    O.loop (fun S21 => fun q => sh39_L20 O C S21 (nth q.1 0) (nth q.1 1) (nth q.1 2) (nth q.1 3) (nth q.1 4) q.2) ([t0, v55, (AV.int .i64 0), l2, c54], g48)
                  )
                )
              )
            )
          )
        ) (
          O.bv (O.gt (O.gv v17 false) none) fun v19 =>
          O.bv (O.gt (O.gv v17 false) (O.ev .lenS [v19])) fun v20 =>
          O.bv (O.gt (O.gv v17 false) (O.ev (.bin .sub) [v20, (AV.int .i64 1)])) fun v21 =>
          O.bv (O.gt (O.gv v17 false) (O.ev .idxStr [v18, v21])) fun v22 =>
          O.bv (O.gt (O.gv v17 false) (O.ev (.bin .eql) [v22, (AV.int .u8 62)])) fun v23 =>
          O.bv (O.gt (O.gv v17 false) (some v23)) fun v24 =>
          O.onG (O.gv v24 true) (
            O.bv (O.gt (O.gv v24 true) (O.part c8 1 1 false)) fun v25 =>
            O.bv (O.gt (O.gv v24 true) (O.ev (.bin .neq) [v25, (AV.str [48])])) fun v26 =>
            O.bv (O.gt (O.gv v17 false) (O.ev .pick [v24, v26, (AV.bool false)])) fun v27 =>
            O.bv (O.ev .pick [v17, (AV.bool true), v27]) fun v28 =>
            O.onG (O.gv v28 false) (
              O.bv (O.gt (O.gv v28 false) (O.part c8 0 1 false)) fun v29 =>
              O.bv (O.gt (O.gv v28 false) (O.ev (.bin .neq) [v29, (AV.int .i64 2)])) fun v30 =>
              O.bv (O.ev .pick [v28, (AV.bool true), v30]) fun v31 =>
              O.ifB v31 (
                O.bv (O.ev (.build [.str [], .str [], .str [], .list true 4 [], .int .i64 0, .int .i64 0] []) []) fun v32 =>
                O.bv (O.ev (.iface 0) [(AV.int .i64 20)]) fun v33 =>
                O.br (C 13 [t0, v33] g6) fun v34 g35 =>
                O.bv (O.shape 6 true v32) fun c36 =>
                O.ret (AV.tuple [c36, v34]) g35
              ) (
                O.bv (O.part l4 0 1 false) fun v32 =>
                O.bv (O.ev .nilchk [t0]) fun v33 =>
                O.bv (O.ev (.fieldAddr 0) [v33]) fun v34 =>
                O.bv (O.hload g6 v34 1 false) fun v35 =>
                O.br (C 37 [v35] g6) fun v36 g37 =>
                O.bv (O.ev (.field 1 1 false) [v36]) fun v38 =>
                O.bv (O.ev (.bin .add) [v32, v38]) fun v39 =>
                O.bv (O.setPart l4 0 v39 1 false) fun c40 =>
                O.bv (O.ev .nilchk [t0]) fun v41 =>
                O.bv (O.ev (.fieldAddr 0) [v41]) fun v42 =>
                O.bv (O.hload g37 v42 1 false) fun v43 =>
                O.br (C 38 [v43, (AV.str [91])] g37) fun v44 g45 =>
                O.bv (O.ev (.eq true .i) [v44, (AV.nili)]) fun v46 =>
                O.ifB v46 (
                  O.bv (O.ev (.build [.str [], .str [], .str [], .list true 4 [], .int .i64 0, .int .i64 0] []) []) fun v47 =>
                  O.bv (O.shape 6 true v47) fun c48 =>
                  O.ret (AV.tuple [c48, v44]) g45
                ) (
                  O.br (C 11 [t0, (AV.int .i64 1)] g45) fun v47 g48 =>
                  O.bv (O.ev (.extract 0) [v47]) fun v49 =>
                  O.bv (O.ev (.extract 1) [v47]) fun v50 =>
                  O.bv (O.shape 4 true (AV.agg [.str [], .str [], .list true 4 [], .int .i64 0])) fun c51 =>
                  O.bv (O.shape 4 true v49) fun c52 =>
                  O.bv (O.ev (.eq true .i) [v50, (AV.nili)]) fun v53 =>
                  O.ifB v53 (
                    O.bv (O.ev (.build [.str [], .str [], .str [], .list true 4 [], .int .i64 0, .int .i64 0] []) []) fun v54 =>
                    O.bv (O.shape 6 true v54) fun c55 =>
                    O.ret (AV.tuple [c55, v50]) g48
                  ) (
                    O.bv (O.setPart c40 1 c52 4 true) fun c54 =>
                    O.bv (O.ev (.build [.str [], .str []] [(0, 1, false), (1, 1, false)]) [(AV.str [93]), (AV.str [59])]) fun v55 =>
                    O.loop (fun S22 => fun q => sh39_L21 O C S22 (nth q.1 0) (nth q.1 1) (nth q.1 2) (nth q.1 3) (nth q.1 4) q.2) ([t0, v55, (AV.int .i64 0), l2, c54], g48)
                  )
                )
              )
            ) (
              O.bv (O.gt (O.gv v28 false) none) fun v29 =>
              O.bv (O.gt (O.gv v28 false) (O.ev (.bin .neq) [v29, (AV.int .i64 2)])) fun v30 =>
              O.bv (O.ev .pick [v28, (AV.bool true), v30]) fun v31 =>
              O.ifB v31 (
                O.bv (O.ev (.build [.str [], .str [], .str [], .list true 4 [], .int .i64 0, .int .i64 0] []) []) fun v32 =>
                O.bv (O.ev (.iface 0) [(AV.int .i64 20)]) fun v33 =>
                O.br (C 13 [t0, v33] g6) fun v34 g35 =>
                O.bv (O.shape 6 true v32) fun c36 =>
                O.ret (AV.tuple [c36, v34]) g35
              ) (
                O.bv (O.part l4 0 1 false) fun v32 =>
                O.bv (O.ev .nilchk [t0]) fun v33 =>
                O.bv (O.ev (.fieldAddr 0) [v33]) fun v34 =>
                O.bv (O.hload g6 v34 1 false) fun v35 =>
                O.br (C 37 [v35] g6) fun v36 g37 =>
                O.bv (O.ev (.field 1 1 false) [v36]) fun v38 =>
                O.bv (O.ev (.bin .add) [v32, v38]) fun v39 =>
                O.bv (O.setPart l4 0 v39 1 false) fun c40 =>
                O.bv (O.ev .nilchk [t0]) fun v41 =>
                O.bv (O.ev (.fieldAddr 0) [v41]) fun v42 =>
                O.bv (O.hload g37 v42 1 false) fun v43 =>
                O.br (C 38 [v43, (AV.str [91])] g37) fun v44 g45 =>
                O.bv (O.ev (.eq true .i) [v44, (AV.nili)]) fun v46 =>
                O.ifB v46 (
                  O.bv (O.ev (.build [.str [], .str [], .str [], .list true 4 [], .int .i64 0, .int .i64 0] []) []) fun v47 =>
                  O.bv (O.shape 6 true v47) fun c48 =>
                  O.ret (AV.tuple [c48, v44]) g45
                ) (
                  O.br (C 11 [t0, (AV.int .i64 1)] g45) fun v47 g48 =>
                  O.bv (O.ev (.extract 0) [v47]) fun v49 =>
                  O.bv (O.ev (.extract 1) [v47]) fun v50 =>
                  O.bv (O.shape 4 true (AV.agg [.str [], .str [], .list true 4 [], .int .i64 0])) fun c51 =>
                  O.bv (O.shape 4 true v49) fun c52 =>
                  O.bv (O.ev (.eq true .i) [v50, (AV.nili)]) fun v53 =>
                  O.ifB v53 (
                    O.bv (O.ev (.build [.str [], .str [], .str [], .list true 4 [], .int .i64 0, .int .i64 0] []) []) fun v54 =>
                    O.bv (O.shape 6 true v54) fun c55 =>
                    O.ret (AV.tuple [c55, v50]) g48
                  ) (
                    O.bv (O.setPart c40 1 c52 4 true) fun c54 =>
                    O.bv (O.ev (.build [.str [], .str []] [(0, 1, false), (1, 1, false)]) [(AV.str [93]), (AV.str [59])]) fun v55 =>
                    O.loop (fun S23 => fun q => sh39_L22 O C S23 (nth q.1 0) (nth q.1 1) (nth q.1 2) (nth q.1 3) (nth q.1 4) q.2) ([t0, v55, (AV.int .i64 0), l2, c54], g48)
                  )
                )
              )
            )
          ) (
            O.bv (O.gt (O.gv v24 true) none) fun v25 =>
            O.bv (O.gt (O.gv v24 true) (O.ev (.bin .neq) [v25, (AV.str [48])])) fun v26 =>
            O.bv (O.gt (O.gv v17 false) (O.ev .pick [v24, v26, (AV.bool false)])) fun v27 =>
            O.bv (O.ev .pick [v17, (AV.bool true), v27]) fun v28 =>
            O.onG (O.gv v28 false) (
              O.bv (O.gt (O.gv v28 false) (O.part c8 0 1 false)) fun v29 =>
              O.bv (O.gt (O.gv v28 false) (O.ev (.bin .neq) [v29, (AV.int .i64 2)])) fun v30 =>
              O.bv (O.ev .pick [v28, (AV.bool true), v30]) fun v31 =>
              O.ifB v31 (
                O.bv (O.ev (.build [.str [], .str [], .str [], .list true 4 [], .int .i64 0, .int .i64 0] []) []) fun v32 =>
                O.bv (O.ev (.iface 0) [(AV.int .i64 20)]) fun v33 =>
                O.br (C 13 [t0, v33] g6) fun v34 g35 =>
                O.bv (O.shape 6 true v32) fun c36 =>
                O.ret (AV.tuple [c36, v34]) g35
              ) (
                O.bv (O.part l4 0 1 false) fun v32 =>
                O.bv (O.ev .nilchk [t0]) fun v33 =>
                O.bv (O.ev (.fieldAddr 0) [v33]) fun v34 =>
                O.bv (O.hload g6 v34 1 false) fun v35 =>
                O.br (C 37 [v35] g6) fun v36 g37 =>
                O.bv (O.ev (.field 1 1 false) [v36]) fun v38 =>
                O.bv (O.ev (.bin .add) [v32, v38]) fun v39 =>
                O.bv (O.setPart l4 0 v39 1 false) fun c40 =>
                O.bv (O.ev .nilchk [t0]) fun v41 =>
                O.bv (O.ev (.fieldAddr 0) [v41]) fun v42 =>
                O.bv (O.hload g37 v42 1 false) fun v43 =>
                O.br (C 38 [v43, (AV.str [91])] g37) fun v44 g45 =>
                O.bv (O.ev (.eq true .i) [v44, (AV.nili)]) fun v46 =>
                O.ifB v46 (
                  O.bv (O.ev (.build [.str [], .str [], .str [], .list true 4 [], .int .i64 0, .int .i64 0] []) []) fun v47 =>
                  O.bv (O.shape 6 true v47) fun c48 =>
                  O.ret (AV.tuple [c48, v44]) g45
                ) (
                  O.br (C 11 [t0, (AV.int .i64 1)] g45) fun v47 g48 =>
                  O.bv (O.ev (.extract 0) [v47]) fun v49 =>
                  O.bv (O.ev (.extract 1) [v47]) fun v50 =>
                  O.bv (O.shape 4 true (AV.agg [.str [], .str [], .list true 4 [], .int .i64 0])) fun c51 =>
                  O.bv (O.shape 4 true v49) fun c52 =>
                  O.bv (O.ev (.eq true .i) [v50, (AV.nili)]) fun v53 =>
                  O.ifB v53 (
                    O.bv (O.ev (.build [.str [], .str [], .str [], .list true 4 [], .int .i64 0, .int .i64 0] []) []) fun v54 =>
                    O.bv (O.shape 6 true v54) fun c55 =>
                    O.ret (AV.tuple [c55, v50]) g48
                  ) (
                    O.bv (O.setPart c40 1 c52 4 true) fun c54 =>
                    O.bv (O.ev (.build [.str [], .str []] [(0, 1, false), (1, 1, false)]) [(AV.str [93]), (AV.str [59])]) fun v55 =>
                    O.loop (fun S24 => fun q => sh39_L23 O C S24 (nth q.1 0) (nth q.1 1) (nth q.1 2) (nth q.1 3) (nth q.1 4) q.2) ([t0, v55, (AV.int .i64 0), l2, c54], g48)
                  )
                )
              )
            ) (
              O.bv (O.gt (O.gv v28 false) none) fun v29 =>
              O.bv (O.gt (O.gv v28 false) (O.ev (.bin .neq) [v29, (AV.int .i64 2)])) fun v30 =>
              O.bv (O.ev .pick [v28, (AV.bool true), v30]) fun v31 =>
              O.ifB v31 (
                O.bv (O.ev (.build [.str [], .str [], .str [], .list true 4 [], .int .i64 0, .int .i64 0] []) []) fun v32 =>
                O.bv (O.ev (.iface 0) [(AV.int .i64 20)]) fun v33 =>
                O.br (C 13 [t0, v33] g6) fun v34 g35 =>
                O.bv (O.shape 6 true v32) fun c36 =>
                O.ret (AV.tuple [c36, v34]) g35
              ) (
                O.bv (O.part l4 0 1 false) fun v32 =>
                O.bv (O.ev .nilchk [t0]) fun v33 =>
                O.bv (O.ev (.fieldAddr 0) [v33]) fun v34 =>
                O.bv (O.hload g6 v34 1 false) fun v35 =>
                O.br (C 37 [v35] g6) fun v36 g37 =>
                O.bv (O.ev (.field 1 1 false) [v36]) fun v38 =>
                O.bv (O.ev (.bin .add) [v32, v38]) fun v39 =>
                O.bv (O.setPart l4 0 v39 1 false) fun c40 =>
                O.bv (O.ev .nilchk [t0]) fun v41 =>
                O.bv (O.ev (.fieldAddr 0) [v41]) fun v42 =>
                O.bv (O.hload g37 v42 1 false) fun v43 =>
                O.br (C 38 [v43, (AV.str [91])] g37) fun v44 g45 =>
                O.bv (O.ev (.eq true .i) [v44, (AV.nili)]) fun v46 =>
                O.ifB v46 (
                  O.bv (O.ev (.build [.str [], .str [], .str [], .list true 4 [], .int .i64 0, .int .i64 0] []) []) fun v47 =>
                  O.bv (O.shape 6 true v47) fun c48 =>
                  O.ret (AV.tuple [c48, v44]) g45
                ) (
                  O.br (C 11 [t0, (AV.int .i64 1)] g45) fun v47 g48 =>
                  O.bv (O.ev (.extract 0) [v47]) fun v49 =>
                  O.bv (O.ev (.extract 1) [v47]) fun v50 =>
                  O.bv (O.shape 4 true (AV.agg [.str [], .str [], .list true 4 [], .int .i64 0])) fun c51 =>
                  O.bv (O.shape 4 true v49) fun c52 =>
                  O.bv (O.ev (.eq true .i) [v50, (AV.nili)]) fun v53 =>
                  O.ifB v53 (
                    O.bv (O.ev (.build [.str [], .str [], .str [], .list true 4 [], .int .i64 0, .int .i64 0] []) []) fun v54 =>
                    O.bv (O.shape 6 true v54) fun c55 =>
                    O.ret (AV.tuple [c55, v50]) g48
                  ) (
                    O.bv (O.setPart c40 1 c52 4 true) fun c54 =>
                    O.bv (O.ev (.build [.str [], .str []] [(0, 1, false), (1, 1, false)]) [(AV.str [93]), (AV.str [59])]) fun v55 =>
                    O.loop (fun S25 => fun q => sh39_L24 O C S25 (nth q.1 0) (nth q.1 1) (nth q.1 2) (nth q.1 3) (nth q.1 4) q.2) ([t0, v55, (AV.int .i64 0), l2, c54], g48)
                  )
                )
              )
            )
          )
        )
      ) (
        O.bv (O.gt (O.gv v17 false) none) fun v18 =>
        O.onG (O.gv v17 false) (
          O.bv (O.gt (O.gv v17 false) (O.part l4 0 1 false)) fun v19 =>
          O.bv (O.gt (O.gv v17 false) (O.ev .lenS [v19])) fun v20 =>
          O.bv (O.gt (O.gv v17 false) (O.ev (.bin .sub) [v20, (AV.int .i64 1)])) fun v21 =>
          O.bv (O.gt (O.gv v17 false) (O.ev .idxStr [v18, v21])) fun v22 =>
          O.bv (O.gt (O.gv v17 false) (O.ev (.bin .eql) [v22, (AV.int .u8 62)])) fun v23 =>
          O.bv (O.gt (O.gv v17 false) (some v23)) fun v24 =>
          O.onG (O.gv v24 true) (
            O.bv (O.gt (O.gv v24 true) (O.part c8 1 1 false)) fun v25 =>
            O.bv (O.gt (O.gv v24 true) (O.ev (.bin .neq) [v25, (AV.str [48])])) fun v26 =>
            O.bv (O.gt (O.gv v17 false) (O.ev .pick [v24, v26, (AV.bool false)])) fun v27 =>
            O.bv (O.ev .pick [v17, (AV.bool true), v27]) fun v28 =>
            O.onG (O.gv v28 false) (
              O.bv (O.gt (O.gv v28 false) (O.part c8 0 1 false)) fun v29 =>
              O.bv (O.gt (O.gv v28 false) (O.ev (.bin .neq) [v29, (AV.int .i64 2)])) fun v30 =>
              O.bv (O.ev .pick [v28, (AV.bool true), v30]) fun v31 =>
              O.ifB v31 (
                O.bv (O.ev (.build [.str [], .str [], .str [], .list true 4 [], .int .i64 0, .int .i64 0] []) []) fun v32 =>
                O.bv (O.ev (.iface 0) [(AV.int .i64 20)]) fun v33 =>
                O.br (C 13 [t0, v33] g6) fun v34 g35 =>
                O.bv (O.shape 6 true v32) fun c36 =>
                O.ret (AV.tuple [c36, v34]) g35
              ) (
                O.bv (O.part l4 0 1 false) fun v32 =>
                O.bv (O.ev .nilchk [t0]) fun v33 =>
                O.bv (O.ev (.fieldAddr 0) [v33]) fun v34 =>
                O.bv (O.hload g6 v34 1 false) fun v35 =>
                O.br (C 37 [v35] g6) fun v36 g37 =>
                O.bv (O.ev (.field 1 1 false) [v36]) fun v38 =>
                O.bv (O.ev (.bin .add) [v32, v38]) fun v39 =>
                O.bv (O.setPart l4 0 v39 1 false) fun c40 =>
                O.bv (O.ev .nilchk [t0]) fun v41 =>
                O.bv (O.ev (.fieldAddr 0) [v41]) fun v42 =>
                O.bv (O.hload g37 v42 1 false) fun v43 =>
                O.br (C 38 [v43, (AV.str [91])] g37) fun v44 g45 =>
                O.bv (O.ev (.eq true .i) [v44, (AV.nili)]) fun v46 =>
                O.ifB v46 (
                  O.bv (O.ev (.build [.str [], .str [], .str [], .list true 4 [], .int .i64 0, .int .i64 0] []) []) fun v47 =>
                  O.bv (O.shape 6 true v47) fun c48 =>
                  O.ret (AV.tuple [c48, v44]) g45
                ) (
                  O.br (C 11 [t0, (AV.int .i64 1)] g45) fun v47 g48 =>
                  O.bv (O.ev (.extract 0) [v47]) fun v49 =>
                  O.bv (O.ev (.extract 1) [v47]) fun v50 =>
                  O.bv (O.shape 4 true (AV.agg [.str [], .str [], .list true 4 [], .int .i64 0])) fun c51 =>
                  O.bv (O.shape 4 true v49) fun c52 =>
                  O.bv (O.ev (.eq true .i) [v50, (AV.nili)]) fun v53 =>
                  O.ifB v53 (
                    O.bv (O.ev (.build [.str [], .str [], .str [], .list true 4 [], .int .i64 0, .int .i64 0] []) []) fun v54 =>
                    O.bv (O.shape 6 true v54) fun c55 =>
                    O.ret (AV.tuple [c55, v50]) g48
                  ) (
                    O.bv (O.setPart c40 1 c52 4 true) fun c54 =>
                    O.bv (O.ev (.build [.str [], .str []] [(0, 1, false), (1, 1, false)]) [(AV.str [93]), (AV.str [59])]) fun v55 =>
                    O.loop (fun S26 => fun q => sh39_L25 O C S26 (nth q.1 0) (nth q.1 1) (nth q.1 2) (nth q.1 3) (nth q.1 4) q.2) ([t0, v55, (AV.int .i64 0), l2, c54], g48)
                  )
                )
              )
            ) (
              O.bv (O.gt (O.gv v28 false) none) fun v29 =>
              O.bv (O.gt (O.gv v28 false) (O.ev (.bin .neq) [v29, (AV.int .i64 2)])) fun v30 =>
              O.bv (O.ev .pick [v28, (AV.bool true), v30]) fun v31 =>
              O.ifB v31 (
                O.bv (O.ev (.build [.str [], .str [], .str [], .list true 4 [], .int .i64 0, .int .i64 0] []) []) fun v32 =>
                O.bv (O.ev (.iface 0) [(AV.int .i64 20)]) fun v33 =>
                O.br (C 13 [t0, v33] g6) fun v34 g35 =>
                O.bv (O.shape 6 true v32) fun c36 =>
                O.ret (AV.tuple [c36, v34]) g35
              ) (
                O.bv (O.part l4 0 1 false) fun v32 =>
                O.bv (O.ev .nilchk [t0]) fun v33 =>
                O.bv (O.ev (.fieldAddr 0) [v33]) fun v34 =>
                O.bv (O.hload g6 v34 1 false) fun v35 =>
                O.br (C 37 [v35] g6) fun v36 g37 =>
                O.bv (O.ev (.field 1 1 false) [v36]) fun v38 =>
                O.bv (O.ev (.bin .add) [v32, v38]) fun v39 =>
                O.bv (O.setPart l4 0 v39 1 false) fun c40 =>
                O.bv (O.ev .nilchk [t0]) fun v41 =>
                O.bv (O.ev (.fieldAddr 0) [v41]) fun v42 =>
                O.bv (O.hload g37 v42 1 false) fun v43 =>
                O.br (C 38 [v43, (AV.str [91])] g37) fun v44 g45 =>
                O.bv (O.ev (.eq true .i) [v44, (AV.nili)]) fun v46 =>
                O.ifB v46 (
                  O.bv (O.ev (.build [.str [], .str [], .str [], .list true 4 [], .int .i64 0, .int .i64 0] []) []) fun v47 =>
                  O.bv (O.shape 6 true v47) fun c48 =>
                  O.ret (AV.tuple [c48, v44]) g45
                ) (
                  O.br (C 11 [t0, (AV.int .i64 1)] g45) fun v47 g48 =>
                  O.bv (O.ev (.extract 0) [v47]) fun v49 =>
                  O.bv (O.ev (.extract 1) [v47]) fun v50 =>
                  O.bv (O.shape 4 true (AV.agg [.str [], .str [], .list true 4 [], .int .i64 0])) fun c51 =>
                  O.bv (O.shape 4 true v49) fun c52 =>
                  O.bv (O.ev (.eq true .i) [v50, (AV.nili)]) fun v53 =>
                  O.ifB v53 (
                    O.bv (O.ev (.build [.str [], .str [], .str [], .list true 4 [], .int .i64 0, .int .i64 0] []) []) fun v54 =>
                    O.bv (O.shape 6 true v54) fun c55 =>
                    O.ret (AV.tuple [c55, v50]) g48
                  ) (
                    O.bv (O.setPart c40 1 c52 4 true) fun c54 =>
                    O.bv (O.ev (.build [.str [], .str []] [(0, 1, false), (1, 1, false)]) [(AV.str [93]), (AV.str [59])]) fun v55 =>
                    O.loop (fun S27 => fun q => sh39_L26 O C S27 (nth q.1 0) (nth q.1 1) (nth q.1 2) (nth q.1 3) (nth q.1 4) q.2) ([t0, v55, (AV.int .i64 0), l2, c54], g48)
                  )
                )
              )
            )
          ) (
            O.bv (O.gt (O.gv v24 true) none) fun v25 =>
            O.bv (O.gt (O.gv v24 true) (O.ev (.bin .neq) [v25, (AV.str [48])])) fun v26 =>
            O.bv (O.gt (O.gv v17 false) (O.ev .pick [v24, v26, (AV.bool false)])) fun v27 =>
            O.bv (O.ev .pick [v17, (AV.bool true), v27]) fun v28 =>
            O.onG (O.gv v28 false) (
              O.bv (O.gt (O.gv v28 false) (O.part c8 0 1 false)) fun v29 =>
              O.bv (O.gt (O.gv v28 false) (O.ev (.bin .neq) [v29, (AV.int .i64 2)])) fun v30 =>
              O.bv (O.ev .pick [v28, (AV.bool true), v30]) fun v31 =>
              O.ifB v31 (
                O.bv (O.ev (.build [.str [], .str [], .str [], .list true 4 [], .int .i64 0, .int .i64 0] []) []) fun v32 =>
                O.bv (O.ev (.iface 0) [(AV.int .i64 20)]) fun v33 =>
                O.br (C 13 [t0, v33] g6) fun v34 g35 =>
                O.bv (O.shape 6 true v32) fun c36 =>
                O.ret (AV.tuple [c36, v34]) g35
              ) (
                O.bv (O.part l4 0 1 false) fun v32 =>
                O.bv (O.ev .nilchk [t0]) fun v33 =>
                O.bv (O.ev (.fieldAddr 0) [v33]) fun v34 =>
                O.bv (O.hload g6 v34 1 false) fun v35 =>
                O.br (C 37 [v35] g6) fun v36 g37 =>
                O.bv (O.ev (.field 1 1 false) [v36]) fun v38 =>
                O.bv (O.ev (.bin .add) [v32, v38]) fun v39 =>
                O.bv (O.setPart l4 0 v39 1 false) fun c40 =>
                O.bv (O.ev .nilchk [t0]) fun v41 =>
                O.bv (O.ev (.fieldAddr 0) [v41]) fun v42 =>
                O.bv (O.hload g37 v42 1 false) fun v43 =>
                O.br (C 38 [v43, (AV.str [91])] g37) fun v44 g45 =>
                O.bv (O.ev (.eq true .i) [v44, (AV.nili)]) fun v46 =>
                O.ifB v46 (
                  O.bv (O.ev (.build [.str [], .str [], .str [], .list true 4 [], .int .i64 0, .int .i64 0] []) []) fun v47 =>
                  O.bv (O.shape 6 true v47) fun c48 =>
                  O.ret (AV.tuple [c48, v44]) g45
                ) (
                  O.br (C 11 [t0, (AV.int .i64 1)] g45) fun v47 g48 =>
                  O.bv (O.ev (.extract 0) [v47]) fun v49 =>
                  O.bv (O.ev (.extract 1) [v47]) fun v50 =>
                  O.bv (O.shape 4 true (AV.agg [.str [], .str [], .list true 4 [], .int .i64 0])) fun c51 =>
                  O.bv (O.shape 4 true v49) fun c52 =>
                  O.bv (O.ev (.eq true .i) [v50, (AV.nili)]) fun v53 =>
                  O.ifB v53 (
                    O.bv (O.ev (.build [.str [], .str [], .str [], .list true 4 [], .int .i64 0, .int .i64 0] []) []) fun v54 =>
                    O.bv (O.shape 6 true v54) fun c55 =>
                    O.ret (AV.tuple [c55, v50]) g48
                  ) (
                    O.bv (O.setPart c40 1 c52 4 true) fun c54 =>
                    O.bv (O.ev (.build [.str [], .str []] [(0, 1, false), (1, 1, false)]) [(AV.str [93]), (AV.str [59])]) fun v55 =>
                    O.loop (fun S28 => fun q => sh39_L27 O C S28 (nth q.1 0) (nth q.1 1) (nth q.1 2) (nth q.1 3) (nth q.1 4) q.2) ([t0, v55, (AV.int .i64 0), l2, c54], g48)
                  )
                )
              )
            ) (
              O.bv (O.gt (O.gv v28 false) none) fun v29 =>
              O.bv (O.gt (O.gv v28 false) (O.ev (.bin .neq) [v29, (AV.int .i64 2)])) fun v30 =>
              O.bv (O.ev .pick [v28, (AV.bool true), v30]) fun v31 =>
              O.ifB v31 (
                O.bv (O.ev (.build [.str [], .str [], .str [], .list true 4 [], .int .i64 0, .int .i64 0] []) []) fun v32 =>
                O.bv (O.ev (.iface 0) [(AV.int .i64 20)]) fun v33 =>
                O.br (C 13 [t0, v33] g6) fun v34 g35 =>
                O.bv (O.shape 6 true v32) fun c36 =>
                O.ret (AV.tuple [c36, v34]) g35
              ) (
                O.bv (O.part l4 0 1 false) fun v32 =>
                O.bv (O.ev .nilchk [t0]) fun v33 =>
                O.bv (O.ev (.fieldAddr 0) [v33]) fun v34 =>
                O.bv (O.hload g6 v34 1 false) fun v35 =>
                O.br (C 37 [v35] g6) fun v36 g37 =>
                O.bv (O.ev (.field 1 1 false) [v36]) fun v38 =>
                O.bv (O.ev (.bin .add) [v32, v38]) fun v39 =>
                O.bv (O.setPart l4 0 v39 1 false) fun c40 =>
                O.bv (O.ev .nilchk [t0]) fun v41 =>
                O.bv (O.ev (.fieldAddr 0) [v41]) fun v42 =>
                O.bv (O.hload g37 v42 1 false) fun v43 =>
                O.br (C 38 [v43, (AV.str [91])] g37) fun v44 g45 =>
                O.bv (O.ev (.eq true .i) [v44, (AV.nili)]) fun v46 =>
                O.ifB v46 (
                  O.bv (O.ev (.build [.str [], .str [], .str [], .list true 4 [], .int .i64 0, .int .i64 0] []) []) fun v47 =>
                  O.bv (O.shape 6 true v47) fun c48 =>
                  O.ret (AV.tuple [c48, v44]) g45
                ) (
                  O.br (C 11 [t0, (AV.int .i64 1)] g45) fun v47 g48 =>
                  O.bv (O.ev (.extract 0) [v47]) fun v49 =>
                  O.bv (O.ev (.extract 1) [v47]) fun v50 =>
                  O.bv (O.shape 4 true (AV.agg [.str [], .str [], .list true 4 [], .int .i64 0])) fun c51 =>
                  O.bv (O.shape 4 true v49) fun c52 =>
                  O.bv (O.ev (.eq true .i) [v50, (AV.nili)]) fun v53 =>
                  O.ifB v53 (
                    O.bv (O.ev (.build [.str [], .str [], .str [], .list true 4 [], .int .i64 0, .int .i64 0] []) []) fun v54 =>
                    O.bv (O.shape 6 true v54) fun c55 =>
                    O.ret (AV.tuple [c55, v50]) g48
                  ) (
                    O.bv (O.setPart c40 1 c52 4 true) fun c54 =>
                    O.bv (O.ev (.build [.str [], .str []] [(0, 1, false), (1, 1, false)]) [(AV.str [93]), (AV.str [59])]) fun v55 =>
                    O.loop (fun S29 => fun q => sh39_L28 O C S29 (nth q.1 0) (nth q.1 1) (nth q.1 2) (nth q.1 3) (nth q.1 4) q.2) ([t0, v55, (AV.int .i64 0), l2, c54], g48)
                  )
                )
              )
            )
          )
        ) (
          O.bv (O.gt (O.gv v17 false) none) fun v19 =>
          O.bv (O.gt (O.gv v17 false) (O.ev .lenS [v19])) fun v20 =>
          O.bv (O.gt (O.gv v17 false) (O.ev (.bin .sub) [v20, (AV.int .i64 1)])) fun v21 =>
          O.bv (O.gt (O.gv v17 false) (O.ev .idxStr [v18, v21])) fun v22 =>
          O.bv (O.gt (O.gv v17 false) (O.ev (.bin .eql) [v22, (AV.int .u8 62)])) fun v23 =>
          O.bv (O.gt (O.gv v17 false) (some v23)) fun v24 =>
          O.onG (O.gv v24 true) (
            O.bv (O.gt (O.gv v24 true) (O.part c8 1 1 false)) fun v25 =>
            O.bv (O.gt (O.gv v24 true) (O.ev (.bin .neq) [v25, (AV.str [48])])) fun v26 =>
            O.bv (O.gt (O.gv v17 false) (O.ev .pick [v24, v26, (AV.bool false)])) fun v27 =>
            O.bv (O.ev .pick [v17, (AV.bool true), v27]) fun v28 =>
            O.onG (O.gv v28 false) (
              O.bv (O.gt (O.gv v28 false) (O.part c8 0 1 false)) fun v29 =>
              O.bv (O.gt (O.gv v28 false) (O.ev (.bin .neq) [v29, (AV.int .i64 2)])) fun v30 =>
              O.bv (O.ev .pick [v28, (AV.bool true), v30]) fun v31 =>
              O.ifB v31 (
                O.bv (O.ev (.build [.str [], .str [], .str [], .list true 4 [], .int .i64 0, .int .i64 0] []) []) fun v32 =>
                O.bv (O.ev (.iface 0) [(AV.int .i64 20)]) fun v33 =>
                O.br (C 13 [t0, v33] g6) fun v34 g35 =>
                O.bv (O.shape 6 true v32) fun c36 =>
                O.ret (AV.tuple [c36, v34]) g35
              ) (
                O.bv (O.part l4 0 1 false) fun v32 =>
                O.bv (O.ev .nilchk [t0]) fun v33 =>
                O.bv (O.ev (.fieldAddr 0) [v33]) fun v34 =>
                O.bv (O.hload g6 v34 1 false) fun v35 =>
                O.br (C 37 [v35] g6) fun v36 g37 =>
                O.bv (O.ev (.field 1 1 false) [v36]) fun v38 =>
                O.bv (O.ev (.bin .add) [v32, v38]) fun v39 =>
                O.bv (O.setPart l4 0 v39 1 false) fun c40 =>
                O.bv (O.ev .nilchk [t0]) fun v41 =>
                O.bv (O.ev (.fieldAddr 0) [v41]) fun v42 =>
                O.bv (O.hload g37 v42 1 false) fun v43 =>
                O.br (C 38 [v43, (AV.str [91])] g37) fun v44 g45 =>
                O.bv (O.ev (.eq true .i) [v44, (AV.nili)]) fun v46 =>
                O.ifB v46 (
                  O.bv (O.ev (.build [.str [], .str [], .str [], .list true 4 [], .int .i64 0, .int .i64 0] []) []) fun v47 =>
                  O.bv (O.shape 6 true v47) fun c48 =>
                  O.ret (AV.tuple [c48, v44]) g45
                ) (
                  O.br (C 11 [t0, (AV.int .i64 1)] g45) fun v47 g48 =>
                  O.bv (O.ev (.extract 0) [v47]) fun v49 =>
                  O.bv (O.ev (.extract 1) [v47]) fun v50 =>
                  O.bv (O.shape 4 true (AV.agg [.str [], .str [], .list true 4 [], .int .i64 0])) fun c51 =>
                  O.bv (O.shape 4 true v49) fun c52 =>
                  O.bv (O.ev (.eq true .i) [v50, (AV.nili)]) fun v53 =>
                  O.ifB v53 (
                    O.bv (O.ev (.build [.str [], .str [], .str [], .list true 4 [], .int .i64 0, .int .i64 0] []) []) fun v54 =>
                    O.bv (O.shape 6 true v54) fun c55 =>
                    O.ret (AV.tuple [c55, v50]) g48
                  ) (
                    O.bv (O.setPart c40 1 c52 4 true) fun c54 =>
                    O.bv (O.ev (.build [.str [], .str []] [(0, 1, false), (1, 1, false)]) [(AV.str [93]), (AV.str [59])]) fun v55 =>
                    O.loop (fun S30 => fun q => sh39_L29 O C S30 (nth q.1 0) (nth q.1 1) (nth q.1 2) (nth q.1 3) (nth q.1 4) q.2) ([t0, v55, (AV.int .i64 0), l2, c54], g48)
                  )
                )
              )
            ) (
              O.bv (O.gt (O.gv v28 false) none) fun v29 =>
              O.bv (O.gt (O.gv v28 false) (O.ev (.bin .neq) [v29, (AV.int .i64 2)])) fun v30 =>
              O.bv (O.ev .pick [v28, (AV.bool true), v30]) fun v31 =>
              O.ifB v31 (
                O.bv (O.ev (.build [.str [], .str [], .str [], .list true 4 [], .int .i64 0, .int .i64 0] []) []) fun v32 =>
                O.bv (O.ev (.iface 0) [(AV.int .i64 20)]) fun v33 =>
                O.br (C 13 [t0, v33] g6) fun v34 g35 =>
                O.bv (O.shape 6 true v32) fun c36 =>
                O.ret (AV.tuple [c36, v34]) g35
              ) (
                O.bv (O.part l4 0 1 false) fun v32 =>
                O.bv (O.ev .nilchk [t0]) fun v33 =>
                O.bv (O.ev (.fieldAddr 0) [v33]) fun v34 =>
                O.bv (O.hload g6 v34 1 false) fun v35 =>
                O.br (C 37 [v35] g6) fun v36 g37 =>
                O.bv (O.ev (.field 1 1 false) [v36]) fun v38 =>
                O.bv (O.ev (.bin .add) [v32, v38]) fun v39 =>
                O.bv (O.setPart l4 0 v39 1 false) fun c40 =>
                O.bv (O.ev .nilchk [t0]) fun v41 =>
                O.bv (O.ev (.fieldAddr 0) [v41]) fun v42 =>
                O.bv (O.hload g37 v42 1 false) fun v43 =>
                O.br (C 38 [v43, (AV.str [91])] g37) fun v44 g45 =>
                O.bv (O.ev (.eq true .i) [v44, (AV.nili)]) fun v46 =>
                O.ifB v46 (
                  O.bv (O.ev (.build [.str [], .str [], .str [], .list true 4 [], .int .i64 0, .int .i64 0] []) []) fun v47 =>
                  O.bv (O.shape 6 true v47) fun c48 =>
                  O.ret (AV.tuple [c48, v44]) g45
                ) (
                  O.br (C 11 [t0, (AV.int .i64 1)] g45) fun v47 g48 =>
                  O.bv (O.ev (.extract 0) [v47]) fun v49 =>
                  O.bv (O.ev (.extract 1) [v47]) fun v50 =>
                  O.bv (O.shape 4 true (AV.agg [.str [], .str [], .list true 4 [], .int .i64 0])) fun c51 =>
                  O.bv (O.shape 4 true v49) fun c52 =>
                  O.bv (O.ev (.eq true .i) [v50, (AV.nili)]) fun v53 =>
                  O.ifB v53 (
                    O.bv (O.ev (.build [.str [], .str [], .str [], .list true 4 [], .int .i64 0, .int .i64 0] []) []) fun v54 =>
                    O.bv (O.shape 6 true v54) fun c55 =>
                    O.ret (AV.tuple [c55, v50]) g48
                  ) (
                    O.bv (O.setPart c40 1 c52 4 true) fun c54 =>
                    O.bv (O.ev (.build [.str [], .str []] [(0, 1, false), (1, 1, false)]) [(AV.str [93]), (AV.str [59])]) fun v55 =>
                    O.loop (fun S31 => fun q => sh39_L30 O C S31 (nth q.1 0) (nth q.1 1) (nth q.1 2) (nth q.1 3) (nth q.1 4) q.2) ([t0, v55, (AV.int .i64 0), l2, c54], g48)
                  )
                )
              )
            )
          ) (
            O.bv (O.gt (O.gv v24 true) none) fun v25 =>
            O.bv (O.gt (O.gv v24 true) (O.ev (.bin .neq) [v25, (AV.str [48])])) fun v26 =>
            O.bv (O.gt (O.gv v17 false) (O.ev .pick [v24, v26, (AV.bool false)])) fun v27 =>
            O.bv (O.ev .pick [v17, (AV.bool true), v27]) fun v28 =>
            O.onG (O.gv v28 false) (
              O.bv (O.gt (O.gv v28 false) (O.part c8 0 1 false)) fun v29 =>
              O.bv (O.gt (O.gv v28 false) (O.ev (.bin .neq) [v29, (AV.int .i64 2)])) fun v30 =>
              O.bv (O.ev .pick [v28, (AV.bool true), v30]) fun v31 =>
              O.ifB v31 (
                O.bv (O.ev (.build [.str [], .str [], .str [], .list true 4 [], .int .i64 0, .int .i64 0] []) []) fun v32 =>
                O.bv (O.ev (.iface 0) [(AV.int .i64 20)]) fun v33 =>
                O.br (C 13 [t0, v33] g6) fun v34 g35 =>
                O.bv (O.shape 6 true v32) fun c36 =>
                O.ret (AV.tuple [c36, v34]) g35
              ) (
                O.bv (O.part l4 0 1 false) fun v32 =>
                O.bv (O.ev .nilchk [t0]) fun v33 =>
                O.bv (O.ev (.fieldAddr 0) [v33]) fun v34 =>
                O.bv (O.hload g6 v34 1 false) fun v35 =>
                O.br (C 37 [v35] g6) fun v36 g37 =>
                O.bv (O.ev (.field 1 1 false) [v36]) fun v38 =>
                O.bv (O.ev (.bin .add) [v32, v38]) fun v39 =>
                O.bv (O.setPart l4 0 v39 1 false) fun c40 =>
                O.bv (O.ev .nilchk [t0]) fun v41 =>
                O.bv (O.ev (.fieldAddr 0) [v41]) fun v42 =>
                O.bv (O.hload g37 v42 1 false) fun v43 =>
                O.br (C 38 [v43, (AV.str [91])] g37) fun v44 g45 =>
                O.bv (O.ev (.eq true .i) [v44, (AV.nili)]) fun v46 =>
                O.ifB v46 (
                  O.bv (O.ev (.build [.str [], .str [], .str [], .list true 4 [], .int .i64 0, .int .i64 0] []) []) fun v47 =>
                  O.bv (O.shape 6 true v47) fun c48 =>
                  O.ret (AV.tuple [c48, v44]) g45
                ) (
                  O.br (C 11 [t0, (AV.int .i64 1)] g45) fun v47 g48 =>
                  O.bv (O.ev (.extract 0) [v47]) fun v49 =>
                  O.bv (O.ev (.extract 1) [v47]) fun v50 =>
                  O.bv (O.shape 4 true (AV.agg [.str [], .str [], .list true 4 [], .int .i64 0])) fun c51 =>
                  O.bv (O.shape 4 true v49) fun c52 =>
                  O.bv (O.ev (.eq true .i) [v50, (AV.nili)]) fun v53 =>
                  O.ifB v53 (
                    O.bv (O.ev (.build [.str [], .str [], .str [], .list true 4 [], .int .i64 0, .int .i64 0] []) []) fun v54 =>
                    O.bv (O.shape 6 true v54) fun c55 =>
                    O.ret (AV.tuple [c55, v50]) g48
                  ) (
                    O.bv (O.setPart c40 1 c52 4 true) fun c54 =>
                    O.bv (O.ev (.build [.str [], .str []] [(0, 1, false), (1, 1, false)]) [(AV.str [93]), (AV.str [59])]) fun v55 =>
                    O.loop (fun S32 => fun q => sh39_L31 O C S32 (nth q.1 0) (nth q.1 1) (nth q.1 2) (nth q.1 3) (nth q.1 4) q.2) ([t0, v55, (AV.int .i64 0), l2, c54], g48)
                  )
                )
              )
            ) (
              O.bv (O.gt (O.gv v28 false) none) fun v29 =>
              O.bv (O.gt (O.gv v28 false) (O.ev (.bin .neq) [v29, (AV.int .i64 2)])) fun v30 =>
              O.bv (O.ev .pick [v28, (AV.bool true), v30]) fun v31 =>
              O.ifB v31 (
                O.bv (O.ev (.build [.str [], .str [], .str [], .list true 4 [], .int .i64 0, .int .i64 0] []) []) fun v32 =>
                O.bv (O.ev (.iface 0) [(AV.int .i64 20)]) fun v33 =>
                O.br (C 13 [t0, v33] g6) fun v34 g35 =>
                O.bv (O.shape 6 true v32) fun c36 =>
                O.ret (AV.tuple [c36, v34]) g35
              ) (
                O.bv (O.part l4 0 1 false) fun v32 =>
                O.bv (O.ev .nilchk [t0]) fun v33 =>
                O.bv (O.ev (.fieldAddr 0) [v33]) fun v34 =>
                O.bv (O.hload g6 v34 1 false) fun v35 =>
                O.br (C 37 [v35] g6) fun v36 g37 =>
                O.bv (O.ev (.field 1 1 false) [v36]) fun v38 =>
                O.bv (O.ev (.bin .add) [v32, v38]) fun v39 =>
                O.bv (O.setPart l4 0 v39 1 false) fun c40 =>
                O.bv (O.ev .nilchk [t0]) fun v41 =>
                O.bv (O.ev (.fieldAddr 0) [v41]) fun v42 =>
                O.bv (O.hload g37 v42 1 false) fun v43 =>
                O.br (C 38 [v43, (AV.str [91])] g37) fun v44 g45 =>
                O.bv (O.ev (.eq true .i) [v44, (AV.nili)]) fun v46 =>
                O.ifB v46 (
                  O.bv (O.ev (.build [.str [], .str [], .str [], .list true 4 [], .int .i64 0, .int .i64 0] []) []) fun v47 =>
                  O.bv (O.shape 6 true v47) fun c48 =>
                  O.ret (AV.tuple [c48, v44]) g45
                ) (
                  O.br (C 11 [t0, (AV.int .i64 1)] g45) fun v47 g48 =>
                  O.bv (O.ev (.extract 0) [v47]) fun v49 =>
                  O.bv (O.ev (.extract 1) [v47]) fun v50 =>
                  O.bv (O.shape 4 true (AV.agg [.str [], .str [], .list true 4 [], .int .i64 0])) fun c51 =>
                  O.bv (O.shape 4 true v49) fun c52 =>
                  O.bv (O.ev (.eq true .i) [v50, (AV.nili)]) fun v53 =>
                  O.ifB v53 (
                    O.bv (O.ev (.build [.str [], .str [], .str [], .list true 4 [], .int .i64 0, .int .i64 0] []) []) fun v54 =>
                    O.bv (O.shape 6 true v54) fun c55 =>
                    O.ret (AV.tuple [c55, v50]) g48
                  ) (
                    O.bv (O.setPart c40 1 c52 4 true) fun c54 =>
                    O.bv (O.ev (.build [.str [], .str []] [(0, 1, false), (1, 1, false)]) [(AV.str [93]), (AV.str [59])]) fun v55 =>
                    O.loop (fun S33 => fun q => sh39_L32 O C S33 (nth q.1 0) (nth q.1 1) (nth q.1 2) (nth q.1 3) (nth q.1 4) q.2) ([t0, v55, (AV.int .i64 0), l2, c54], g48)
                  )
                )
              )
            )
          )
        )
      )
    )
  )
noncomputable def sh39 (O : Ops) (C : Call) (a0 : AV) (h0 : H) : R :=
  O.bv (O.shape 6 true (AV.agg [.str [], .str [], .str [], .list true 4 [], .int .i64 0, .int .i64 0])) fun c1 =>
  O.bv (O.ev .nilchk [a0]) fun v2 =>
  O.bv (O.ev (.fieldAddr 0) [v2]) fun v3 =>
  O.bv (O.hload h0 v3 1 false) fun v4 =>
  O.br (C 12 [v4] h0) fun v5 g6 =>
  O.bv (O.ev (.field 2 1 false) [v5]) fun v7 =>
  O.bv (O.ev (.build [.str [], .str [], .str [], .list true 4 [], .int .i64 0, .int .i64 0] [(5, 1, false)]) [v7]) fun v8 =>
  O.bv (O.shape 6 true (AV.agg [.str [], .str [], .str [], .list true 4 [], .int .i64 0, .int .i64 0])) fun c9 =>
  O.bv (O.shape 6 true v8) fun c10 =>
  O.bv (O.ev (.mkList 1 false) [(AV.str [80, 109, 105, 110]), (AV.str [80, 109, 97, 120])]) fun v11 =>
  O.bv (O.ev (.mkList 1 false) [(AV.str [61]), (AV.str [62])]) fun v12 =>
  O.bv (O.ev (.build [.list true 1 [], .list true 1 []] [(0, 1, false), (1, 1, false)]) [v11, v12]) fun v13 =>
  O.loop (fun S1 => fun q => sh39_L33 O C S1 (nth q.1 0) (nth q.1 1) (nth q.1 2) (nth q.1 3) (nth q.1 4) q.2) ([a0, v13, (AV.int .i64 0), c1, c10], g6)
theorem sh39_eq (O : Ops) (C : Call) (a0 : AV) (h : H) : execF2 O C ir39 [a0] h = sh39 O C a0 h := by kernel_rfl

/-- sortilege/prop.binds -/
noncomputable def sh21_J1 (O : Ops) (C : Call) (t3 : AV) (h : H) : R :=
  O.bv (O.ev (.bin .eql) [t3, (AV.str [33])]) fun v1 =>
  O.ifB v1 (
    O.ret (AV.int .i64 5) h
  ) (
    O.bv (O.ev (.bin .eql) [t3, (AV.str [88])]) fun v2 =>
    O.ifB v2 (
      O.ifB v2 (
        O.ret (AV.int .i64 5) h
      ) (
        O.ret (AV.int .i64 6) h
      )
    ) (
      O.bv (O.ev (.bin .eql) [t3, (AV.str [70])]) fun v3 =>
      O.ifB v3 (
        O.ifB v3 (
          O.ret (AV.int .i64 5) h
        ) (
          O.ret (AV.int .i64 6) h
        )
      ) (
        O.bv (O.ev (.bin .eql) [t3, (AV.str [71])]) fun v4 =>
        O.ifB v4 (
          O.ret (AV.int .i64 5) h
        ) (
          O.ret (AV.int .i64 6) h
        )
      )
    )
  )
noncomputable def sh21 (O : Ops) (C : Call) (a0 : AV) (h0 : H) : R :=
  O.bv (O.ev (.bin .eql) [a0, (AV.str [61, 62])]) fun v1 =>
  O.ifB v1 (
    O.ret (AV.int .i64 1) h0
  ) (
    O.bv (O.ev (.bin .eql) [a0, (AV.str [124])]) fun v2 =>
    O.ifB v2 (
      O.ret (AV.int .i64 2) h0
    ) (
      O.bv (O.ev (.bin .eql) [a0, (AV.str [38])]) fun v3 =>
      O.ifB v3 (
        O.ret (AV.int .i64 3) h0
      ) (
        O.withK (fun q => sh21_J1 O C  (nth q.1 0) q.2) fun K1 =>
        O.bv (O.ev (.bin .eql) [a0, (AV.str [85])]) fun v4 =>
        O.ifB v4 (
          O.ifB v4 (
            O.ret (AV.int .i64 4) h0
          ) (
            K1 ([a0], h0)
          )
        ) (
          O.bv (O.ev (.bin .eql) [a0, (AV.str [87])]) fun v5 =>
          O.ifB v5 (
            O.ifB v5 (
              O.ret (AV.int .i64 4) h0
            ) (
              K1 ([a0], h0)
            )
          ) (
            O.bv (O.ev (.bin .eql) [a0, (AV.str [82])]) fun v6 =>
            O.ifB v6 (
              O.ret (AV.int .i64 4) h0
            ) (
              K1 ([a0], h0)
            )
          )
        )
      )
    )
  )
theorem sh21_eq (O : Ops) (C : Call) (a0 : AV) (h : H) : execF2 O C ir21 [a0] h = sh21 O C a0 h := by kernel_rfl

/-- sortilege/prop.kid -/
noncomputable def sh22 (O : Ops) (C : Call) (a0 a1 a2 : AV) (h0 : H) : R :=
  O.bv (O.ev (.boxro 4 true) [a0]) fun v1 =>
  O.bv (O.ev (.fieldAddr 2) [v1]) fun v2 =>
  O.bv (O.ev (.ld 1 false) [v2]) fun v3 =>
  O.bv (O.ev .lenL [v3]) fun v4 =>
  O.bv (O.ev (.bin .geq) [a1, v4]) fun v5 =>
  O.ifB v5 (
    O.ret (AV.str []) h0
  ) (
    O.bv (O.ev (.fieldAddr 2) [v1]) fun v6 =>
    O.bv (O.ev (.ld 1 false) [v6]) fun v7 =>
    O.bv (O.ev (.idxAddr 4) [v7, a1]) fun v8 =>
    O.bv (O.ev (.ld 4 true) [v8]) fun v9 =>
    O.br (C 9 [v9] h0) fun v10 g11 =>
    O.bv (O.ev (.fieldAddr 2) [v1]) fun v12 =>
    O.bv (O.ev (.ld 1 false) [v12]) fun v13 =>
    O.bv (O.ev (.idxAddr 4) [v13, a1]) fun v14 =>
    O.bv (O.ev (.fieldAddr 0) [v14]) fun v15 =>
    O.bv (O.ev (.ld 1 false) [v15]) fun v16 =>
    O.br (C 21 [v16] g11) fun v17 g18 =>
    O.bv (O.ev (.bin .lss) [v17, a2]) fun v19 =>
    O.ifB v19 (
      O.bv (O.ev (.bin .add) [(AV.str [40]), v10]) fun v20 =>
      O.bv (O.ev (.bin .add) [v20, (AV.str [41])]) fun v21 =>
      O.ret v21 g18
    ) (
      O.ret v10 g18
    )
  )
theorem sh22_eq (O : Ops) (C : Call) (a0 a1 a2 : AV) (h : H) : execF2 O C ir22 [a0, a1, a2] h = sh22 O C a0 a1 a2 h := by kernel_rfl

/-- sortilege/scan.New -/
noncomputable def sh23 (O : Ops) (C : Call) (a0 : AV) (h0 : H) : R :=
  O.br (C 40 [a0] h0) fun v1 g2 =>
  O.bv (O.ev (.extract 0) [v1]) fun v3 =>
  O.bv (O.ev (.extract 1) [v1]) fun v4 =>
  O.bv (O.ev (.eq true .i) [v4, (AV.nili)]) fun v5 =>
  O.ifB v5 (
    O.ret (AV.tuple [(AV.nilp), v4]) g2
  ) (
    O.bv (O.ev (.build [.list true 3 [], .int .i64 0] [(0, 1, false)]) [v3]) fun v6 =>
    O.bv (O.shape 2 true v6) fun c7 =>
    O.ret (AV.tuple [(AV.ptr (H.size g2) 0 0), (AV.nili)]) (H.push g2 (.cells 2 true c7 []))
  )
theorem sh23_eq (O : Ops) (C : Call) (a0 : AV) (h : H) : execF2 O C ir23 [a0] h = sh23 O C a0 h := by kernel_rfl

/-- (*sortilege/prop.parser).chain -/
noncomputable def sh25_L1 (O : Ops) (C : Call) (S1 : St → R) (t0 t1 t2 t3 t11 l8 l10 : AV) (h : H) : R :=
  O.bv (O.ev (.eq false .i) [t11, (AV.nili)]) fun v1 =>
  O.bv (O.gt (O.gv v1 true) (some t0)) fun v2 =>
  O.bv (O.gt (O.gv v1 true) (O.ev .nilchk [v2])) fun v3 =>
  O.bv (O.gt (O.gv v1 true) (O.ev (.fieldAddr 0) [v3])) fun v4 =>
  O.bv (O.gt (O.gv v1 true) (O.hload h v4 1 false)) fun v5 =>
  O.bv (O.gt (O.gv v1 true) (some t1)) fun v6 =>
  O.br (O.gr (O.gv v1 true) (C 36 [v5, v6] h) h) fun v7 g8 =>
  O.bv (O.ev .pick [v1, v7, (AV.bool false)]) fun v9 =>
  O.ifB v9 (
    O.bv (O.shape 4 true (AV.agg [.str [], .str [], .list true 4 [], .int .i64 0])) fun c10 =>
    O.br (O.callV C t3 [t2] g8) fun v11 g12 =>
    O.bv (O.ev (.extract 0) [v11]) fun v13 =>
    O.bv (O.ev (.extract 1) [v11]) fun v14 =>
    O.bv (O.shape 4 true v13) fun c15 =>
    O.bv (O.ev (.eq false .i) [v14, (AV.nili)]) fun v16 =>
    O.ifB v16 (
      O.br (C 41 [t1, l10, c15] g12) fun v17 g18 =>
      O.bv (O.shape 4 true v17) fun c19 =>
      S1 ([t0, t1, t2, t3, v14, l8, c19], g18)
    ) (
      S1 ([t0, t1, t2, t3, v14, l8, l10], g12)
    )
  ) (
    O.bv (O.ev (.eq true .i) [t11, (AV.nili)]) fun v10 =>
    O.ifB v10 (
      O.bv (O.ev (.build [.str [], .str [], .list true 4 [], .int .i64 0] []) []) fun v11 =>
      O.bv (O.shape 4 true v11) fun c12 =>
      O.ret (AV.tuple [c12, t11]) g8
    ) (
      O.bv (O.shape 4 true l10) fun c11 =>
      O.ret (AV.tuple [c11, (AV.nili)]) g8
    )
  )
noncomputable def sh25 (O : Ops) (C : Call) (a0 a1 a2 a3 : AV) (h0 : H) : R :=
  O.bv (O.shape 4 true (AV.agg [.str [], .str [], .list true 4 [], .int .i64 0])) fun c1 =>
  O.br (O.callV C a3 [a2] h0) fun v2 g3 =>
  O.bv (O.ev (.extract 0) [v2]) fun v4 =>
  O.bv (O.ev (.extract 1) [v2]) fun v5 =>
  O.bv (O.shape 4 true (AV.agg [.str [], .str [], .list true 4 [], .int .i64 0])) fun c6 =>
  O.bv (O.shape 4 true v4) fun c7 =>
  O.loop (fun S1 => fun q => sh25_L1 O C S1 (nth q.1 0) (nth q.1 1) (nth q.1 2) (nth q.1 3) (nth q.1 4) (nth q.1 5) (nth q.1 6) q.2) ([a0, a1, a2, a3, v5, c1, c7], g3)
theorem sh25_eq (O : Ops) (C : Call) (a0 a1 a2 a3 : AV) (h : H) : execF2 O C ir25 [a0, a1, a2, a3] h = sh25 O C a0 a1 a2 a3 h := by kernel_rfl

/-- (*sortilege/prop.parser).imply$1 -/
noncomputable def sh24 (O : Ops) (C : Call) (a0 a1 : AV) (h0 : H) : R :=
  O.bv (O.shape 4 true (AV.agg [.str [], .str [], .list true 4 [], .int .i64 0])) fun c1 =>
  O.bv (O.hload h0 a1 1 false) fun v2 =>
  O.bv (O.hload h0 a1 1 false) fun v3 =>
  O.bv (O.ev (.mkfunc 42 1) [v3]) fun v4 =>
  O.br (C 25 [v2, (AV.str [38]), a0, v4] h0) fun v5 g6 =>
  O.bv (O.ev (.extract 0) [v5]) fun v7 =>
  O.bv (O.ev (.extract 1) [v5]) fun v8 =>
  O.bv (O.shape 4 true v7) fun c9 =>
  O.ret (AV.tuple [c9, v8]) g6
theorem sh24_eq (O : Ops) (C : Call) (a0 a1 : AV) (h : H) : execF2 O C ir24 [a0, a1] h = sh24 O C a0 a1 h := by kernel_rfl

/-- (*sortilege/prop.parser).until -/
noncomputable def sh42 (O : Ops) (C : Call) (a0 a1 : AV) (h0 : H) : R :=
  O.bv (O.shape 4 true (AV.agg [.str [], .str [], .list true 4 [], .int .i64 0])) fun c1 =>
  O.bv (O.ev .nilchk [a0]) fun v2 =>
  O.bv (O.ev (.fieldAddr 1) [v2]) fun v3 =>
  O.bv (O.hload h0 v3 1 false) fun v4 =>
  O.bv (O.ev (.bin .gtr) [a1, v4]) fun v5 =>
  O.ifB v5 (
    O.bv (O.ev (.build [.str [], .str [], .list true 4 [], .int .i64 0] []) []) fun v6 =>
    O.bv (O.ev (.iface 0) [(AV.int .i64 21)]) fun v7 =>
    O.br (C 13 [a0, v7] h0) fun v8 g9 =>
    O.bv (O.shape 4 true v6) fun c10 =>
    O.ret (AV.tuple [c10, v8]) g9
  ) (
    O.br (C 43 [a0, a1] h0) fun v6 g7 =>
    O.bv (O.ev (.extract 0) [v6]) fun v8 =>
    O.bv (O.ev (.extract 1) [v6]) fun v9 =>
    O.bv (O.shape 4 true (AV.agg [.str [], .str [], .list true 4 [], .int .i64 0])) fun c10 =>
    O.bv (O.shape 4 true v8) fun c11 =>
    O.bv (O.ev (.eq true .i) [v9, (AV.nili)]) fun v12 =>
    O.ifB v12 (
      O.bv (O.ev (.build [.str [], .str [], .list true 4 [], .int .i64 0] []) []) fun v13 =>
      O.bv (O.shape 4 true v13) fun c14 =>
      O.ret (AV.tuple [c14, v9]) g7
    ) (
      O.bv (O.ev (.mkfunc 42 1) [a0]) fun v13 =>
      O.bv (O.ev (.mkList 1 false) [(AV.str [85]), (AV.str [87]), (AV.str [82])]) fun v14 =>
      O.br (C 26 [a0, a1, c11, v13, v14] g7) fun v15 g16 =>
      O.bv (O.ev (.extract 0) [v15]) fun v17 =>
      O.bv (O.ev (.extract 1) [v15]) fun v18 =>
      O.bv (O.shape 4 true v17) fun c19 =>
      O.ret (AV.tuple [c19, v18]) g16
    )
  )
theorem sh42_eq (O : Ops) (C : Call) (a0 a1 : AV) (h : H) : execF2 O C ir42 [a0, a1] h = sh42 O C a0 a1 h := by kernel_rfl

/-- (*sortilege/prop.parser).right -/
noncomputable def sh26_L1 (O : Ops) (C : Call) (S1 : St → R) (t0 t1 t3 t7 t16 t17 t18 l10 : AV) (h : H) : R :=
  O.bv (O.ev (.bin .lss) [t18, t17]) fun v1 =>
  O.ifB v1 (
    O.bv (O.ev (.idxAddr 1) [t16, t18]) fun v2 =>
    O.bv (O.ev (.ld 1 false) [v2]) fun v3 =>
    O.bv (O.ev .nilchk [t0]) fun v4 =>
    O.bv (O.ev (.fieldAddr 0) [v4]) fun v5 =>
    O.bv (O.hload h v5 1 false) fun v6 =>
    O.br (C 36 [v6, v3] h) fun v7 g8 =>
    O.ifB v7 (
      O.bv (O.ev (.bin .add) [t1, (AV.int .i64 1)]) fun v9 =>
      O.br (O.callV C t3 [v9] g8) fun v10 g11 =>
      O.bv (O.ev (.extract 0) [v10]) fun v12 =>
      O.bv (O.ev (.extract 1) [v10]) fun v13 =>
      O.bv (O.shape 4 true (AV.agg [.str [], .str [], .list true 4 [], .int .i64 0])) fun c14 =>
      O.bv (O.shape 4 true v12) fun c15 =>
      O.bv (O.ev (.eq true .i) [v13, (AV.nili)]) fun v16 =>
      O.ifB v16 (
        O.bv (O.ev (.build [.str [], .str [], .list true 4 [], .int .i64 0] []) []) fun v17 =>
        O.bv (O.shape 4 true v17) fun c18 =>
        O.ret (AV.tuple [c18, v13]) g11
      ) (
        O.bv (O.ev (.ld 4 true) [t7]) fun v17 =>
        O.br (C 41 [v3, v17, c15] g11) fun v18 g19 =>
        O.bv (O.shape 4 true v18) fun c20 =>
        O.ret (AV.tuple [c20, (AV.nili)]) g19
      )
    ) (
      O.bv (O.ev (.bin .add) [t18, (AV.int .i64 1)]) fun v9 =>
      S1 ([t0, t1, t3, t7, t16, t17, v9, l10], g8)
    )
  ) (
    O.bv (O.ev (.ld 4 true) [t7]) fun v2 =>
    O.bv (O.shape 4 true v2) fun c3 =>
    O.ret (AV.tuple [c3, (AV.nili)]) h
  )
noncomputable def sh26 (O : Ops) (C : Call) (a0 a1 a2 a3 a4 : AV) (h0 : H) : R :=
  O.bv (O.ev (.boxro 4 true) [a2]) fun v1 =>
  O.bv (O.shape 4 true (AV.agg [.str [], .str [], .list true 4 [], .int .i64 0])) fun c2 =>
  O.bv (O.ev .lenL [a4]) fun v3 =>
  O.loop (fun S1 => fun q => sh26_L1 O C S1 (nth q.1 0) (nth q.1 1) (nth q.1 2) (nth q.1 3) (nth q.1 4) (nth q.1 5) (nth q.1 6) (nth q.1 7) q.2) ([a0, a1, a3, v1, a4, v3, (AV.int .i64 0), c2], h0)
theorem sh26_eq (O : Ops) (C : Call) (a0 a1 a2 a3 a4 : AV) (h : H) : execF2 O C ir26 [a0, a1, a2, a3, a4] h = sh26 O C a0 a1 a2 a3 a4 h := by kernel_rfl

/-- (*sortilege/nnf.maker).spent -/
noncomputable def sh27 (O : Ops) (C : Call) (a0 : AV) (h0 : H) : R :=
  O.bv (O.ev .nilchk [a0]) fun v1 =>
  O.bv (O.ev (.fieldAddr 0) [v1]) fun v2 =>
  O.bv (O.hload h0 v2 1 false) fun v3 =>
  O.bv (O.ev (.bin .sub) [v3, (AV.int .i64 1)]) fun v4 =>
  O.bv (O.ev .nilchk [a0]) fun v5 =>
  O.bv (O.ev (.fieldAddr 0) [v5]) fun v6 =>
  O.bh (O.hstore h0 v6 v4 1 false) fun g7 =>
  O.bv (O.ev .nilchk [a0]) fun v8 =>
  O.bv (O.ev (.fieldAddr 0) [v8]) fun v9 =>
  O.bv (O.hload g7 v9 1 false) fun v10 =>
  O.bv (O.ev (.bin .lss) [v10, (AV.int .i64 0)]) fun v11 =>
  O.ret v11 g7
theorem sh27_eq (O : Ops) (C : Call) (a0 : AV) (h : H) : execF2 O C ir27 [a0] h = sh27 O C a0 h := by kernel_rfl

/-- sortilege/nnf.dual -/
noncomputable def sh28 (O : Ops) (C : Call) (a0 : AV) (h0 : H) : R :=
  O.bv (O.ev (.bin .eql) [a0, (AV.str [116, 114, 117, 101])]) fun v1 =>
  O.ifB v1 (
    O.ret (AV.str [102, 97, 108, 115, 101]) h0
  ) (
    O.bv (O.ev (.bin .eql) [a0, (AV.str [102, 97, 108, 115, 101])]) fun v2 =>
    O.ifB v2 (
      O.ret (AV.str [116, 114, 117, 101]) h0
    ) (
      O.bv (O.ev (.bin .eql) [a0, (AV.str [38])]) fun v3 =>
      O.ifB v3 (
        O.ret (AV.str [124]) h0
      ) (
        O.bv (O.ev (.bin .eql) [a0, (AV.str [124])]) fun v4 =>
        O.ifB v4 (
          O.ret (AV.str [38]) h0
        ) (
          O.bv (O.ev (.bin .eql) [a0, (AV.str [85])]) fun v5 =>
          O.ifB v5 (
            O.ret (AV.str [82]) h0
          ) (
            O.bv (O.ev (.bin .eql) [a0, (AV.str [82])]) fun v6 =>
            O.ifB v6 (
              O.ret (AV.str [85]) h0
            ) (
              O.ret a0 h0
            )
          )
        )
      )
    )
  )
theorem sh28_eq (O : Ops) (C : Call) (a0 : AV) (h : H) : execF2 O C ir28 [a0] h = sh28 O C a0 h := by kernel_rfl

/-- sortilege/nnf.node -/
noncomputable def sh29 (O : Ops) (C : Call) (a0 a1 : AV) (h0 : H) : R :=
  O.bv (O.shape 4 true (AV.agg [.str [], .str [], .list true 4 [], .int .i64 0])) fun c1 =>
  O.bv (O.ev (.build [.str [], .str [], .list true 4 [], .int .i64 0] [(0, 1, false), (2, 1, false)]) [a0, a1]) fun v2 =>
  O.bv (O.shape 4 true v2) fun c3 =>
  O.ret c3 h0
theorem sh29_eq (O : Ops) (C : Call) (a0 a1 : AV) (h : H) : execF2 O C ir29 [a0, a1] h = sh29 O C a0 a1 h := by kernel_rfl

/-- (*sortilege/nnf.maker).both -/
noncomputable def sh30 (O : Ops) (C : Call) (a0 a1 a2 a3 a4 : AV) (h0 : H) : R :=
  O.bv (O.ev (.boxro 4 true) [a2]) fun v1 =>
  O.bv (O.shape 4 true (AV.agg [.str [], .str [], .list true 4 [], .int .i64 0])) fun c2 =>
  O.bv (O.ev (.fieldAddr 2) [v1]) fun v3 =>
  O.bv (O.ev (.ld 1 false) [v3]) fun v4 =>
  O.bv (O.ev (.idxAddr 4) [v4, (AV.int .i64 0)]) fun v5 =>
  O.bv (O.ev (.ld 4 true) [v5]) fun v6 =>
  O.br (C 17 [a0, v6, a3] h0) fun v7 g8 =>
  O.bv (O.shape 4 true (AV.agg [.str [], .str [], .list true 4 [], .int .i64 0])) fun c9 =>
  O.bv (O.shape 4 true v7) fun c10 =>
  O.bv (O.ev (.fieldAddr 2) [v1]) fun v11 =>
  O.bv (O.ev (.ld 1 false) [v11]) fun v12 =>
  O.bv (O.ev (.idxAddr 4) [v12, (AV.int .i64 1)]) fun v13 =>
  O.bv (O.ev (.ld 4 true) [v13]) fun v14 =>
  O.br (C 17 [a0, v14, a4] g8) fun v15 g16 =>
  O.bv (O.shape 4 true (AV.agg [.str [], .str [], .list true 4 [], .int .i64 0])) fun c17 =>
  O.bv (O.shape 4 true v15) fun c18 =>
  O.bv (O.ev (.mkList 4 true) [c10, c18]) fun v19 =>
  O.br (C 29 [a1, v19] g16) fun v20 g21 =>
  O.bv (O.shape 4 true v20) fun c22 =>
  O.ret c22 g21
theorem sh30_eq (O : Ops) (C : Call) (a0 a1 a2 a3 a4 : AV) (h : H) : execF2 O C ir30 [a0, a1, a2, a3, a4] h = sh30 O C a0 a1 a2 a3 a4 h := by kernel_rfl

/-- (*sortilege/nnf.maker).ever -/
noncomputable def sh31 (O : Ops) (C : Call) (a0 a1 a2 : AV) (h0 : H) : R :=
  O.bv (O.ev (.boxro 4 true) [a1]) fun v1 =>
  O.bv (O.shape 4 true (AV.agg [.str [], .str [], .list true 4 [], .int .i64 0])) fun c2 =>
  O.br (C 27 [a0] h0) fun v3 g4 =>
  O.bv (O.ev (.fieldAddr 0) [v1]) fun v5 =>
  O.bv (O.ev (.ld 1 false) [v5]) fun v6 =>
  O.bv (O.ev (.bin .eql) [v6, (AV.str [70])]) fun v7 =>
  O.bv (O.ev (.eq true .b) [v7, a2]) fun v8 =>
  O.ifB v8 (
    O.br (C 33 [(AV.str [116, 114, 117, 101])] g4) fun v9 g10 =>
    O.bv (O.ev (.fieldAddr 2) [v1]) fun v11 =>
    O.bv (O.ev (.ld 1 false) [v11]) fun v12 =>
    O.bv (O.ev (.idxAddr 4) [v12, (AV.int .i64 0)]) fun v13 =>
    O.bv (O.ev (.ld 4 true) [v13]) fun v14 =>
    O.br (C 17 [a0, v14, a2] g10) fun v15 g16 =>
    O.bv (O.ev (.mkList 4 true) [v9, v15]) fun v17 =>
    O.br (C 29 [(AV.str [85]), v17] g16) fun v18 g19 =>
    O.bv (O.shape 4 true v18) fun c20 =>
    O.ret c20 g19
  ) (
    O.br (C 33 [(AV.str [102, 97, 108, 115, 101])] g4) fun v9 g10 =>
    O.bv (O.ev (.fieldAddr 2) [v1]) fun v11 =>
    O.bv (O.ev (.ld 1 false) [v11]) fun v12 =>
    O.bv (O.ev (.idxAddr 4) [v12, (AV.int .i64 0)]) fun v13 =>
    O.bv (O.ev (.ld 4 true) [v13]) fun v14 =>
    O.br (C 17 [a0, v14, a2] g10) fun v15 g16 =>
    O.bv (O.ev (.mkList 4 true) [v9, v15]) fun v17 =>
    O.br (C 29 [(AV.str [82]), v17] g16) fun v18 g19 =>
    O.bv (O.shape 4 true v18) fun c20 =>
    O.ret c20 g19
  )
theorem sh31_eq (O : Ops) (C : Call) (a0 a1 a2 : AV) (h : H) : execF2 O C ir31 [a0, a1, a2] h = sh31 O C a0 a1 a2 h := by kernel_rfl

/-- (*sortilege/nnf.maker).weak -/
noncomputable def sh32_J1 (O : Ops) (C : Call) (t0 t2 t4 t7 t8 l6 : AV) (h : H) : R :=
  O.bv (O.ev (.fieldAddr 2) [t4]) fun v1 =>
  O.bv (O.ev (.ld 1 false) [v1]) fun v2 =>
  O.bv (O.ev (.idxAddr 4) [v2, (AV.int .i64 1)]) fun v3 =>
  O.bv (O.ev (.ld 4 true) [v3]) fun v4 =>
  O.br (C 17 [t0, v4, t2] h) fun v5 g6 =>
  O.bv (O.shape 4 true (AV.agg [.str [], .str [], .list true 4 [], .int .i64 0])) fun c7 =>
  O.bv (O.shape 4 true v5) fun c8 =>
  O.bv (O.ev (.ld 4 true) [t4]) fun v9 =>
  O.br (C 30 [t0, t8, v9, t2, t2] g6) fun v10 g11 =>
  O.bv (O.ev (.mkList 4 true) [c8, v10]) fun v12 =>
  O.br (C 29 [t7, v12] g11) fun v13 g14 =>
  O.bv (O.shape 4 true v13) fun c15 =>
  O.ret c15 g14
noncomputable def sh32 (O : Ops) (C : Call) (a0 a1 a2 : AV) (h0 : H) : R :=
  O.bv (O.ev (.boxro 4 true) [a1]) fun v1 =>
  O.bv (O.shape 4 true (AV.agg [.str [], .str [], .list true 4 [], .int .i64 0])) fun c2 =>
  O.br (C 27 [a0] h0) fun v3 g4 =>
  O.withK (fun q => sh32_J1 O C  (nth q.1 0) (nth q.1 1) (nth q.1 2) (nth q.1 3) (nth q.1 4) (nth q.1 5) q.2) fun K1 =>
  O.ifB a2 (
    K1 ([a0, a2, v1, (AV.str [85]), (AV.str [38]), c2], g4)
  ) (
    K1 ([a0, a2, v1, (AV.str [82]), (AV.str [124]), c2], g4)
  )
theorem sh32_eq (O : Ops) (C : Call) (a0 a1 a2 : AV) (h : H) : execF2 O C ir32 [a0, a1, a2] h = sh32 O C a0 a1 a2 h := by kernel_rfl

/-- sortilege/nnf.plain -/
noncomputable def sh33 (O : Ops) (C : Call) (a0 : AV) (h0 : H) : R :=
  O.bv (O.shape 4 true (AV.agg [.str [], .str [], .list true 4 [], .int .i64 0])) fun c1 =>
  O.bv (O.ev (.build [.str [], .str [], .list true 4 [], .int .i64 0] [(0, 1, false)]) [a0]) fun v2 =>
  O.bv (O.shape 4 true v2) fun c3 =>
  O.ret c3 h0
theorem sh33_eq (O : Ops) (C : Call) (a0 : AV) (h : H) : execF2 O C ir33 [a0] h = sh33 O C a0 h := by kernel_rfl

/-- sortilege/nnf.constant -/
noncomputable def sh34 (O : Ops) (C : Call) (a0 : AV) (h0 : H) : R :=
  O.bv (O.ev (.boxro 4 true) [a0]) fun v1 =>
  O.bv (O.ev (.fieldAddr 0) [v1]) fun v2 =>
  O.bv (O.ev (.ld 1 false) [v2]) fun v3 =>
  O.bv (O.ev (.bin .eql) [v3, (AV.str [116, 114, 117, 101])]) fun v4 =>
  O.bv (O.gt (O.gv v4 false) (O.ev (.fieldAddr 0) [v1])) fun v5 =>
  O.bv (O.gt (O.gv v4 false) (O.ev (.ld 1 false) [v5])) fun v6 =>
  O.bv (O.gt (O.gv v4 false) (O.ev (.bin .eql) [v6, (AV.str [102, 97, 108, 115, 101])])) fun v7 =>
  O.bv (O.ev .pick [v4, (AV.bool true), v7]) fun v8 =>
  O.ret v8 h0
theorem sh34_eq (O : Ops) (C : Call) (a0 : AV) (h : H) : execF2 O C ir34 [a0] h = sh34 O C a0 h := by kernel_rfl

/-- sortilege/nnf.pair -/
noncomputable def sh35_J1 (O : Ops) (C : Call) (t3 t4 t5 l6 : AV) (h : H) : R :=
  O.bv (O.ev (.ld 4 true) [t4]) fun v1 =>
  O.bv (O.ev (.ld 4 true) [t5]) fun v2 =>
  O.br (C 7 [v1, v2] h) fun v3 g4 =>
  O.ifB v3 (
    O.bv (O.ev (.ld 4 true) [t4]) fun v5 =>
    O.bv (O.shape 4 true v5) fun c6 =>
    O.ret c6 g4
  ) (
    O.bv (O.ev (.ld 4 true) [t3]) fun v5 =>
    O.bv (O.shape 4 true v5) fun c6 =>
    O.ret c6 g4
  )
noncomputable def sh35_J2 (O : Ops) (C : Call) (K1 : St → R) (t3 t4 t5 t7 l6 : AV) (h : H) : R :=
  O.bv (O.ev (.ld 4 true) [t5]) fun v1 =>
  O.br (C 34 [v1] h) fun v2 g3 =>
  O.bv (O.gt (O.gv v2 false) (O.ev (.fieldAddr 0) [t4])) fun v4 =>
  O.bv (O.gt (O.gv v2 false) (O.ev (.ld 1 false) [v4])) fun v5 =>
  O.bv (O.gt (O.gv v2 false) (some t7)) fun v6 =>
  O.bv (O.gt (O.gv v2 false) (O.ev (.bin .eql) [v5, v6])) fun v7 =>
  O.bv (O.ev .pick [v2, (AV.bool true), v7]) fun v8 =>
  O.ifB v8 (
    O.bv (O.ev (.ld 4 true) [t5]) fun v9 =>
    O.bv (O.shape 4 true v9) fun c10 =>
    O.ret c10 g3
  ) (
    K1 ([t3, t4, t5, l6], g3)
  )
noncomputable def sh35_J3 (O : Ops) (C : Call) (K1 : St → R) (t3 t4 t5 t7 t8 l6 : AV) (h : H) : R :=
  O.bv (O.ev (.fieldAddr 0) [t4]) fun v1 =>
  O.bv (O.ev (.ld 1 false) [v1]) fun v2 =>
  O.bv (O.ev (.bin .eql) [v2, t7]) fun v3 =>
  O.ifB v3 (
    O.bv (O.ev (.ld 4 true) [t5]) fun v4 =>
    O.bv (O.shape 4 true v4) fun c5 =>
    O.ret c5 h
  ) (
    O.bv (O.ev (.fieldAddr 0) [t5]) fun v4 =>
    O.bv (O.ev (.ld 1 false) [v4]) fun v5 =>
    O.bv (O.ev (.bin .eql) [v5, t7]) fun v6 =>
    O.ifB v6 (
      O.bv (O.ev (.ld 4 true) [t4]) fun v7 =>
      O.bv (O.shape 4 true v7) fun c8 =>
      O.ret c8 h
    ) (
      O.bv (O.ev (.fieldAddr 0) [t4]) fun v7 =>
      O.bv (O.ev (.ld 1 false) [v7]) fun v8 =>
      O.bv (O.ev (.bin .eql) [v8, t8]) fun v9 =>
      O.bv (O.gt (O.gv v9 false) (O.ev (.fieldAddr 0) [t5])) fun v10 =>
      O.bv (O.gt (O.gv v9 false) (O.ev (.ld 1 false) [v10])) fun v11 =>
      O.bv (O.gt (O.gv v9 false) (some t8)) fun v12 =>
      O.bv (O.gt (O.gv v9 false) (O.ev (.bin .eql) [v11, v12])) fun v13 =>
      O.bv (O.ev .pick [v9, (AV.bool true), v13]) fun v14 =>
      O.ifB v14 (
        O.br (C 33 [t8] h) fun v15 g16 =>
        O.bv (O.shape 4 true v15) fun c17 =>
        O.ret c17 g16
      ) (
        K1 ([t3, t4, t5, l6], h)
      )
    )
  )
noncomputable def sh35 (O : Ops) (C : Call) (a0 a1 a2 : AV) (h0 : H) : R :=
  O.bv (O.ev (.boxro 4 true) [a0]) fun v1 =>
  O.bv (O.ev (.boxro 4 true) [a1]) fun v2 =>
  O.bv (O.ev (.boxro 4 true) [a2]) fun v3 =>
  O.bv (O.shape 4 true (AV.agg [.str [], .str [], .list true 4 [], .int .i64 0])) fun c4 =>
  O.withK (fun q => sh35_J1 O C  (nth q.1 0) (nth q.1 1) (nth q.1 2) (nth q.1 3) q.2) fun K1 =>
  O.bv (O.ev (.fieldAddr 0) [v1]) fun v5 =>
  O.bv (O.ev (.ld 1 false) [v5]) fun v6 =>
  O.withK (fun q => sh35_J2 O C K1 (nth q.1 0) (nth q.1 1) (nth q.1 2) (nth q.1 3) (nth q.1 4) q.2) fun K2 =>
  O.withK (fun q => sh35_J3 O C K1 (nth q.1 0) (nth q.1 1) (nth q.1 2) (nth q.1 3) (nth q.1 4) (nth q.1 5) q.2) fun K3 =>
  O.bv (O.ev (.bin .eql) [v6, (AV.str [124])]) fun v7 =>
  O.ifB v7 (
    K3 ([v1, v2, v3, (AV.str [102, 97, 108, 115, 101]), (AV.str [116, 114, 117, 101]), c4], h0)
  ) (
    O.bv (O.ev (.bin .eql) [v6, (AV.str [38])]) fun v8 =>
    O.ifB v8 (
      K3 ([v1, v2, v3, (AV.str [116, 114, 117, 101]), (AV.str [102, 97, 108, 115, 101]), c4], h0)
    ) (
      O.bv (O.ev (.bin .eql) [v6, (AV.str [85])]) fun v9 =>
      O.ifB v9 (
        K2 ([v1, v2, v3, (AV.str [102, 97, 108, 115, 101]), c4], h0)
      ) (
        O.bv (O.ev (.bin .eql) [v6, (AV.str [82])]) fun v10 =>
        O.ifB v10 (
          K2 ([v1, v2, v3, (AV.str [116, 114, 117, 101]), c4], h0)
        ) (
          K1 ([v1, v2, v3, c4], h0)
        )
      )
    )
  )
theorem sh35_eq (O : Ops) (C : Call) (a0 a1 a2 : AV) (h : H) : execF2 O C ir35 [a0, a1, a2] h = sh35 O C a0 a1 a2 h := by kernel_rfl

/-- (*sortilege/scan.Reader).Skip -/
noncomputable def sh36 (O : Ops) (C : Call) (a0 a1 : AV) (h0 : H) : R :=
  O.br (C 44 [a0, a1] h0) fun v1 g2 =>
  O.ifB v1 (
    O.br (C 37 [a0] g2) fun v3 g4 =>
    O.ret v1 g4
  ) (
    O.ret v1 g2
  )
theorem sh36_eq (O : Ops) (C : Call) (a0 a1 : AV) (h : H) : execF2 O C ir36 [a0, a1] h = sh36 O C a0 a1 h := by kernel_rfl

/-- (*sortilege/scan.Reader).Take -/
noncomputable def sh37 (O : Ops) (C : Call) (a0 : AV) (h0 : H) : R :=
  O.bv (O.shape 3 true (AV.agg [.int .i64 0, .str [], .int .i64 0])) fun c1 =>
  O.br (C 12 [a0] h0) fun v2 g3 =>
  O.bv (O.shape 3 true (AV.agg [.int .i64 0, .str [], .int .i64 0])) fun c4 =>
  O.bv (O.shape 3 true v2) fun c5 =>
  O.bv (O.part c5 0 1 false) fun v6 =>
  O.bv (O.ev (.bin .neq) [v6, (AV.int .i64 0)]) fun v7 =>
  O.ifB v7 (
    O.bv (O.ev .nilchk [a0]) fun v8 =>
    O.bv (O.ev (.fieldAddr 1) [v8]) fun v9 =>
    O.bv (O.hload g3 v9 1 false) fun v10 =>
    O.bv (O.ev (.bin .add) [v10, (AV.int .i64 1)]) fun v11 =>
    O.bv (O.ev .nilchk [a0]) fun v12 =>
    O.bv (O.ev (.fieldAddr 1) [v12]) fun v13 =>
    O.bh (O.hstore g3 v13 v11 1 false) fun g14 =>
    O.bv (O.shape 3 true c5) fun c15 =>
    O.ret c15 g14
  ) (
    O.bv (O.shape 3 true c5) fun c8 =>
    O.ret c8 g3
  )
theorem sh37_eq (O : Ops) (C : Call) (a0 : AV) (h : H) : execF2 O C ir37 [a0] h = sh37 O C a0 h := by kernel_rfl

/-- (*sortilege/scan.Reader).Want -/
noncomputable def sh38 (O : Ops) (C : Call) (a0 a1 : AV) (h0 : H) : R :=
  O.br (C 36 [a0, a1] h0) fun v1 g2 =>
  O.ifB v1 (
    O.ret (AV.nili) g2
  ) (
    O.br (C 45 [a0] g2) fun v3 g4 =>
    O.ret v3 g4
  )
theorem sh38_eq (O : Ops) (C : Call) (a0 a1 : AV) (h : H) : execF2 O C ir38 [a0, a1] h = sh38 O C a0 a1 h := by kernel_rfl

/-- sortilege/scan.Tokens -/
noncomputable def sh40_L1 (O : Ops) (C : Call) (S1 : St → R) (t0 t4 t5 : AV) (h : H) : R :=
  O.bv (O.ev .lenS [t0]) fun v1 =>
  O.bv (O.ev (.bin .lss) [t5, v1]) fun v2 =>
  O.ifB v2 (
    O.br (C 47 [t0, t5] h) fun v3 g4 =>
    O.bv (O.ev (.extract 0) [v3]) fun v5 =>
    O.bv (O.ev (.extract 1) [v3]) fun v6 =>
    O.bv (O.ev (.extract 2) [v3]) fun v7 =>
    O.bv (O.shape 3 true (AV.agg [.int .i64 0, .str [], .int .i64 0])) fun c8 =>
    O.bv (O.shape 3 true v5) fun c9 =>
    O.bv (O.ev (.eq true .i) [v7, (AV.nili)]) fun v10 =>
    O.ifB v10 (
      O.ret (AV.tuple [(AV.list true 3 []), v7]) g4
    ) (
      O.bv (O.ev (.mkList 3 true) [c9]) fun v11 =>
      O.bv (O.appList 3 32 t4 v11) fun v12 =>
      O.bv (O.ev (.bin .add) [t5, v6]) fun v13 =>
      O.br (C 46 [t0, v13] g4) fun v14 g15 =>
      O.bv (O.ev (.bin .add) [v13, v14]) fun v16 =>
      S1 ([t0, v12, v16], g15)
    )
  ) (
    O.bv (O.ev .lenS [t0]) fun v3 =>
    O.bv (O.ev (.build [.int .i64 0, .str [], .int .i64 0] [(2, 1, false)]) [v3]) fun v4 =>
    O.bv (O.ev (.mkList 3 true) [v4]) fun v5 =>
    O.bv (O.appList 3 32 t4 v5) fun v6 =>
    O.ret (AV.tuple [v6, (AV.nili)]) h
  )
noncomputable def sh40 (O : Ops) (C : Call) (a0 : AV) (h0 : H) : R :=
  O.bv (O.ev .lenS [a0]) fun v1 =>
  O.bv (O.ev (.bin .gtr) [v1, (AV.int .i64 65536)]) fun v2 =>
  O.ifB v2 (
    O.bv (O.ev (.iface 0) [(AV.int .i64 2)]) fun v3 =>
    O.ret (AV.tuple [(AV.list true 3 []), v3]) h0
  ) (
    O.br (C 46 [a0, (AV.int .i64 0)] h0) fun v3 g4 =>
    O.loop (fun S1 => fun q => sh40_L1 O C S1 (nth q.1 0) (nth q.1 1) (nth q.1 2) q.2) ([a0, (AV.list false 3 []), v3], g4)
  )
theorem sh40_eq (O : Ops) (C : Call) (a0 : AV) (h : H) : execF2 O C ir40 [a0] h = sh40 O C a0 h := by kernel_rfl

/-- sortilege/prop.two -/
noncomputable def sh41 (O : Ops) (C : Call) (a0 a1 a2 : AV) (h0 : H) : R :=
  O.bv (O.ev (.boxro 4 true) [a1]) fun v1 =>
  O.bv (O.ev (.boxro 4 true) [a2]) fun v2 =>
  O.bv (O.shape 4 true (AV.agg [.str [], .str [], .list true 4 [], .int .i64 0])) fun c3 =>
  O.bv (O.ev (.ld 4 true) [v1]) fun v4 =>
  O.bv (O.ev (.ld 4 true) [v2]) fun v5 =>
  O.bv (O.ev (.mkList 4 true) [v4, v5]) fun v6 =>
  O.bv (O.ev (.fieldAddr 3) [v1]) fun v7 =>
  O.bv (O.ev (.ld 1 false) [v7]) fun v8 =>
  O.bv (O.ev (.build [.str [], .str [], .list true 4 [], .int .i64 0] [(0, 1, false), (2, 1, false), (3, 1, false)]) [a0, v6, v8]) fun v9 =>
  O.bv (O.shape 4 true v9) fun c10 =>
  O.ret c10 h0
theorem sh41_eq (O : Ops) (C : Call) (a0 a1 a2 : AV) (h : H) : execF2 O C ir41 [a0, a1, a2] h = sh41 O C a0 a1 a2 h := by kernel_rfl

/-- (*sortilege/prop.parser).single -/
noncomputable def sh43_J1 (O : Ops) (C : Call) (t0 t1 t63 l4 l6 : AV) (h : H) : R :=
  O.ifB t63 (
    O.bv (O.ev .nilchk [t0]) fun v1 =>
    O.bv (O.ev (.fieldAddr 0) [v1]) fun v2 =>
    O.bv (O.hload h v2 1 false) fun v3 =>
    O.br (C 37 [v3] h) fun v4 g5 =>
    O.bv (O.ev (.bin .add) [t1, (AV.int .i64 1)]) fun v6 =>
    O.br (C 43 [t0, v6] g5) fun v7 g8 =>
    O.bv (O.ev (.extract 0) [v7]) fun v9 =>
    O.bv (O.ev (.extract 1) [v7]) fun v10 =>
    O.bv (O.shape 4 true (AV.agg [.str [], .str [], .list true 4 [], .int .i64 0])) fun c11 =>
    O.bv (O.shape 4 true v9) fun c12 =>
    O.bv (O.ev (.eq true .i) [v10, (AV.nili)]) fun v13 =>
    O.ifB v13 (
      O.bv (O.ev (.build [.str [], .str [], .list true 4 [], .int .i64 0] []) []) fun v14 =>
      O.bv (O.shape 4 true v14) fun c15 =>
      O.ret (AV.tuple [c15, v10]) g8
    ) (
      O.bv (O.part l6 1 1 false) fun v14 =>
      O.bv (O.ev (.mkList 4 true) [c12]) fun v15 =>
      O.bv (O.part l6 2 1 false) fun v16 =>
      O.bv (O.ev (.build [.str [], .str [], .list true 4 [], .int .i64 0] [(0, 1, false), (2, 1, false), (3, 1, false)]) [v14, v15, v16]) fun v17 =>
      O.bv (O.shape 4 true v17) fun c18 =>
      O.ret (AV.tuple [c18, (AV.nili)]) g8
    )
  ) (
    O.bv (O.ev .nilchk [t0]) fun v1 =>
    O.bv (O.ev (.fieldAddr 0) [v1]) fun v2 =>
    O.bv (O.hload h v2 1 false) fun v3 =>
    O.br (C 38 [v3, (AV.str [40])] h) fun v4 g5 =>
    O.bv (O.ev (.eq true .i) [v4, (AV.nili)]) fun v6 =>
    O.ifB v6 (
      O.bv (O.ev (.build [.str [], .str [], .list true 4 [], .int .i64 0] []) []) fun v7 =>
      O.bv (O.shape 4 true v7) fun c8 =>
      O.ret (AV.tuple [c8, v4]) g5
    ) (
      O.bv (O.ev (.bin .add) [t1, (AV.int .i64 1)]) fun v7 =>
      O.br (C 11 [t0, v7] g5) fun v8 g9 =>
      O.bv (O.ev (.extract 0) [v8]) fun v10 =>
      O.bv (O.ev (.extract 1) [v8]) fun v11 =>
      O.bv (O.shape 4 true (AV.agg [.str [], .str [], .list true 4 [], .int .i64 0])) fun c12 =>
      O.bv (O.shape 4 true v10) fun c13 =>
      O.bv (O.ev (.eq true .i) [v11, (AV.nili)]) fun v14 =>
      O.ifB v14 (
        O.bv (O.ev (.build [.str [], .str [], .list true 4 [], .int .i64 0] []) []) fun v15 =>
        O.bv (O.shape 4 true v15) fun c16 =>
        O.ret (AV.tuple [c16, v11]) g9
      ) (
        O.bv (O.ev .nilchk [t0]) fun v15 =>
        O.bv (O.ev (.fieldAddr 0) [v15]) fun v16 =>
        O.bv (O.hload g9 v16 1 false) fun v17 =>
        O.br (C 38 [v17, (AV.str [41])] g9) fun v18 g19 =>
        O.bv (O.ev (.eq true .i) [v18, (AV.nili)]) fun v20 =>
        O.ifB v20 (
          O.bv (O.ev (.build [.str [], .str [], .list true 4 [], .int .i64 0] []) []) fun v21 =>
          O.bv (O.shape 4 true v21) fun c22 =>
          O.ret (AV.tuple [c22, v18]) g19
        ) (
          O.bv (O.part l6 2 1 false) fun v21 =>
          O.bv (O.setPart c13 3 v21 1 false) fun c22 =>
          O.bv (O.shape 4 true c22) fun c23 =>
          O.ret (AV.tuple [c23, (AV.nili)]) g19
        )
      )
    )
  )
noncomputable def sh43_J2 (O : Ops) (C : Call) (t0 t1 t42 l4 l6 : AV) (h : H) : R :=
  O.ifB t42 (
    O.bv (O.ev .nilchk [t0]) fun v1 =>
    O.bv (O.ev (.fieldAddr 0) [v1]) fun v2 =>
    O.bv (O.hload h v2 1 false) fun v3 =>
    O.br (C 37 [v3] h) fun v4 g5 =>
    O.bv (O.part l6 1 1 false) fun v6 =>
    O.bv (O.part l6 2 1 false) fun v7 =>
    O.bv (O.ev (.build [.str [], .str [], .list true 4 [], .int .i64 0] [(0, 1, false), (3, 1, false)]) [v6, v7]) fun v8 =>
    O.bv (O.shape 4 true v8) fun c9 =>
    O.ret (AV.tuple [c9, (AV.nili)]) g5
  ) (
    O.withK (fun q => sh43_J1 O C  (nth q.1 0) (nth q.1 1) (nth q.1 2) (nth q.1 3) (nth q.1 4) q.2) fun K1 =>
    O.bv (O.ev .nilchk [t0]) fun v1 =>
    O.bv (O.ev (.fieldAddr 0) [v1]) fun v2 =>
    O.bv (O.hload h v2 1 false) fun v3 =>
    O.br (C 44 [v3, (AV.str [33])] h) fun v4 g5 =>
    O.ifB v4 (
      K1 ([t0, t1, v4, l4, l6], g5)
    ) (
      O.bv (O.ev .nilchk [t0]) fun v6 =>
      O.bv (O.ev (.fieldAddr 0) [v6]) fun v7 =>
      O.bv (O.hload g5 v7 1 false) fun v8 =>
      O.br (C 44 [v8, (AV.str [88])] g5) fun v9 g10 =>
      O.ifB v9 (
        K1 ([t0, t1, v9, l4, l6], g10)
      ) (
        O.bv (O.ev .nilchk [t0]) fun v11 =>
        O.bv (O.ev (.fieldAddr 0) [v11]) fun v12 =>
        O.bv (O.hload g10 v12 1 false) fun v13 =>
        O.br (C 44 [v13, (AV.str [70])] g10) fun v14 g15 =>
        O.ifB v14 (
          K1 ([t0, t1, v14, l4, l6], g15)
        ) (
          O.bv (O.ev .nilchk [t0]) fun v16 =>
          O.bv (O.ev (.fieldAddr 0) [v16]) fun v17 =>
          O.bv (O.hload g15 v17 1 false) fun v18 =>
          O.br (C 44 [v18, (AV.str [71])] g15) fun v19 g20 =>
          K1 ([t0, t1, v19, l4, l6], g20)
        )
      )
    )
  )
noncomputable def sh43 (O : Ops) (C : Call) (a0 a1 : AV) (h0 : H) : R :=
  O.bv (O.shape 4 true (AV.agg [.str [], .str [], .list true 4 [], .int .i64 0])) fun c1 =>
  O.bv (O.ev .nilchk [a0]) fun v2 =>
  O.bv (O.ev (.fieldAddr 1) [v2]) fun v3 =>
  O.bv (O.hload h0 v3 1 false) fun v4 =>
  O.bv (O.ev (.bin .gtr) [a1, v4]) fun v5 =>
  O.ifB v5 (
    O.bv (O.ev (.build [.str [], .str [], .list true 4 [], .int .i64 0] []) []) fun v6 =>
    O.bv (O.ev (.iface 0) [(AV.int .i64 21)]) fun v7 =>
    O.br (C 13 [a0, v7] h0) fun v8 g9 =>
    O.bv (O.shape 4 true v6) fun c10 =>
    O.ret (AV.tuple [c10, v8]) g9
  ) (
    O.bv (O.ev .nilchk [a0]) fun v6 =>
    O.bv (O.ev (.fieldAddr 0) [v6]) fun v7 =>
    O.bv (O.hload h0 v7 1 false) fun v8 =>
    O.br (C 12 [v8] h0) fun v9 g10 =>
    O.bv (O.shape 3 true (AV.agg [.int .i64 0, .str [], .int .i64 0])) fun c11 =>
    O.bv (O.shape 3 true v9) fun c12 =>
    O.bv (O.part c12 0 1 false) fun v13 =>
    O.bv (O.ev (.bin .eql) [v13, (AV.int .i64 3)]) fun v14 =>
    O.ifB v14 (
      O.bv (O.ev .nilchk [a0]) fun v15 =>
      O.bv (O.ev (.fieldAddr 0) [v15]) fun v16 =>
      O.bv (O.hload g10 v16 1 false) fun v17 =>
      O.br (C 37 [v17] g10) fun v18 g19 =>
      O.bv (O.part c12 1 1 false) fun v20 =>
      O.bv (O.part c12 2 1 false) fun v21 =>
      O.bv (O.ev (.build [.str [], .str [], .list true 4 [], .int .i64 0] [(0, 1, false), (1, 1, false), (3, 1, false)]) [(AV.str [108, 97, 98, 101, 108]), v20, v21]) fun v22 =>
      O.bv (O.shape 4 true v22) fun c23 =>
      O.ret (AV.tuple [c23, (AV.nili)]) g19
    ) (
      O.withK (fun q => sh43_J2 O C  (nth q.1 0) (nth q.1 1) (nth q.1 2) (nth q.1 3) (nth q.1 4) q.2) fun K2 =>
      O.bv (O.ev .nilchk [a0]) fun v15 =>
      O.bv (O.ev (.fieldAddr 0) [v15]) fun v16 =>
      O.bv (O.hload g10 v16 1 false) fun v17 =>
      O.br (C 44 [v17, (AV.str [116, 114, 117, 101])] g10) fun v18 g19 =>
      O.ifB v18 (
        K2 ([a0, a1, v18, c1, c12], g19)
      ) (
        O.bv (O.ev .nilchk [a0]) fun v20 =>
        O.bv (O.ev (.fieldAddr 0) [v20]) fun v21 =>
        O.bv (O.hload g19 v21 1 false) fun v22 =>
        O.br (C 44 [v22, (AV.str [102, 97, 108, 115, 101])] g19) fun v23 g24 =>
        K2 ([a0, a1, v23, c1, c12], g24)
      )
    )
  )
theorem sh43_eq (O : Ops) (C : Call) (a0 a1 : AV) (h : H) : execF2 O C ir43 [a0, a1] h = sh43 O C a0 a1 h := by kernel_rfl

/-- (*sortilege/scan.Reader).Is -/
noncomputable def sh44 (O : Ops) (C : Call) (a0 a1 : AV) (h0 : H) : R :=
  O.br (C 12 [a0] h0) fun v1 g2 =>
  O.bv (O.shape 3 true (AV.agg [.int .i64 0, .str [], .int .i64 0])) fun c3 =>
  O.bv (O.shape 3 true v1) fun c4 =>
  O.bv (O.part c4 0 1 false) fun v5 =>
  O.bv (O.ev (.bin .eql) [v5, (AV.int .i64 1)]) fun v6 =>
  O.onG (O.gv v6 false) (
    O.bv (O.gt (O.gv v6 false) (O.part c4 0 1 false)) fun v7 =>
    O.bv (O.gt (O.gv v6 false) (O.ev (.bin .eql) [v7, (AV.int .i64 4)])) fun v8 =>
    O.bv (O.ev .pick [v6, (AV.bool true), v8]) fun v9 =>
    O.onG (O.gv v9 true) (
      O.bv (O.gt (O.gv v9 true) (O.part c4 1 1 false)) fun v10 =>
      O.bv (O.gt (O.gv v9 true) (some a1)) fun v11 =>
      O.bv (O.gt (O.gv v9 true) (O.ev (.bin .eql) [v10, v11])) fun v12 =>
      O.bv (O.ev .pick [v9, v12, (AV.bool false)]) fun v13 =>
      O.ret v13 g2
    ) (
      O.bv (O.gt (O.gv v9 true) none) fun v10 =>
      O.bv (O.gt (O.gv v9 true) (some a1)) fun v11 =>
      O.bv (O.gt (O.gv v9 true) (O.ev (.bin .eql) [v10, v11])) fun v12 =>
      O.bv (O.ev .pick [v9, v12, (AV.bool false)]) fun v13 =>
      O.ret v13 g2
    )
  ) (
    O.bv (O.gt (O.gv v6 false) none) fun v7 =>
    O.bv (O.gt (O.gv v6 false) (O.ev (.bin .eql) [v7, (AV.int .i64 4)])) fun v8 =>
    O.bv (O.ev .pick [v6, (AV.bool true), v8]) fun v9 =>
    O.onG (O.gv v9 true) (
      O.bv (O.gt (O.gv v9 true) (O.part c4 1 1 false)) fun v10 =>
      O.bv (O.gt (O.gv v9 true) (some a1)) fun v11 =>
      O.bv (O.gt (O.gv v9 true) (O.ev (.bin .eql) [v10, v11])) fun v12 =>
      O.bv (O.ev .pick [v9, v12, (AV.bool false)]) fun v13 =>
      O.ret v13 g2
    ) (
      O.bv (O.gt (O.gv v9 true) none) fun v10 =>
      O.bv (O.gt (O.gv v9 true) (some a1)) fun v11 =>
      O.bv (O.gt (O.gv v9 true) (O.ev (.bin .eql) [v10, v11])) fun v12 =>
      O.bv (O.ev .pick [v9, v12, (AV.bool false)]) fun v13 =>
      O.ret v13 g2
    )
  )
theorem sh44_eq (O : Ops) (C : Call) (a0 a1 : AV) (h : H) : execF2 O C ir44 [a0, a1] h = sh44 O C a0 a1 h := by kernel_rfl

/-- (*sortilege/scan.Reader).wrong -/
noncomputable def sh45 (O : Ops) (C : Call) (a0 : AV) (h0 : H) : R :=
  O.bv (O.ev (.eq false .p) [a0, (AV.nilp)]) fun v1 =>
  O.ifB v1 (
    O.bv (O.ev (.iface 0) [(AV.int .i64 3)]) fun v2 =>
    O.ret v2 h0
  ) (
    O.br (C 12 [a0] h0) fun v2 g3 =>
    O.bv (O.ev (.field 2 1 false) [v2]) fun v4 =>
    O.bv (O.ev (.iface 0) [(AV.int .i64 20)]) fun v5 =>
    O.br (C 48 [v4, v5] g3) fun v6 g7 =>
    O.ret v6 g7
  )
theorem sh45_eq (O : Ops) (C : Call) (a0 : AV) (h : H) : execF2 O C ir45 [a0] h = sh45 O C a0 h := by kernel_rfl

/-- sortilege/scan.blank -/
noncomputable def sh46_J1 (O : Ops) (C : Call) (t1 t5 : AV) (h : H) : R :=
  O.bv (O.ev (.bin .sub) [t5, t1]) fun v1 =>
  O.ret v1 h
noncomputable def sh46_J2 (O : Ops) (C : Call) (K1 S1 : St → R) (t0 t1 t5 t14 : AV) (h : H) : R :=
  O.ifB t14 (
    O.bv (O.ev (.bin .add) [t5, (AV.int .i64 1)]) fun v1 =>
    S1 ([t0, t1, v1], h)
  ) (
    O.bv (O.ev (.sliceS true false) [t0, t5]) fun v1 =>
    O.br (C 49 [v1, (AV.str [47, 47])] h) fun v2 g3 =>
    O.ifB v2 (
      O.bv (O.ev (.sliceS true false) [t0, t5]) fun v4 =>
      O.br (C 50 [v4, (AV.str [10])] g3) fun v5 g6 =>
      O.bv (O.ev (.extract 0) [v5]) fun v7 =>
      O.bv (O.ev (.extract 1) [v5]) fun v8 =>
      O.bv (O.ev (.extract 2) [v5]) fun v9 =>
      O.bv (O.ev .lenS [v7]) fun v10 =>
      O.bv (O.ev (.bin .add) [t5, v10]) fun v11 =>
      S1 ([t0, t1, v11], g6)
    ) (
      K1 ([t1, t5], g3)
    )
  )
noncomputable def sh46_L3 (O : Ops) (C : Call) (K1 S1 : St → R) (t0 t1 t5 : AV) (h : H) : R :=
  O.bv (O.ev .lenS [t0]) fun v1 =>
  O.bv (O.ev (.bin .lss) [t5, v1]) fun v2 =>
  O.ifB v2 (
    O.withK (fun q => sh46_J2 O C K1 S1 (nth q.1 0) (nth q.1 1) (nth q.1 2) (nth q.1 3) q.2) fun K2 =>
    O.bv (O.ev .idxStr [t0, t5]) fun v3 =>
    O.bv (O.ev (.bin .eql) [v3, (AV.int .u8 32)]) fun v4 =>
    O.ifB v4 (
      K2 ([t0, t1, t5, v4], h)
    ) (
      O.bv (O.ev .idxStr [t0, t5]) fun v5 =>
      O.bv (O.ev (.bin .eql) [v5, (AV.int .u8 9)]) fun v6 =>
      O.ifB v6 (
        K2 ([t0, t1, t5, v6], h)
      ) (
        O.bv (O.ev .idxStr [t0, t5]) fun v7 =>
        O.bv (O.ev (.bin .eql) [v7, (AV.int .u8 10)]) fun v8 =>
        O.ifB v8 (
          K2 ([t0, t1, t5, v8], h)
        ) (
          O.bv (O.ev .idxStr [t0, t5]) fun v9 =>
          O.bv (O.ev (.bin .eql) [v9, (AV.int .u8 13)]) fun v10 =>
          K2 ([t0, t1, t5, v10], h)
        )
      )
    )
  ) (
    K1 ([t1, t5], h)
  )
noncomputable def sh46 (O : Ops) (C : Call) (a0 a1 : AV) (h0 : H) : R :=
  O.withK (fun q => sh46_J1 O C  (nth q.1 0) (nth q.1 1) q.2) fun K1 =>
  O.loop (fun S1 => fun q => sh46_L3 O C K1 S1 (nth q.1 0) (nth q.1 1) (nth q.1 2) q.2) ([a0, a1, a1], h0)
theorem sh46_eq (O : Ops) (C : Call) (a0 a1 : AV) (h : H) : execF2 O C ir46 [a0, a1] h = sh46 O C a0 a1 h := by kernel_rfl

/-- sortilege/scan.one -/
noncomputable def sh47_J1 (O : Ops) (C : Call) (t0 t1 t8 l4 l7 : AV) (h : H) : R :=
  O.bv (O.ev (.bin .eql) [t8, (AV.int .i64 0)]) fun v1 =>
  O.ifB v1 (
    O.bv (O.ev (.build [.int .i64 0, .str [], .int .i64 0] []) []) fun v2 =>
    O.bv (O.ev (.iface 0) [(AV.int .i64 20)]) fun v3 =>
    O.br (C 48 [t1, v3] h) fun v4 g5 =>
    O.bv (O.shape 3 true v2) fun c6 =>
    O.ret (AV.tuple [c6, (AV.int .i64 0), v4]) g5
  ) (
    O.bv (O.ev (.bin .add) [t1, t8]) fun v2 =>
    O.bv (O.ev (.sliceS true true) [t0, t1, v2]) fun v3 =>
    O.bv (O.setPart l7 1 v3 1 false) fun c4 =>
    O.bv (O.shape 3 true c4) fun c5 =>
    O.ret (AV.tuple [c5, t8, (AV.nili)]) h
  )
noncomputable def sh47 (O : Ops) (C : Call) (a0 a1 : AV) (h0 : H) : R :=
  O.bv (O.shape 3 true (AV.agg [.int .i64 0, .str [], .int .i64 0])) fun c1 =>
  O.bv (O.ev .idxStr [a0, a1]) fun v2 =>
  O.br (C 51 [v2] h0) fun v3 g4 =>
  O.bv (O.ev (.build [.int .i64 0, .str [], .int .i64 0] [(0, 1, false), (2, 1, false)]) [v3, a1]) fun v5 =>
  O.bv (O.shape 3 true (AV.agg [.int .i64 0, .str [], .int .i64 0])) fun c6 =>
  O.bv (O.shape 3 true v5) fun c7 =>
  O.withK (fun q => sh47_J1 O C  (nth q.1 0) (nth q.1 1) (nth q.1 2) (nth q.1 3) (nth q.1 4) q.2) fun K1 =>
  O.bv (O.part c7 0 1 false) fun v8 =>
  O.bv (O.ev (.bin .eql) [v8, (AV.int .i64 1)]) fun v9 =>
  O.ifB v9 (
    O.br (C 52 [a0, a1, (AV.func 53 [] [])] g4) fun v10 g11 =>
    K1 ([a0, a1, v10, c1, c7], g11)
  ) (
    O.bv (O.ev (.bin .eql) [v8, (AV.int .i64 2)]) fun v10 =>
    O.ifB v10 (
      O.br (C 52 [a0, a1, (AV.func 54 [] [])] g4) fun v11 g12 =>
      O.bv (O.ev (.bin .add) [a1, v11]) fun v13 =>
      O.bv (O.ev (.sliceS true true) [a0, a1, v13]) fun v14 =>
      O.br (C 55 [v14] g12) fun v15 g16 =>
      O.bv (O.ev (.extract 0) [v15]) fun v17 =>
      O.bv (O.ev (.extract 1) [v15]) fun v18 =>
      O.bv (O.ev (.un .not) [v18]) fun v19 =>
      O.ifB v19 (
        O.bv (O.ev (.build [.int .i64 0, .str [], .int .i64 0] []) []) fun v20 =>
        O.bv (O.ev (.iface 0) [(AV.int .i64 10)]) fun v21 =>
        O.br (C 48 [a1, v21] g16) fun v22 g23 =>
        O.bv (O.shape 3 true v20) fun c24 =>
        O.ret (AV.tuple [c24, (AV.int .i64 0), v22]) g23
      ) (
        K1 ([a0, a1, v11, c1, c7], g16)
      )
    ) (
      O.bv (O.ev (.bin .eql) [v8, (AV.int .i64 3)]) fun v11 =>
      O.ifB v11 (
        O.bv (O.ev (.sliceS true false) [a0, a1]) fun v12 =>
        O.br (C 56 [v12] g4) fun v13 g14 =>
        O.bv (O.ev (.bin .gtr) [v13, (AV.int .i64 0)]) fun v15 =>
        O.ifB v15 (
          O.bv (O.ev (.bin .add) [a1, (AV.int .i64 1)]) fun v16 =>
          O.bv (O.ev (.bin .add) [a1, v13]) fun v17 =>
          O.bv (O.ev (.bin .sub) [v17, (AV.int .i64 1)]) fun v18 =>
          O.bv (O.ev (.sliceS true true) [a0, v16, v18]) fun v19 =>
          O.bv (O.setPart c7 1 v19 1 false) fun c20 =>
          O.bv (O.shape 3 true c20) fun c21 =>
          O.ret (AV.tuple [c21, v13, (AV.nili)]) g14
        ) (
          K1 ([a0, a1, v13, c1, c7], g14)
        )
      ) (
        O.bv (O.ev (.bin .eql) [v8, (AV.int .i64 4)]) fun v12 =>
        O.ifB v12 (
          O.bv (O.ev (.sliceS true false) [a0, a1]) fun v13 =>
          O.br (C 57 [v13] g4) fun v14 g15 =>
          K1 ([a0, a1, v14, c1, c7], g15)
        ) (
          K1 ([a0, a1, (AV.int .i64 0), c1, c7], g4)
        )
      )
    )
  )
theorem sh47_eq (O : Ops) (C : Call) (a0 a1 : AV) (h : H) : execF2 O C ir47 [a0, a1] h = sh47 O C a0 a1 h := by kernel_rfl

/-- sortilege/scan.wrong -/
noncomputable def sh48 (O : Ops) (C : Call) (a0 a1 : AV) (h0 : H) : R :=
  O.bv (O.ev (.build [.int .i64 0, .nili] [(0, 1, false), (1, 1, false)]) [a0, a1]) fun v1 =>
  O.bv (O.ev (.boxro 2 true) [v1]) fun v2 =>
  O.bv (O.ev (.iface 2) [v2]) fun v3 =>
  O.ret v3 h0
theorem sh48_eq (O : Ops) (C : Call) (a0 a1 : AV) (h : H) : execF2 O C ir48 [a0, a1] h = sh48 O C a0 a1 h := by kernel_rfl

/-- sortilege/scan.kind -/
noncomputable def sh51 (O : Ops) (C : Call) (a0 : AV) (h0 : H) : R :=
  O.bv (O.ev (.bin .geq) [a0, (AV.int .u8 97)]) fun v1 =>
  O.bv (O.gt (O.gv v1 true) (some a0)) fun v2 =>
  O.bv (O.gt (O.gv v1 true) (O.ev (.bin .leq) [v2, (AV.int .u8 122)])) fun v3 =>
  O.bv (O.ev .pick [v1, v3, (AV.bool false)]) fun v4 =>
  O.ifB v4 (
    O.ret (AV.int .i64 1) h0
  ) (
    O.bv (O.ev (.bin .geq) [a0, (AV.int .u8 65)]) fun v5 =>
    O.bv (O.gt (O.gv v5 true) (some a0)) fun v6 =>
    O.bv (O.gt (O.gv v5 true) (O.ev (.bin .leq) [v6, (AV.int .u8 90)])) fun v7 =>
    O.bv (O.ev .pick [v5, v7, (AV.bool false)]) fun v8 =>
    O.ifB v8 (
      O.ret (AV.int .i64 1) h0
    ) (
      O.bv (O.ev (.bin .eql) [a0, (AV.int .u8 95)]) fun v9 =>
      O.ifB v9 (
        O.ret (AV.int .i64 1) h0
      ) (
        O.bv (O.ev (.bin .geq) [a0, (AV.int .u8 48)]) fun v10 =>
        O.bv (O.gt (O.gv v10 true) (some a0)) fun v11 =>
        O.bv (O.gt (O.gv v10 true) (O.ev (.bin .leq) [v11, (AV.int .u8 57)])) fun v12 =>
        O.bv (O.ev .pick [v10, v12, (AV.bool false)]) fun v13 =>
        O.ifB v13 (
          O.ret (AV.int .i64 2) h0
        ) (
          O.bv (O.ev (.bin .eql) [a0, (AV.int .u8 34)]) fun v14 =>
          O.ifB v14 (
            O.ret (AV.int .i64 3) h0
          ) (
            O.br (C 58 [(AV.str [45, 60, 62, 33, 61, 46, 91, 93, 40, 41, 58, 59, 44, 43, 42, 38, 124, 63, 39]), a0] h0) fun v15 g16 =>
            O.bv (O.ev (.bin .geq) [v15, (AV.int .i64 0)]) fun v17 =>
            O.ifB v17 (
              O.ret (AV.int .i64 4) g16
            ) (
              O.ret (AV.int .i64 (-1)) g16
            )
          )
        )
      )
    )
  )
theorem sh51_eq (O : Ops) (C : Call) (a0 : AV) (h : H) : execF2 O C ir51 [a0] h = sh51 O C a0 h := by kernel_rfl

/-- sortilege/scan.run -/
noncomputable def sh52_L1 (O : Ops) (C : Call) (S1 : St → R) (t0 t1 t2 t7 : AV) (h : H) : R :=
  O.bv (O.ev (.bin .add) [t1, t7]) fun v1 =>
  O.bv (O.ev .lenS [t0]) fun v2 =>
  O.bv (O.ev (.bin .lss) [v1, v2]) fun v3 =>
  O.bv (O.gt (O.gv v3 true) (some t2)) fun v4 =>
  O.bv (O.gt (O.gv v3 true) (some t0)) fun v5 =>
  O.bv (O.gt (O.gv v3 true) (some t1)) fun v6 =>
  O.bv (O.gt (O.gv v3 true) (some t7)) fun v7 =>
  O.bv (O.gt (O.gv v3 true) (O.ev (.bin .add) [v6, v7])) fun v8 =>
  O.bv (O.gt (O.gv v3 true) (O.ev .idxStr [v5, v8])) fun v9 =>
  O.br (O.gr (O.gv v3 true) (C 51 [v9] h) h) fun v10 g11 =>
  O.br (O.gr (O.gv v3 true) (O.callV C v4 [v10] g11) g11) fun v12 g13 =>
  O.bv (O.ev .pick [v3, v12, (AV.bool false)]) fun v14 =>
  O.ifB v14 (
    O.bv (O.ev (.bin .add) [t7, (AV.int .i64 1)]) fun v15 =>
    S1 ([t0, t1, t2, v15], g13)
  ) (
    O.ret t7 g13
  )
noncomputable def sh52 (O : Ops) (C : Call) (a0 a1 a2 : AV) (h0 : H) : R :=
  O.loop (fun S1 => fun q => sh52_L1 O C S1 (nth q.1 0) (nth q.1 1) (nth q.1 2) (nth q.1 3) q.2) ([a0, a1, a2, (AV.int .i64 0)], h0)
theorem sh52_eq (O : Ops) (C : Call) (a0 a1 a2 : AV) (h : H) : execF2 O C ir52 [a0, a1, a2] h = sh52 O C a0 a1 a2 h := by kernel_rfl

/-- sortilege/scan.one$1 -/
noncomputable def sh53 (O : Ops) (C : Call) (a0 : AV) (h0 : H) : R :=
  O.bv (O.ev (.bin .eql) [a0, (AV.int .i64 1)]) fun v1 =>
  O.bv (O.gt (O.gv v1 false) (some a0)) fun v2 =>
  O.bv (O.gt (O.gv v1 false) (O.ev (.bin .eql) [v2, (AV.int .i64 2)])) fun v3 =>
  O.bv (O.ev .pick [v1, (AV.bool true), v3]) fun v4 =>
  O.ret v4 h0
theorem sh53_eq (O : Ops) (C : Call) (a0 : AV) (h : H) : execF2 O C ir53 [a0] h = sh53 O C a0 h := by kernel_rfl

/-- sortilege/scan.one$2 -/
noncomputable def sh54 (O : Ops) (C : Call) (a0 : AV) (h0 : H) : R :=
  O.bv (O.ev (.bin .eql) [a0, (AV.int .i64 2)]) fun v1 =>
  O.ret v1 h0
theorem sh54_eq (O : Ops) (C : Call) (a0 : AV) (h : H) : execF2 O C ir54 [a0] h = sh54 O C a0 h := by kernel_rfl

/-- sortilege/scan.digits -/
noncomputable def sh55_L1 (O : Ops) (C : Call) (S1 : St → R) (t0 t4 t8 t9 : AV) (h : H) : R :=
  O.bv (O.ev (.bin .lss) [t9, t8]) fun v1 =>
  O.ifB v1 (
    O.bv (O.ev .idxStr [t0, t9]) fun v2 =>
    O.bv (O.ev (.bin .sub) [v2, (AV.int .u8 48)]) fun v3 =>
    O.bv (O.ev (.conv .i64) [v3]) fun v4 =>
    O.bv (O.ev (.bin .sub) [(AV.int .i64 9223372036854775807), v4]) fun v5 =>
    O.bv (O.ev (.bin .quo) [v5, (AV.int .i64 10)]) fun v6 =>
    O.bv (O.ev (.bin .gtr) [t4, v6]) fun v7 =>
    O.ifB v7 (
      O.ret (AV.tuple [(AV.int .i64 0), (AV.bool false)]) h
    ) (
      O.bv (O.ev (.bin .mul) [(AV.int .i64 10), t4]) fun v8 =>
      O.bv (O.ev (.bin .add) [v8, v4]) fun v9 =>
      O.bv (O.ev (.bin .add) [t9, (AV.int .i64 1)]) fun v10 =>
      S1 ([t0, v9, t8, v10], h)
    )
  ) (
    O.ret (AV.tuple [t4, (AV.bool true)]) h
  )
noncomputable def sh55 (O : Ops) (C : Call) (a0 : AV) (h0 : H) : R :=
  O.bv (O.ev .lenS [a0]) fun v1 =>
  O.loop (fun S1 => fun q => sh55_L1 O C S1 (nth q.1 0) (nth q.1 1) (nth q.1 2) (nth q.1 3) q.2) ([a0, (AV.int .i64 0), v1, (AV.int .i64 0)], h0)
theorem sh55_eq (O : Ops) (C : Call) (a0 : AV) (h : H) : execF2 O C ir55 [a0] h = sh55 O C a0 h := by kernel_rfl

/-- sortilege/scan.quoted -/
noncomputable def sh56_L1 (O : Ops) (C : Call) (S1 : St → R) (t0 t3 t4 : AV) (h : H) : R :=
  O.bv (O.ev (.bin .leq) [t4, t3]) fun v1 =>
  O.ifB v1 (
    O.bv (O.ev .idxStr [t0, t4]) fun v2 =>
    O.bv (O.ev (.bin .lss) [v2, (AV.int .u8 32)]) fun v3 =>
    O.bv (O.gt (O.gv v3 false) (some t0)) fun v4 =>
    O.bv (O.gt (O.gv v3 false) (some t4)) fun v5 =>
    O.bv (O.gt (O.gv v3 false) (O.ev .idxStr [v4, v5])) fun v6 =>
    O.bv (O.gt (O.gv v3 false) (O.ev (.bin .gtr) [v6, (AV.int .u8 126)])) fun v7 =>
    O.bv (O.ev .pick [v3, (AV.bool true), v7]) fun v8 =>
    O.ifB v8 (
      O.ret (AV.int .i64 0) h
    ) (
      O.bv (O.ev (.bin .add) [t4, (AV.int .i64 1)]) fun v9 =>
      S1 ([t0, t3, v9], h)
    )
  ) (
    O.bv (O.ev (.bin .add) [t3, (AV.int .i64 2)]) fun v2 =>
    O.ret v2 h
  )
noncomputable def sh56 (O : Ops) (C : Call) (a0 : AV) (h0 : H) : R :=
  O.bv (O.ev (.sliceS true false) [a0, (AV.int .i64 1)]) fun v1 =>
  O.br (C 58 [v1, (AV.int .u8 34)] h0) fun v2 g3 =>
  O.bv (O.ev (.bin .lss) [v2, (AV.int .i64 1)]) fun v4 =>
  O.bv (O.gt (O.gv v4 false) (some v2)) fun v5 =>
  O.bv (O.gt (O.gv v4 false) (O.ev (.bin .gtr) [v5, (AV.int .i64 32)])) fun v6 =>
  O.bv (O.ev .pick [v4, (AV.bool true), v6]) fun v7 =>
  O.ifB v7 (
    O.ret (AV.int .i64 0) g3
  ) (
    O.loop (fun S1 => fun q => sh56_L1 O C S1 (nth q.1 0) (nth q.1 1) (nth q.1 2) q.2) ([a0, v2, (AV.int .i64 1)], g3)
  )
theorem sh56_eq (O : Ops) (C : Call) (a0 : AV) (h : H) : execF2 O C ir56 [a0] h = sh56 O C a0 h := by kernel_rfl

/-- sortilege/scan.mark -/
noncomputable def sh57_L1 (O : Ops) (C : Call) (S1 : St → R) (t0 t5 t6 : AV) (h : H) : R :=
  O.bv (O.ev (.bin .lss) [t6, (AV.int .i64 6)]) fun v1 =>
  O.ifB v1 (
    O.bv (O.ev (.idxArr 6 1 false) [t5, t6]) fun v2 =>
    O.br (C 49 [t0, v2] h) fun v3 g4 =>
    O.ifB v3 (
      O.bv (O.ev .lenS [v2]) fun v5 =>
      O.ret v5 g4
    ) (
      O.bv (O.ev (.bin .add) [t6, (AV.int .i64 1)]) fun v5 =>
      S1 ([t0, t5, v5], g4)
    )
  ) (
    O.bv (O.ev .idxStr [t0, (AV.int .i64 0)]) fun v2 =>
    O.bv (O.ev (.bin .eql) [v2, (AV.int .u8 46)]) fun v3 =>
    O.ifB v3 (
      O.ret (AV.int .i64 0) h
    ) (
      O.ret (AV.int .i64 1) h
    )
  )
noncomputable def sh57 (O : Ops) (C : Call) (a0 : AV) (h0 : H) : R :=
  O.bv (O.ev (.build [.str [], .str [], .str [], .str [], .str [], .str []] [(0, 1, false), (1, 1, false), (2, 1, false), (3, 1, false), (4, 1, false), (5, 1, false)]) [(AV.str [45, 62]), (AV.str [60, 61]), (AV.str [62, 61]), (AV.str [33, 61]), (AV.str [61, 62]), (AV.str [46, 46])]) fun v1 =>
  O.loop (fun S1 => fun q => sh57_L1 O C S1 (nth q.1 0) (nth q.1 1) (nth q.1 2) q.2) ([a0, v1, (AV.int .i64 0)], h0)
theorem sh57_eq (O : Ops) (C : Call) (a0 : AV) (h : H) : execF2 O C ir57 [a0] h = sh57 O C a0 h := by kernel_rfl

/-- strings.HasPrefix -/
noncomputable def sh49 (O : Ops) (C : Call) (a0 a1 : AV) (h0 : H) : R :=
  O.br (C 59 [a0, a1] h0) fun v1 g2 =>
  O.ret v1 g2
theorem sh49_eq (O : Ops) (C : Call) (a0 a1 : AV) (h : H) : execF2 O C ir49 [a0, a1] h = sh49 O C a0 a1 h := by kernel_rfl

/-- strings.Cut -/
noncomputable def sh50 (O : Ops) (C : Call) (a0 a1 : AV) (h0 : H) : R :=
  O.br (C 60 [a0, a1] h0) fun v1 g2 =>
  O.bv (O.ev (.extract 0) [v1]) fun v3 =>
  O.bv (O.ev (.extract 1) [v1]) fun v4 =>
  O.bv (O.ev (.extract 2) [v1]) fun v5 =>
  O.ret (AV.tuple [v3, v4, v5]) g2
theorem sh50_eq (O : Ops) (C : Call) (a0 a1 : AV) (h : H) : execF2 O C ir50 [a0, a1] h = sh50 O C a0 a1 h := by kernel_rfl

/-- internal/stringslite.HasPrefix -/
noncomputable def sh59 (O : Ops) (C : Call) (a0 a1 : AV) (h0 : H) : R :=
  O.bv (O.ev .lenS [a0]) fun v1 =>
  O.bv (O.ev .lenS [a1]) fun v2 =>
  O.bv (O.ev (.bin .geq) [v1, v2]) fun v3 =>
  O.bv (O.gt (O.gv v3 true) (some a0)) fun v4 =>
  O.bv (O.gt (O.gv v3 true) (some a1)) fun v5 =>
  O.bv (O.gt (O.gv v3 true) (O.ev .lenS [v5])) fun v6 =>
  O.bv (O.gt (O.gv v3 true) (O.ev (.sliceS false true) [v4, v6])) fun v7 =>
  O.bv (O.gt (O.gv v3 true) (some a1)) fun v8 =>
  O.bv (O.gt (O.gv v3 true) (O.ev (.bin .eql) [v7, v8])) fun v9 =>
  O.bv (O.ev .pick [v3, v9, (AV.bool false)]) fun v10 =>
  O.ret v10 h0
theorem sh59_eq (O : Ops) (C : Call) (a0 a1 : AV) (h : H) : execF2 O C ir59 [a0, a1] h = sh59 O C a0 a1 h := by kernel_rfl

/-- internal/stringslite.Cut -/
noncomputable def sh60 (O : Ops) (C : Call) (a0 a1 : AV) (h0 : H) : R :=
  O.br (C 61 [a0, a1] h0) fun v1 g2 =>
  O.bv (O.ev (.bin .geq) [v1, (AV.int .i64 0)]) fun v3 =>
  O.ifB v3 (
    O.bv (O.ev (.sliceS false true) [a0, v1]) fun v4 =>
    O.bv (O.ev .lenS [a1]) fun v5 =>
    O.bv (O.ev (.bin .add) [v1, v5]) fun v6 =>
    O.bv (O.ev (.sliceS true false) [a0, v6]) fun v7 =>
    O.ret (AV.tuple [v4, v7, (AV.bool true)]) g2
  ) (
    O.ret (AV.tuple [a0, (AV.str []), (AV.bool false)]) g2
  )
theorem sh60_eq (O : Ops) (C : Call) (a0 a1 : AV) (h : H) : execF2 O C ir60 [a0, a1] h = sh60 O C a0 a1 h := by kernel_rfl

/-- strings.IndexByte -/
noncomputable def sh58 (O : Ops) (C : Call) (a0 a1 : AV) (h0 : H) : R :=
  O.br (C 62 [a0, a1] h0) fun v1 g2 =>
  O.ret v1 g2
theorem sh58_eq (O : Ops) (C : Call) (a0 a1 : AV) (h : H) : execF2 O C ir58 [a0, a1] h = sh58 O C a0 a1 h := by kernel_rfl

end Go.Abs
