/- NnfOdd on abstract values. -/
import Derived.Test.YtiefbkjoldcebaaDoorXxLaw15
namespace Go.Abs
open Fm
set_option maxRecDepth 10000
set_option maxHeartbeats 1000000 in
theorem chain6 (op : List UInt8) (n : Nat) (K : AV → R) (r : AV × H) (hK : K (.bool (kidsN op == (n : Int))) = some r) : (
    std.bv (std.ev (.bin .eql) [(AV.int .i64 (n : Nat)), (AV.int .i64 0)]) fun v5 =>
    std.bv (std.gt (std.gv v5 true) (some (AV.str op))) fun v6 =>
    std.bv (std.gt (std.gv v5 true) (std.ev (.bin .eql) [v6, (AV.str [116, 114, 117, 101])])) fun v7 =>
    std.bv (std.gt (std.gv v5 true) (some v7)) fun v8 =>
    std.bv (std.gt (std.gv v8 false) (some (AV.str op))) fun v9 =>
    std.bv (std.gt (std.gv v8 false) (std.ev (.bin .eql) [v9, (AV.str [102, 97, 108, 115, 101])])) fun v10 =>
    std.bv (std.gt (std.gv v5 true) (std.ev .pick [v8, (AV.bool true), v10])) fun v11 =>
    std.bv (std.gt (std.gv v5 true) (some v11)) fun v12 =>
    std.bv (std.gt (std.gv v12 false) (some (AV.str op))) fun v13 =>
    std.bv (std.gt (std.gv v12 false) (std.ev (.bin .eql) [v13, (AV.str [108, 97, 98, 101, 108])])) fun v14 =>
    std.bv (std.gt (std.gv v5 true) (std.ev .pick [v12, (AV.bool true), v14])) fun v15 =>
    std.bv (std.ev .pick [v5, v15, (AV.bool false)]) fun v16 =>
    std.bv (std.gt (std.gv v16 false) (some (AV.int .i64 (n : Nat)))) fun v17 =>
    std.bv (std.gt (std.gv v16 false) (std.ev (.bin .eql) [v17, (AV.int .i64 1)])) fun v18 =>
    std.bv (std.gt (std.gv v16 false) (some v18)) fun v19 =>
    std.bv (std.gt (std.gv v19 true) (some (AV.str op))) fun v20 =>
    std.bv (std.gt (std.gv v19 true) (std.ev (.bin .eql) [v20, (AV.str [33])])) fun v21 =>
    std.bv (std.gt (std.gv v19 true) (some v21)) fun v22 =>
    std.bv (std.gt (std.gv v22 false) (some (AV.str op))) fun v23 =>
    std.bv (std.gt (std.gv v22 false) (std.ev (.bin .eql) [v23, (AV.str [88])])) fun v24 =>
    std.bv (std.gt (std.gv v19 true) (std.ev .pick [v22, (AV.bool true), v24])) fun v25 =>
    std.bv (std.gt (std.gv v19 true) (some v25)) fun v26 =>
    std.bv (std.gt (std.gv v26 false) (some (AV.str op))) fun v27 =>
    std.bv (std.gt (std.gv v26 false) (std.ev (.bin .eql) [v27, (AV.str [70])])) fun v28 =>
    std.bv (std.gt (std.gv v19 true) (std.ev .pick [v26, (AV.bool true), v28])) fun v29 =>
    std.bv (std.gt (std.gv v19 true) (some v29)) fun v30 =>
    std.bv (std.gt (std.gv v30 false) (some (AV.str op))) fun v31 =>
    std.bv (std.gt (std.gv v30 false) (std.ev (.bin .eql) [v31, (AV.str [71])])) fun v32 =>
    std.bv (std.gt (std.gv v19 true) (std.ev .pick [v30, (AV.bool true), v32])) fun v33 =>
    std.bv (std.gt (std.gv v16 false) (std.ev .pick [v19, v33, (AV.bool false)])) fun v34 =>
    std.bv (std.ev .pick [v16, (AV.bool true), v34]) fun v35 =>
    std.bv (std.gt (std.gv v35 false) (some (AV.int .i64 (n : Nat)))) fun v36 =>
    std.bv (std.gt (std.gv v35 false) (std.ev (.bin .eql) [v36, (AV.int .i64 2)])) fun v37 =>
    std.bv (std.gt (std.gv v35 false) (some v37)) fun v38 =>
    std.bv (std.gt (std.gv v38 true) (some (AV.str op))) fun v39 =>
    std.bv (std.gt (std.gv v38 true) (std.ev (.bin .eql) [v39, (AV.str [38])])) fun v40 =>
    std.bv (std.gt (std.gv v38 true) (some v40)) fun v41 =>
    std.bv (std.gt (std.gv v41 false) (some (AV.str op))) fun v42 =>
    std.bv (std.gt (std.gv v41 false) (std.ev (.bin .eql) [v42, (AV.str [124])])) fun v43 =>
    std.bv (std.gt (std.gv v38 true) (std.ev .pick [v41, (AV.bool true), v43])) fun v44 =>
    std.bv (std.gt (std.gv v38 true) (some v44)) fun v45 =>
    std.bv (std.gt (std.gv v45 false) (some (AV.str op))) fun v46 =>
    std.bv (std.gt (std.gv v45 false) (std.ev (.bin .eql) [v46, (AV.str [61, 62])])) fun v47 =>
    std.bv (std.gt (std.gv v38 true) (std.ev .pick [v45, (AV.bool true), v47])) fun v48 =>
    std.bv (std.gt (std.gv v38 true) (some v48)) fun v49 =>
    std.bv (std.gt (std.gv v49 false) (some (AV.str op))) fun v50 =>
    std.bv (std.gt (std.gv v49 false) (std.ev (.bin .eql) [v50, (AV.str [85])])) fun v51 =>
    std.bv (std.gt (std.gv v38 true) (std.ev .pick [v49, (AV.bool true), v51])) fun v52 =>
    std.bv (std.gt (std.gv v38 true) (some v52)) fun v53 =>
    std.bv (std.gt (std.gv v53 false) (some (AV.str op))) fun v54 =>
    std.bv (std.gt (std.gv v53 false) (std.ev (.bin .eql) [v54, (AV.str [87])])) fun v55 =>
    std.bv (std.gt (std.gv v38 true) (std.ev .pick [v53, (AV.bool true), v55])) fun v56 =>
    std.bv (std.gt (std.gv v38 true) (some v56)) fun v57 =>
    std.bv (std.gt (std.gv v57 false) (some (AV.str op))) fun v58 =>
    std.bv (std.gt (std.gv v57 false) (std.ev (.bin .eql) [v58, (AV.str [82])])) fun v59 =>
    std.bv (std.gt (std.gv v38 true) (std.ev .pick [v57, (AV.bool true), v59])) fun v60 =>
    std.bv (std.gt (std.gv v35 false) (std.ev .pick [v38, v60, (AV.bool false)])) fun v61 =>
    std.bv (std.ev .pick [v35, (AV.bool true), v61]) K) = some r := by
  by_cases n0 : n = 0
  · have e : ∀ m : Nat, ((n : Int) == (m : Int)) = decide (m = 0) := by intro m; subst n0; rw [Bool.eq_iff_iff]; simp; omega
    have e0 : ((n : Int) == 0) = true := e 0
    have e1 : ((n : Int) == 1) = false := e 1
    have e2 : ((n : Int) == 2) = false := e 2
    (repeat' with_reducible first | refine k_pt ?_ | refine k_pf ?_ | refine k_es ?_ | refine k_ns ?_ | refine k_not ?_ | refine k_eb ?_ | refine k_nb ?_ | refine ktt_s ?_ | refine ktt_pt ?_ | refine ktt_pf ?_ | refine ktt_es ?_ | refine ktt_ns ?_ | refine ktt_not ?_ | refine ktt_eb ?_ | refine ktt_nb ?_ | refine kff_s ?_ | refine kff_pt ?_ | refine kff_pf ?_ | refine kff_es ?_ | refine kff_ns ?_ | refine kff_not ?_ | refine kff_eb ?_ | refine kff_nb ?_ | refine k_tf ?_ | refine k_ft ?_ | refine k_uu ?_ | refine k_ei ?_ | refine k_ni ?_ | refine ktt_ei ?_ | refine ktt_ni ?_ | refine kff_ei ?_ | refine kff_ni ?_)
    rw [e0]
    (repeat' with_reducible first | refine k_pt ?_ | refine k_pf ?_ | refine k_es ?_ | refine k_ns ?_ | refine k_not ?_ | refine k_eb ?_ | refine k_nb ?_ | refine ktt_s ?_ | refine ktt_pt ?_ | refine ktt_pf ?_ | refine ktt_es ?_ | refine ktt_ns ?_ | refine ktt_not ?_ | refine ktt_eb ?_ | refine ktt_nb ?_ | refine kff_s ?_ | refine kff_pt ?_ | refine kff_pf ?_ | refine kff_es ?_ | refine kff_ns ?_ | refine kff_not ?_ | refine kff_eb ?_ | refine kff_nb ?_ | refine k_tf ?_ | refine k_ft ?_ | refine k_uu ?_ | refine k_ei ?_ | refine k_ni ?_ | refine ktt_ei ?_ | refine ktt_ni ?_ | refine kff_ei ?_ | refine kff_ni ?_)
    by_cases c0 : op = oTrue
    · have g : (op == [116, 114, 117, 101]) = true := by simpa using c0
      rw [g]
      (repeat' with_reducible first | refine k_pt ?_ | refine k_pf ?_ | refine k_es ?_ | refine k_ns ?_ | refine k_not ?_ | refine k_eb ?_ | refine k_nb ?_ | refine ktt_s ?_ | refine ktt_pt ?_ | refine ktt_pf ?_ | refine ktt_es ?_ | refine ktt_ns ?_ | refine ktt_not ?_ | refine ktt_eb ?_ | refine ktt_nb ?_ | refine kff_s ?_ | refine kff_pt ?_ | refine kff_pf ?_ | refine kff_es ?_ | refine kff_ns ?_ | refine kff_not ?_ | refine kff_eb ?_ | refine kff_nb ?_ | refine k_tf ?_ | refine k_ft ?_ | refine k_uu ?_ | refine k_ei ?_ | refine k_ni ?_ | refine ktt_ei ?_ | refine ktt_ni ?_ | refine kff_ei ?_ | refine kff_ni ?_)
      have f : (kidsN op == (n : Int)) = true := by subst c0; subst n0; decide
      rw [f] at hK
      exact hK
    have h0 : (op == [116, 114, 117, 101]) = false := by simpa using c0
    rw [h0]
    (repeat' with_reducible first | refine k_pt ?_ | refine k_pf ?_ | refine k_es ?_ | refine k_ns ?_ | refine k_not ?_ | refine k_eb ?_ | refine k_nb ?_ | refine ktt_s ?_ | refine ktt_pt ?_ | refine ktt_pf ?_ | refine ktt_es ?_ | refine ktt_ns ?_ | refine ktt_not ?_ | refine ktt_eb ?_ | refine ktt_nb ?_ | refine kff_s ?_ | refine kff_pt ?_ | refine kff_pf ?_ | refine kff_es ?_ | refine kff_ns ?_ | refine kff_not ?_ | refine kff_eb ?_ | refine kff_nb ?_ | refine k_tf ?_ | refine k_ft ?_ | refine k_uu ?_ | refine k_ei ?_ | refine k_ni ?_ | refine ktt_ei ?_ | refine ktt_ni ?_ | refine kff_ei ?_ | refine kff_ni ?_)
    by_cases c1 : op = oFalse
    · have g : (op == [102, 97, 108, 115, 101]) = true := by simpa using c1
      rw [g]
      (repeat' with_reducible first | refine k_pt ?_ | refine k_pf ?_ | refine k_es ?_ | refine k_ns ?_ | refine k_not ?_ | refine k_eb ?_ | refine k_nb ?_ | refine ktt_s ?_ | refine ktt_pt ?_ | refine ktt_pf ?_ | refine ktt_es ?_ | refine ktt_ns ?_ | refine ktt_not ?_ | refine ktt_eb ?_ | refine ktt_nb ?_ | refine kff_s ?_ | refine kff_pt ?_ | refine kff_pf ?_ | refine kff_es ?_ | refine kff_ns ?_ | refine kff_not ?_ | refine kff_eb ?_ | refine kff_nb ?_ | refine k_tf ?_ | refine k_ft ?_ | refine k_uu ?_ | refine k_ei ?_ | refine k_ni ?_ | refine ktt_ei ?_ | refine ktt_ni ?_ | refine kff_ei ?_ | refine kff_ni ?_)
      have f : (kidsN op == (n : Int)) = true := by subst c1; subst n0; decide
      rw [f] at hK
      exact hK
    have h1 : (op == [102, 97, 108, 115, 101]) = false := by simpa using c1
    rw [h1]
    (repeat' with_reducible first | refine k_pt ?_ | refine k_pf ?_ | refine k_es ?_ | refine k_ns ?_ | refine k_not ?_ | refine k_eb ?_ | refine k_nb ?_ | refine ktt_s ?_ | refine ktt_pt ?_ | refine ktt_pf ?_ | refine ktt_es ?_ | refine ktt_ns ?_ | refine ktt_not ?_ | refine ktt_eb ?_ | refine ktt_nb ?_ | refine kff_s ?_ | refine kff_pt ?_ | refine kff_pf ?_ | refine kff_es ?_ | refine kff_ns ?_ | refine kff_not ?_ | refine kff_eb ?_ | refine kff_nb ?_ | refine k_tf ?_ | refine k_ft ?_ | refine k_uu ?_ | refine k_ei ?_ | refine k_ni ?_ | refine ktt_ei ?_ | refine ktt_ni ?_ | refine kff_ei ?_ | refine kff_ni ?_)
    by_cases c2 : op = oLabel
    · have g : (op == [108, 97, 98, 101, 108]) = true := by simpa using c2
      rw [g]
      (repeat' with_reducible first | refine k_pt ?_ | refine k_pf ?_ | refine k_es ?_ | refine k_ns ?_ | refine k_not ?_ | refine k_eb ?_ | refine k_nb ?_ | refine ktt_s ?_ | refine ktt_pt ?_ | refine ktt_pf ?_ | refine ktt_es ?_ | refine ktt_ns ?_ | refine ktt_not ?_ | refine ktt_eb ?_ | refine ktt_nb ?_ | refine kff_s ?_ | refine kff_pt ?_ | refine kff_pf ?_ | refine kff_es ?_ | refine kff_ns ?_ | refine kff_not ?_ | refine kff_eb ?_ | refine kff_nb ?_ | refine k_tf ?_ | refine k_ft ?_ | refine k_uu ?_ | refine k_ei ?_ | refine k_ni ?_ | refine ktt_ei ?_ | refine ktt_ni ?_ | refine kff_ei ?_ | refine kff_ni ?_)
      have f : (kidsN op == (n : Int)) = true := by subst c2; subst n0; decide
      rw [f] at hK
      exact hK
    have h2 : (op == [108, 97, 98, 101, 108]) = false := by simpa using c2
    rw [h2]
    (repeat' with_reducible first | refine k_pt ?_ | refine k_pf ?_ | refine k_es ?_ | refine k_ns ?_ | refine k_not ?_ | refine k_eb ?_ | refine k_nb ?_ | refine ktt_s ?_ | refine ktt_pt ?_ | refine ktt_pf ?_ | refine ktt_es ?_ | refine ktt_ns ?_ | refine ktt_not ?_ | refine ktt_eb ?_ | refine ktt_nb ?_ | refine kff_s ?_ | refine kff_pt ?_ | refine kff_pf ?_ | refine kff_es ?_ | refine kff_ns ?_ | refine kff_not ?_ | refine kff_eb ?_ | refine kff_nb ?_ | refine k_tf ?_ | refine k_ft ?_ | refine k_uu ?_ | refine k_ei ?_ | refine k_ni ?_ | refine ktt_ei ?_ | refine ktt_ni ?_ | refine kff_ei ?_ | refine kff_ni ?_)
    rw [e1]
    (repeat' with_reducible first | refine k_pt ?_ | refine k_pf ?_ | refine k_es ?_ | refine k_ns ?_ | refine k_not ?_ | refine k_eb ?_ | refine k_nb ?_ | refine ktt_s ?_ | refine ktt_pt ?_ | refine ktt_pf ?_ | refine ktt_es ?_ | refine ktt_ns ?_ | refine ktt_not ?_ | refine ktt_eb ?_ | refine ktt_nb ?_ | refine kff_s ?_ | refine kff_pt ?_ | refine kff_pf ?_ | refine kff_es ?_ | refine kff_ns ?_ | refine kff_not ?_ | refine kff_eb ?_ | refine kff_nb ?_ | refine k_tf ?_ | refine k_ft ?_ | refine k_uu ?_ | refine k_ei ?_ | refine k_ni ?_ | refine ktt_ei ?_ | refine ktt_ni ?_ | refine kff_ei ?_ | refine kff_ni ?_)
    rw [e2]
    (repeat' with_reducible first | refine k_pt ?_ | refine k_pf ?_ | refine k_es ?_ | refine k_ns ?_ | refine k_not ?_ | refine k_eb ?_ | refine k_nb ?_ | refine ktt_s ?_ | refine ktt_pt ?_ | refine ktt_pf ?_ | refine ktt_es ?_ | refine ktt_ns ?_ | refine ktt_not ?_ | refine ktt_eb ?_ | refine ktt_nb ?_ | refine kff_s ?_ | refine kff_pt ?_ | refine kff_pf ?_ | refine kff_es ?_ | refine kff_ns ?_ | refine kff_not ?_ | refine kff_eb ?_ | refine kff_nb ?_ | refine k_tf ?_ | refine k_ft ?_ | refine k_uu ?_ | refine k_ei ?_ | refine k_ni ?_ | refine ktt_ei ?_ | refine ktt_ni ?_ | refine kff_ei ?_ | refine kff_ni ?_)
    have f : (kidsN op == (n : Int)) = false := by
      subst n0
      simp only [kidsN, h0, h1, h2]
      simp only [Bool.or_self, Bool.false_eq_true, if_false]
      repeat' split
      all_goals decide
    rw [f] at hK
    exact hK
  by_cases n1 : n = 1
  · have e : ∀ m : Nat, ((n : Int) == (m : Int)) = decide (m = 1) := by intro m; subst n1; rw [Bool.eq_iff_iff]; simp; omega
    have e0 : ((n : Int) == 0) = false := e 0
    have e1 : ((n : Int) == 1) = true := e 1
    have e2 : ((n : Int) == 2) = false := e 2
    (repeat' with_reducible first | refine k_pt ?_ | refine k_pf ?_ | refine k_es ?_ | refine k_ns ?_ | refine k_not ?_ | refine k_eb ?_ | refine k_nb ?_ | refine ktt_s ?_ | refine ktt_pt ?_ | refine ktt_pf ?_ | refine ktt_es ?_ | refine ktt_ns ?_ | refine ktt_not ?_ | refine ktt_eb ?_ | refine ktt_nb ?_ | refine kff_s ?_ | refine kff_pt ?_ | refine kff_pf ?_ | refine kff_es ?_ | refine kff_ns ?_ | refine kff_not ?_ | refine kff_eb ?_ | refine kff_nb ?_ | refine k_tf ?_ | refine k_ft ?_ | refine k_uu ?_ | refine k_ei ?_ | refine k_ni ?_ | refine ktt_ei ?_ | refine ktt_ni ?_ | refine kff_ei ?_ | refine kff_ni ?_)
    rw [e0]
    (repeat' with_reducible first | refine k_pt ?_ | refine k_pf ?_ | refine k_es ?_ | refine k_ns ?_ | refine k_not ?_ | refine k_eb ?_ | refine k_nb ?_ | refine ktt_s ?_ | refine ktt_pt ?_ | refine ktt_pf ?_ | refine ktt_es ?_ | refine ktt_ns ?_ | refine ktt_not ?_ | refine ktt_eb ?_ | refine ktt_nb ?_ | refine kff_s ?_ | refine kff_pt ?_ | refine kff_pf ?_ | refine kff_es ?_ | refine kff_ns ?_ | refine kff_not ?_ | refine kff_eb ?_ | refine kff_nb ?_ | refine k_tf ?_ | refine k_ft ?_ | refine k_uu ?_ | refine k_ei ?_ | refine k_ni ?_ | refine ktt_ei ?_ | refine ktt_ni ?_ | refine kff_ei ?_ | refine kff_ni ?_)
    rw [e1]
    (repeat' with_reducible first | refine k_pt ?_ | refine k_pf ?_ | refine k_es ?_ | refine k_ns ?_ | refine k_not ?_ | refine k_eb ?_ | refine k_nb ?_ | refine ktt_s ?_ | refine ktt_pt ?_ | refine ktt_pf ?_ | refine ktt_es ?_ | refine ktt_ns ?_ | refine ktt_not ?_ | refine ktt_eb ?_ | refine ktt_nb ?_ | refine kff_s ?_ | refine kff_pt ?_ | refine kff_pf ?_ | refine kff_es ?_ | refine kff_ns ?_ | refine kff_not ?_ | refine kff_eb ?_ | refine kff_nb ?_ | refine k_tf ?_ | refine k_ft ?_ | refine k_uu ?_ | refine k_ei ?_ | refine k_ni ?_ | refine ktt_ei ?_ | refine ktt_ni ?_ | refine kff_ei ?_ | refine kff_ni ?_)
    by_cases c0 : op = oNot
    · have g : (op == [33]) = true := by simpa using c0
      rw [g]
      (repeat' with_reducible first | refine k_pt ?_ | refine k_pf ?_ | refine k_es ?_ | refine k_ns ?_ | refine k_not ?_ | refine k_eb ?_ | refine k_nb ?_ | refine ktt_s ?_ | refine ktt_pt ?_ | refine ktt_pf ?_ | refine ktt_es ?_ | refine ktt_ns ?_ | refine ktt_not ?_ | refine ktt_eb ?_ | refine ktt_nb ?_ | refine kff_s ?_ | refine kff_pt ?_ | refine kff_pf ?_ | refine kff_es ?_ | refine kff_ns ?_ | refine kff_not ?_ | refine kff_eb ?_ | refine kff_nb ?_ | refine k_tf ?_ | refine k_ft ?_ | refine k_uu ?_ | refine k_ei ?_ | refine k_ni ?_ | refine ktt_ei ?_ | refine ktt_ni ?_ | refine kff_ei ?_ | refine kff_ni ?_)
      have f : (kidsN op == (n : Int)) = true := by subst c0; subst n1; decide
      rw [f] at hK
      exact hK
    have h0 : (op == [33]) = false := by simpa using c0
    rw [h0]
    (repeat' with_reducible first | refine k_pt ?_ | refine k_pf ?_ | refine k_es ?_ | refine k_ns ?_ | refine k_not ?_ | refine k_eb ?_ | refine k_nb ?_ | refine ktt_s ?_ | refine ktt_pt ?_ | refine ktt_pf ?_ | refine ktt_es ?_ | refine ktt_ns ?_ | refine ktt_not ?_ | refine ktt_eb ?_ | refine ktt_nb ?_ | refine kff_s ?_ | refine kff_pt ?_ | refine kff_pf ?_ | refine kff_es ?_ | refine kff_ns ?_ | refine kff_not ?_ | refine kff_eb ?_ | refine kff_nb ?_ | refine k_tf ?_ | refine k_ft ?_ | refine k_uu ?_ | refine k_ei ?_ | refine k_ni ?_ | refine ktt_ei ?_ | refine ktt_ni ?_ | refine kff_ei ?_ | refine kff_ni ?_)
    by_cases c1 : op = oX
    · have g : (op == [88]) = true := by simpa using c1
      rw [g]
      (repeat' with_reducible first | refine k_pt ?_ | refine k_pf ?_ | refine k_es ?_ | refine k_ns ?_ | refine k_not ?_ | refine k_eb ?_ | refine k_nb ?_ | refine ktt_s ?_ | refine ktt_pt ?_ | refine ktt_pf ?_ | refine ktt_es ?_ | refine ktt_ns ?_ | refine ktt_not ?_ | refine ktt_eb ?_ | refine ktt_nb ?_ | refine kff_s ?_ | refine kff_pt ?_ | refine kff_pf ?_ | refine kff_es ?_ | refine kff_ns ?_ | refine kff_not ?_ | refine kff_eb ?_ | refine kff_nb ?_ | refine k_tf ?_ | refine k_ft ?_ | refine k_uu ?_ | refine k_ei ?_ | refine k_ni ?_ | refine ktt_ei ?_ | refine ktt_ni ?_ | refine kff_ei ?_ | refine kff_ni ?_)
      have f : (kidsN op == (n : Int)) = true := by subst c1; subst n1; decide
      rw [f] at hK
      exact hK
    have h1 : (op == [88]) = false := by simpa using c1
    rw [h1]
    (repeat' with_reducible first | refine k_pt ?_ | refine k_pf ?_ | refine k_es ?_ | refine k_ns ?_ | refine k_not ?_ | refine k_eb ?_ | refine k_nb ?_ | refine ktt_s ?_ | refine ktt_pt ?_ | refine ktt_pf ?_ | refine ktt_es ?_ | refine ktt_ns ?_ | refine ktt_not ?_ | refine ktt_eb ?_ | refine ktt_nb ?_ | refine kff_s ?_ | refine kff_pt ?_ | refine kff_pf ?_ | refine kff_es ?_ | refine kff_ns ?_ | refine kff_not ?_ | refine kff_eb ?_ | refine kff_nb ?_ | refine k_tf ?_ | refine k_ft ?_ | refine k_uu ?_ | refine k_ei ?_ | refine k_ni ?_ | refine ktt_ei ?_ | refine ktt_ni ?_ | refine kff_ei ?_ | refine kff_ni ?_)
    by_cases c2 : op = oF
    · have g : (op == [70]) = true := by simpa using c2
      rw [g]
      (repeat' with_reducible first | refine k_pt ?_ | refine k_pf ?_ | refine k_es ?_ | refine k_ns ?_ | refine k_not ?_ | refine k_eb ?_ | refine k_nb ?_ | refine ktt_s ?_ | refine ktt_pt ?_ | refine ktt_pf ?_ | refine ktt_es ?_ | refine ktt_ns ?_ | refine ktt_not ?_ | refine ktt_eb ?_ | refine ktt_nb ?_ | refine kff_s ?_ | refine kff_pt ?_ | refine kff_pf ?_ | refine kff_es ?_ | refine kff_ns ?_ | refine kff_not ?_ | refine kff_eb ?_ | refine kff_nb ?_ | refine k_tf ?_ | refine k_ft ?_ | refine k_uu ?_ | refine k_ei ?_ | refine k_ni ?_ | refine ktt_ei ?_ | refine ktt_ni ?_ | refine kff_ei ?_ | refine kff_ni ?_)
      have f : (kidsN op == (n : Int)) = true := by subst c2; subst n1; decide
      rw [f] at hK
      exact hK
    have h2 : (op == [70]) = false := by simpa using c2
    rw [h2]
    (repeat' with_reducible first | refine k_pt ?_ | refine k_pf ?_ | refine k_es ?_ | refine k_ns ?_ | refine k_not ?_ | refine k_eb ?_ | refine k_nb ?_ | refine ktt_s ?_ | refine ktt_pt ?_ | refine ktt_pf ?_ | refine ktt_es ?_ | refine ktt_ns ?_ | refine ktt_not ?_ | refine ktt_eb ?_ | refine ktt_nb ?_ | refine kff_s ?_ | refine kff_pt ?_ | refine kff_pf ?_ | refine kff_es ?_ | refine kff_ns ?_ | refine kff_not ?_ | refine kff_eb ?_ | refine kff_nb ?_ | refine k_tf ?_ | refine k_ft ?_ | refine k_uu ?_ | refine k_ei ?_ | refine k_ni ?_ | refine ktt_ei ?_ | refine ktt_ni ?_ | refine kff_ei ?_ | refine kff_ni ?_)
    by_cases c3 : op = oG
    · have g : (op == [71]) = true := by simpa using c3
      rw [g]
      (repeat' with_reducible first | refine k_pt ?_ | refine k_pf ?_ | refine k_es ?_ | refine k_ns ?_ | refine k_not ?_ | refine k_eb ?_ | refine k_nb ?_ | refine ktt_s ?_ | refine ktt_pt ?_ | refine ktt_pf ?_ | refine ktt_es ?_ | refine ktt_ns ?_ | refine ktt_not ?_ | refine ktt_eb ?_ | refine ktt_nb ?_ | refine kff_s ?_ | refine kff_pt ?_ | refine kff_pf ?_ | refine kff_es ?_ | refine kff_ns ?_ | refine kff_not ?_ | refine kff_eb ?_ | refine kff_nb ?_ | refine k_tf ?_ | refine k_ft ?_ | refine k_uu ?_ | refine k_ei ?_ | refine k_ni ?_ | refine ktt_ei ?_ | refine ktt_ni ?_ | refine kff_ei ?_ | refine kff_ni ?_)
      have f : (kidsN op == (n : Int)) = true := by subst c3; subst n1; decide
      rw [f] at hK
      exact hK
    have h3 : (op == [71]) = false := by simpa using c3
    rw [h3]
    (repeat' with_reducible first | refine k_pt ?_ | refine k_pf ?_ | refine k_es ?_ | refine k_ns ?_ | refine k_not ?_ | refine k_eb ?_ | refine k_nb ?_ | refine ktt_s ?_ | refine ktt_pt ?_ | refine ktt_pf ?_ | refine ktt_es ?_ | refine ktt_ns ?_ | refine ktt_not ?_ | refine ktt_eb ?_ | refine ktt_nb ?_ | refine kff_s ?_ | refine kff_pt ?_ | refine kff_pf ?_ | refine kff_es ?_ | refine kff_ns ?_ | refine kff_not ?_ | refine kff_eb ?_ | refine kff_nb ?_ | refine k_tf ?_ | refine k_ft ?_ | refine k_uu ?_ | refine k_ei ?_ | refine k_ni ?_ | refine ktt_ei ?_ | refine ktt_ni ?_ | refine kff_ei ?_ | refine kff_ni ?_)
    rw [e2]
    (repeat' with_reducible first | refine k_pt ?_ | refine k_pf ?_ | refine k_es ?_ | refine k_ns ?_ | refine k_not ?_ | refine k_eb ?_ | refine k_nb ?_ | refine ktt_s ?_ | refine ktt_pt ?_ | refine ktt_pf ?_ | refine ktt_es ?_ | refine ktt_ns ?_ | refine ktt_not ?_ | refine ktt_eb ?_ | refine ktt_nb ?_ | refine kff_s ?_ | refine kff_pt ?_ | refine kff_pf ?_ | refine kff_es ?_ | refine kff_ns ?_ | refine kff_not ?_ | refine kff_eb ?_ | refine kff_nb ?_ | refine k_tf ?_ | refine k_ft ?_ | refine k_uu ?_ | refine k_ei ?_ | refine k_ni ?_ | refine ktt_ei ?_ | refine ktt_ni ?_ | refine kff_ei ?_ | refine kff_ni ?_)
    have f : (kidsN op == (n : Int)) = false := by
      subst n1
      simp only [kidsN, h0, h1, h2, h3]
      simp only [Bool.or_self, Bool.false_eq_true, if_false]
      repeat' split
      all_goals decide
    rw [f] at hK
    exact hK
  by_cases n2 : n = 2
  · have e : ∀ m : Nat, ((n : Int) == (m : Int)) = decide (m = 2) := by intro m; subst n2; rw [Bool.eq_iff_iff]; simp; omega
    have e0 : ((n : Int) == 0) = false := e 0
    have e1 : ((n : Int) == 1) = false := e 1
    have e2 : ((n : Int) == 2) = true := e 2
    (repeat' with_reducible first | refine k_pt ?_ | refine k_pf ?_ | refine k_es ?_ | refine k_ns ?_ | refine k_not ?_ | refine k_eb ?_ | refine k_nb ?_ | refine ktt_s ?_ | refine ktt_pt ?_ | refine ktt_pf ?_ | refine ktt_es ?_ | refine ktt_ns ?_ | refine ktt_not ?_ | refine ktt_eb ?_ | refine ktt_nb ?_ | refine kff_s ?_ | refine kff_pt ?_ | refine kff_pf ?_ | refine kff_es ?_ | refine kff_ns ?_ | refine kff_not ?_ | refine kff_eb ?_ | refine kff_nb ?_ | refine k_tf ?_ | refine k_ft ?_ | refine k_uu ?_ | refine k_ei ?_ | refine k_ni ?_ | refine ktt_ei ?_ | refine ktt_ni ?_ | refine kff_ei ?_ | refine kff_ni ?_)
    rw [e0]
    (repeat' with_reducible first | refine k_pt ?_ | refine k_pf ?_ | refine k_es ?_ | refine k_ns ?_ | refine k_not ?_ | refine k_eb ?_ | refine k_nb ?_ | refine ktt_s ?_ | refine ktt_pt ?_ | refine ktt_pf ?_ | refine ktt_es ?_ | refine ktt_ns ?_ | refine ktt_not ?_ | refine ktt_eb ?_ | refine ktt_nb ?_ | refine kff_s ?_ | refine kff_pt ?_ | refine kff_pf ?_ | refine kff_es ?_ | refine kff_ns ?_ | refine kff_not ?_ | refine kff_eb ?_ | refine kff_nb ?_ | refine k_tf ?_ | refine k_ft ?_ | refine k_uu ?_ | refine k_ei ?_ | refine k_ni ?_ | refine ktt_ei ?_ | refine ktt_ni ?_ | refine kff_ei ?_ | refine kff_ni ?_)
    rw [e1]
    (repeat' with_reducible first | refine k_pt ?_ | refine k_pf ?_ | refine k_es ?_ | refine k_ns ?_ | refine k_not ?_ | refine k_eb ?_ | refine k_nb ?_ | refine ktt_s ?_ | refine ktt_pt ?_ | refine ktt_pf ?_ | refine ktt_es ?_ | refine ktt_ns ?_ | refine ktt_not ?_ | refine ktt_eb ?_ | refine ktt_nb ?_ | refine kff_s ?_ | refine kff_pt ?_ | refine kff_pf ?_ | refine kff_es ?_ | refine kff_ns ?_ | refine kff_not ?_ | refine kff_eb ?_ | refine kff_nb ?_ | refine k_tf ?_ | refine k_ft ?_ | refine k_uu ?_ | refine k_ei ?_ | refine k_ni ?_ | refine ktt_ei ?_ | refine ktt_ni ?_ | refine kff_ei ?_ | refine kff_ni ?_)
    rw [e2]
    (repeat' with_reducible first | refine k_pt ?_ | refine k_pf ?_ | refine k_es ?_ | refine k_ns ?_ | refine k_not ?_ | refine k_eb ?_ | refine k_nb ?_ | refine ktt_s ?_ | refine ktt_pt ?_ | refine ktt_pf ?_ | refine ktt_es ?_ | refine ktt_ns ?_ | refine ktt_not ?_ | refine ktt_eb ?_ | refine ktt_nb ?_ | refine kff_s ?_ | refine kff_pt ?_ | refine kff_pf ?_ | refine kff_es ?_ | refine kff_ns ?_ | refine kff_not ?_ | refine kff_eb ?_ | refine kff_nb ?_ | refine k_tf ?_ | refine k_ft ?_ | refine k_uu ?_ | refine k_ei ?_ | refine k_ni ?_ | refine ktt_ei ?_ | refine ktt_ni ?_ | refine kff_ei ?_ | refine kff_ni ?_)
    by_cases c0 : op = oAnd
    · have g : (op == [38]) = true := by simpa using c0
      rw [g]
      (repeat' with_reducible first | refine k_pt ?_ | refine k_pf ?_ | refine k_es ?_ | refine k_ns ?_ | refine k_not ?_ | refine k_eb ?_ | refine k_nb ?_ | refine ktt_s ?_ | refine ktt_pt ?_ | refine ktt_pf ?_ | refine ktt_es ?_ | refine ktt_ns ?_ | refine ktt_not ?_ | refine ktt_eb ?_ | refine ktt_nb ?_ | refine kff_s ?_ | refine kff_pt ?_ | refine kff_pf ?_ | refine kff_es ?_ | refine kff_ns ?_ | refine kff_not ?_ | refine kff_eb ?_ | refine kff_nb ?_ | refine k_tf ?_ | refine k_ft ?_ | refine k_uu ?_ | refine k_ei ?_ | refine k_ni ?_ | refine ktt_ei ?_ | refine ktt_ni ?_ | refine kff_ei ?_ | refine kff_ni ?_)
      have f : (kidsN op == (n : Int)) = true := by subst c0; subst n2; decide
      rw [f] at hK
      exact hK
    have h0 : (op == [38]) = false := by simpa using c0
    rw [h0]
    (repeat' with_reducible first | refine k_pt ?_ | refine k_pf ?_ | refine k_es ?_ | refine k_ns ?_ | refine k_not ?_ | refine k_eb ?_ | refine k_nb ?_ | refine ktt_s ?_ | refine ktt_pt ?_ | refine ktt_pf ?_ | refine ktt_es ?_ | refine ktt_ns ?_ | refine ktt_not ?_ | refine ktt_eb ?_ | refine ktt_nb ?_ | refine kff_s ?_ | refine kff_pt ?_ | refine kff_pf ?_ | refine kff_es ?_ | refine kff_ns ?_ | refine kff_not ?_ | refine kff_eb ?_ | refine kff_nb ?_ | refine k_tf ?_ | refine k_ft ?_ | refine k_uu ?_ | refine k_ei ?_ | refine k_ni ?_ | refine ktt_ei ?_ | refine ktt_ni ?_ | refine kff_ei ?_ | refine kff_ni ?_)
    by_cases c1 : op = oOr
    · have g : (op == [124]) = true := by simpa using c1
      rw [g]
      (repeat' with_reducible first | refine k_pt ?_ | refine k_pf ?_ | refine k_es ?_ | refine k_ns ?_ | refine k_not ?_ | refine k_eb ?_ | refine k_nb ?_ | refine ktt_s ?_ | refine ktt_pt ?_ | refine ktt_pf ?_ | refine ktt_es ?_ | refine ktt_ns ?_ | refine ktt_not ?_ | refine ktt_eb ?_ | refine ktt_nb ?_ | refine kff_s ?_ | refine kff_pt ?_ | refine kff_pf ?_ | refine kff_es ?_ | refine kff_ns ?_ | refine kff_not ?_ | refine kff_eb ?_ | refine kff_nb ?_ | refine k_tf ?_ | refine k_ft ?_ | refine k_uu ?_ | refine k_ei ?_ | refine k_ni ?_ | refine ktt_ei ?_ | refine ktt_ni ?_ | refine kff_ei ?_ | refine kff_ni ?_)
      have f : (kidsN op == (n : Int)) = true := by subst c1; subst n2; decide
      rw [f] at hK
      exact hK
    have h1 : (op == [124]) = false := by simpa using c1
    rw [h1]
    (repeat' with_reducible first | refine k_pt ?_ | refine k_pf ?_ | refine k_es ?_ | refine k_ns ?_ | refine k_not ?_ | refine k_eb ?_ | refine k_nb ?_ | refine ktt_s ?_ | refine ktt_pt ?_ | refine ktt_pf ?_ | refine ktt_es ?_ | refine ktt_ns ?_ | refine ktt_not ?_ | refine ktt_eb ?_ | refine ktt_nb ?_ | refine kff_s ?_ | refine kff_pt ?_ | refine kff_pf ?_ | refine kff_es ?_ | refine kff_ns ?_ | refine kff_not ?_ | refine kff_eb ?_ | refine kff_nb ?_ | refine k_tf ?_ | refine k_ft ?_ | refine k_uu ?_ | refine k_ei ?_ | refine k_ni ?_ | refine ktt_ei ?_ | refine ktt_ni ?_ | refine kff_ei ?_ | refine kff_ni ?_)
    by_cases c2 : op = oImp
    · have g : (op == [61, 62]) = true := by simpa using c2
      rw [g]
      (repeat' with_reducible first | refine k_pt ?_ | refine k_pf ?_ | refine k_es ?_ | refine k_ns ?_ | refine k_not ?_ | refine k_eb ?_ | refine k_nb ?_ | refine ktt_s ?_ | refine ktt_pt ?_ | refine ktt_pf ?_ | refine ktt_es ?_ | refine ktt_ns ?_ | refine ktt_not ?_ | refine ktt_eb ?_ | refine ktt_nb ?_ | refine kff_s ?_ | refine kff_pt ?_ | refine kff_pf ?_ | refine kff_es ?_ | refine kff_ns ?_ | refine kff_not ?_ | refine kff_eb ?_ | refine kff_nb ?_ | refine k_tf ?_ | refine k_ft ?_ | refine k_uu ?_ | refine k_ei ?_ | refine k_ni ?_ | refine ktt_ei ?_ | refine ktt_ni ?_ | refine kff_ei ?_ | refine kff_ni ?_)
      have f : (kidsN op == (n : Int)) = true := by subst c2; subst n2; decide
      rw [f] at hK
      exact hK
    have h2 : (op == [61, 62]) = false := by simpa using c2
    rw [h2]
    (repeat' with_reducible first | refine k_pt ?_ | refine k_pf ?_ | refine k_es ?_ | refine k_ns ?_ | refine k_not ?_ | refine k_eb ?_ | refine k_nb ?_ | refine ktt_s ?_ | refine ktt_pt ?_ | refine ktt_pf ?_ | refine ktt_es ?_ | refine ktt_ns ?_ | refine ktt_not ?_ | refine ktt_eb ?_ | refine ktt_nb ?_ | refine kff_s ?_ | refine kff_pt ?_ | refine kff_pf ?_ | refine kff_es ?_ | refine kff_ns ?_ | refine kff_not ?_ | refine kff_eb ?_ | refine kff_nb ?_ | refine k_tf ?_ | refine k_ft ?_ | refine k_uu ?_ | refine k_ei ?_ | refine k_ni ?_ | refine ktt_ei ?_ | refine ktt_ni ?_ | refine kff_ei ?_ | refine kff_ni ?_)
    by_cases c3 : op = oU
    · have g : (op == [85]) = true := by simpa using c3
      rw [g]
      (repeat' with_reducible first | refine k_pt ?_ | refine k_pf ?_ | refine k_es ?_ | refine k_ns ?_ | refine k_not ?_ | refine k_eb ?_ | refine k_nb ?_ | refine ktt_s ?_ | refine ktt_pt ?_ | refine ktt_pf ?_ | refine ktt_es ?_ | refine ktt_ns ?_ | refine ktt_not ?_ | refine ktt_eb ?_ | refine ktt_nb ?_ | refine kff_s ?_ | refine kff_pt ?_ | refine kff_pf ?_ | refine kff_es ?_ | refine kff_ns ?_ | refine kff_not ?_ | refine kff_eb ?_ | refine kff_nb ?_ | refine k_tf ?_ | refine k_ft ?_ | refine k_uu ?_ | refine k_ei ?_ | refine k_ni ?_ | refine ktt_ei ?_ | refine ktt_ni ?_ | refine kff_ei ?_ | refine kff_ni ?_)
      have f : (kidsN op == (n : Int)) = true := by subst c3; subst n2; decide
      rw [f] at hK
      exact hK
    have h3 : (op == [85]) = false := by simpa using c3
    rw [h3]
    (repeat' with_reducible first | refine k_pt ?_ | refine k_pf ?_ | refine k_es ?_ | refine k_ns ?_ | refine k_not ?_ | refine k_eb ?_ | refine k_nb ?_ | refine ktt_s ?_ | refine ktt_pt ?_ | refine ktt_pf ?_ | refine ktt_es ?_ | refine ktt_ns ?_ | refine ktt_not ?_ | refine ktt_eb ?_ | refine ktt_nb ?_ | refine kff_s ?_ | refine kff_pt ?_ | refine kff_pf ?_ | refine kff_es ?_ | refine kff_ns ?_ | refine kff_not ?_ | refine kff_eb ?_ | refine kff_nb ?_ | refine k_tf ?_ | refine k_ft ?_ | refine k_uu ?_ | refine k_ei ?_ | refine k_ni ?_ | refine ktt_ei ?_ | refine ktt_ni ?_ | refine kff_ei ?_ | refine kff_ni ?_)
    by_cases c4 : op = oW
    · have g : (op == [87]) = true := by simpa using c4
      rw [g]
      (repeat' with_reducible first | refine k_pt ?_ | refine k_pf ?_ | refine k_es ?_ | refine k_ns ?_ | refine k_not ?_ | refine k_eb ?_ | refine k_nb ?_ | refine ktt_s ?_ | refine ktt_pt ?_ | refine ktt_pf ?_ | refine ktt_es ?_ | refine ktt_ns ?_ | refine ktt_not ?_ | refine ktt_eb ?_ | refine ktt_nb ?_ | refine kff_s ?_ | refine kff_pt ?_ | refine kff_pf ?_ | refine kff_es ?_ | refine kff_ns ?_ | refine kff_not ?_ | refine kff_eb ?_ | refine kff_nb ?_ | refine k_tf ?_ | refine k_ft ?_ | refine k_uu ?_ | refine k_ei ?_ | refine k_ni ?_ | refine ktt_ei ?_ | refine ktt_ni ?_ | refine kff_ei ?_ | refine kff_ni ?_)
      have f : (kidsN op == (n : Int)) = true := by subst c4; subst n2; decide
      rw [f] at hK
      exact hK
    have h4 : (op == [87]) = false := by simpa using c4
    rw [h4]
    (repeat' with_reducible first | refine k_pt ?_ | refine k_pf ?_ | refine k_es ?_ | refine k_ns ?_ | refine k_not ?_ | refine k_eb ?_ | refine k_nb ?_ | refine ktt_s ?_ | refine ktt_pt ?_ | refine ktt_pf ?_ | refine ktt_es ?_ | refine ktt_ns ?_ | refine ktt_not ?_ | refine ktt_eb ?_ | refine ktt_nb ?_ | refine kff_s ?_ | refine kff_pt ?_ | refine kff_pf ?_ | refine kff_es ?_ | refine kff_ns ?_ | refine kff_not ?_ | refine kff_eb ?_ | refine kff_nb ?_ | refine k_tf ?_ | refine k_ft ?_ | refine k_uu ?_ | refine k_ei ?_ | refine k_ni ?_ | refine ktt_ei ?_ | refine ktt_ni ?_ | refine kff_ei ?_ | refine kff_ni ?_)
    by_cases c5 : op = oR
    · have g : (op == [82]) = true := by simpa using c5
      rw [g]
      (repeat' with_reducible first | refine k_pt ?_ | refine k_pf ?_ | refine k_es ?_ | refine k_ns ?_ | refine k_not ?_ | refine k_eb ?_ | refine k_nb ?_ | refine ktt_s ?_ | refine ktt_pt ?_ | refine ktt_pf ?_ | refine ktt_es ?_ | refine ktt_ns ?_ | refine ktt_not ?_ | refine ktt_eb ?_ | refine ktt_nb ?_ | refine kff_s ?_ | refine kff_pt ?_ | refine kff_pf ?_ | refine kff_es ?_ | refine kff_ns ?_ | refine kff_not ?_ | refine kff_eb ?_ | refine kff_nb ?_ | refine k_tf ?_ | refine k_ft ?_ | refine k_uu ?_ | refine k_ei ?_ | refine k_ni ?_ | refine ktt_ei ?_ | refine ktt_ni ?_ | refine kff_ei ?_ | refine kff_ni ?_)
      have f : (kidsN op == (n : Int)) = true := by subst c5; subst n2; decide
      rw [f] at hK
      exact hK
    have h5 : (op == [82]) = false := by simpa using c5
    rw [h5]
    (repeat' with_reducible first | refine k_pt ?_ | refine k_pf ?_ | refine k_es ?_ | refine k_ns ?_ | refine k_not ?_ | refine k_eb ?_ | refine k_nb ?_ | refine ktt_s ?_ | refine ktt_pt ?_ | refine ktt_pf ?_ | refine ktt_es ?_ | refine ktt_ns ?_ | refine ktt_not ?_ | refine ktt_eb ?_ | refine ktt_nb ?_ | refine kff_s ?_ | refine kff_pt ?_ | refine kff_pf ?_ | refine kff_es ?_ | refine kff_ns ?_ | refine kff_not ?_ | refine kff_eb ?_ | refine kff_nb ?_ | refine k_tf ?_ | refine k_ft ?_ | refine k_uu ?_ | refine k_ei ?_ | refine k_ni ?_ | refine ktt_ei ?_ | refine ktt_ni ?_ | refine kff_ei ?_ | refine kff_ni ?_)
    have f : (kidsN op == (n : Int)) = false := by
      subst n2
      simp only [kidsN, h0, h1, h2, h3, h4, h5]
      simp only [Bool.or_self, Bool.false_eq_true, if_false]
      repeat' split
      all_goals decide
    rw [f] at hK
    exact hK
  have e0 : ((n : Int) == 0) = false := by simp; omega
  have e1 : ((n : Int) == 1) = false := by simp; omega
  have e2 : ((n : Int) == 2) = false := by simp; omega
  (repeat' with_reducible first | refine k_pt ?_ | refine k_pf ?_ | refine k_es ?_ | refine k_ns ?_ | refine k_not ?_ | refine k_eb ?_ | refine k_nb ?_ | refine ktt_s ?_ | refine ktt_pt ?_ | refine ktt_pf ?_ | refine ktt_es ?_ | refine ktt_ns ?_ | refine ktt_not ?_ | refine ktt_eb ?_ | refine ktt_nb ?_ | refine kff_s ?_ | refine kff_pt ?_ | refine kff_pf ?_ | refine kff_es ?_ | refine kff_ns ?_ | refine kff_not ?_ | refine kff_eb ?_ | refine kff_nb ?_ | refine k_tf ?_ | refine k_ft ?_ | refine k_uu ?_ | refine k_ei ?_ | refine k_ni ?_ | refine ktt_ei ?_ | refine ktt_ni ?_ | refine kff_ei ?_ | refine kff_ni ?_)
  rw [e0]
  (repeat' with_reducible first | refine k_pt ?_ | refine k_pf ?_ | refine k_es ?_ | refine k_ns ?_ | refine k_not ?_ | refine k_eb ?_ | refine k_nb ?_ | refine ktt_s ?_ | refine ktt_pt ?_ | refine ktt_pf ?_ | refine ktt_es ?_ | refine ktt_ns ?_ | refine ktt_not ?_ | refine ktt_eb ?_ | refine ktt_nb ?_ | refine kff_s ?_ | refine kff_pt ?_ | refine kff_pf ?_ | refine kff_es ?_ | refine kff_ns ?_ | refine kff_not ?_ | refine kff_eb ?_ | refine kff_nb ?_ | refine k_tf ?_ | refine k_ft ?_ | refine k_uu ?_ | refine k_ei ?_ | refine k_ni ?_ | refine ktt_ei ?_ | refine ktt_ni ?_ | refine kff_ei ?_ | refine kff_ni ?_)
  rw [e1]
  (repeat' with_reducible first | refine k_pt ?_ | refine k_pf ?_ | refine k_es ?_ | refine k_ns ?_ | refine k_not ?_ | refine k_eb ?_ | refine k_nb ?_ | refine ktt_s ?_ | refine ktt_pt ?_ | refine ktt_pf ?_ | refine ktt_es ?_ | refine ktt_ns ?_ | refine ktt_not ?_ | refine ktt_eb ?_ | refine ktt_nb ?_ | refine kff_s ?_ | refine kff_pt ?_ | refine kff_pf ?_ | refine kff_es ?_ | refine kff_ns ?_ | refine kff_not ?_ | refine kff_eb ?_ | refine kff_nb ?_ | refine k_tf ?_ | refine k_ft ?_ | refine k_uu ?_ | refine k_ei ?_ | refine k_ni ?_ | refine ktt_ei ?_ | refine ktt_ni ?_ | refine kff_ei ?_ | refine kff_ni ?_)
  rw [e2]
  (repeat' with_reducible first | refine k_pt ?_ | refine k_pf ?_ | refine k_es ?_ | refine k_ns ?_ | refine k_not ?_ | refine k_eb ?_ | refine k_nb ?_ | refine ktt_s ?_ | refine ktt_pt ?_ | refine ktt_pf ?_ | refine ktt_es ?_ | refine ktt_ns ?_ | refine ktt_not ?_ | refine ktt_eb ?_ | refine ktt_nb ?_ | refine kff_s ?_ | refine kff_pt ?_ | refine kff_pf ?_ | refine kff_es ?_ | refine kff_ns ?_ | refine kff_not ?_ | refine kff_eb ?_ | refine kff_nb ?_ | refine k_tf ?_ | refine k_ft ?_ | refine k_uu ?_ | refine k_ei ?_ | refine k_ni ?_ | refine ktt_ei ?_ | refine ktt_ni ?_ | refine kff_ei ?_ | refine kff_ni ?_)
  have f : (kidsN op == (n : Int)) = false := by have := kidsN_le op; simp; omega
  rw [f] at hK
  exact hK
theorem odd_tail {F : Fm} (hf : F.few = true) {right : Bool} (hN : F.isN = right) (hS : F.size ≤ 4096) : (
    std.br (Wc 5 [F.av] H0) fun v115 g116 =>
    std.bv (std.ev (.extract 0) [v115]) fun v117 =>
    std.bv (std.ev (.extract 1) [v115]) fun v118 =>
    std.bv (std.shape 4 true (AV.agg [.str [], .str [], .list true 4 [], .int .i64 0])) fun _ =>
    std.bv (std.shape 4 true v117) fun _ =>
    std.br (Wc 2 [F.av] g116) fun v121 g122 =>
    std.bv (std.ev (.eq false .b) [v121, (AV.bool right)]) fun v123 =>
    std.bv (std.gt (std.gv v123 true) (some v118)) fun v124 =>
    std.bv (std.gt (std.gv v123 true) (std.ev (.eq false .i) [v124, (AV.nili)])) fun v125 =>
    std.bv (std.gt (std.gv v123 true) (some (AV.bool right))) fun v126 =>
    std.bv (std.gt (std.gv v123 true) (std.ev (.eq false .b) [v125, v126])) fun v127 =>
    std.bv (std.ev .pick [v123, v127, (AV.bool false)]) fun v128 =>
    std.ret v128 g122) = some (.bool true, H0) := by
  refine br_s (c5 F hf _) ?_
  cases right with
  | false =>
    have e : simple F = (zero, errno 1) := by rw [simple, if_pos hN]
    rw [e]
    (repeat' first | refine bv_s rfl ?_ | refine withK_s ?_)
    refine br_s (c2 F hf _) ?_
    rw [hN]
    (repeat' first | refine bv_s rfl ?_ | refine withK_s ?_)
    rfl
  | true =>
    have e : simple F = (F.simp, .nili) := by rw [simple, if_neg (by rw [hN]; simp), if_neg (by omega)]
    rw [e]
    (repeat' first | refine bv_s rfl ?_ | refine withK_s ?_)
    refine bv_s (shape_s _) ?_
    refine br_s (c2 F hf _) ?_
    rw [hN]
    (repeat' first | refine bv_s rfl ?_ | refine withK_s ?_)
    rfl
theorem step6 {op name : List UInt8} {nl : Bool} {ks : List (List UInt8)} {i : Nat} {b : Bool} {fs : List Fm} (K : St → R) (hlt : i < ks.length) (hks : ks.length ≤ 4) (hb : b = fs.all Fm.isN) (hfl : fs.length ≤ i) (_hff : ∀ f ∈ fs, f.few = true)
    (hK1 : (ks[i]).length ≤ 100 → ∀ f, parse ks[i] 64 = .ok f → K ([.str op, .list nl 1 (ks.map .str), .bool ((fs ++ [f]).all Fm.isN), .int .i64 ((i + 1 : Nat) : Int), .agg [.str op, .str name, .list false 4 ((fs ++ [f]).map av), .int .i64 0]], H0) = some (.bool true, H0))
    (hK2 : K ([.str op, .list nl 1 (ks.map .str), .bool b, .int .i64 ((i + 1 : Nat) : Int), .agg [.str op, .str name, .list false 4 (fs.map av), .int .i64 0]], H0) = some (.bool true, H0)) :
    sh6_L2 std Wc K (.str op) (.list nl 1 (ks.map .str)) (.bool b) (.int .i64 (i : Nat)) (.agg [.str op, .str name, .list false 4 (fs.map av), .int .i64 0]) H0 = some (.bool true, H0) := by
  unfold sh6_L2
  refine bv_s rfl ?_
  refine bv_s rfl ?_
  refine if_t (by simp; omega) ?_
  refine withK_s ?_
  have hx : std.ev (.idxAddr 1) [.list nl 1 (ks.map AV.str), .int .i64 (i : Nat)] = some (.ro (.str ks[i]) 0) := ev_idx (by simp [hlt])
  refine bv_s hx ?_
  refine bv_s rfl ?_
  refine bv_s rfl ?_
  refine bv_s rfl ?_
  refine if_s (fun h1 => ?_) (fun h1 => ?_)
  · rfl
  have h1' : (ks[i]).length ≤ 100 := by simp at h1; omega
  refine bv_s hx ?_
  refine bv_s rfl ?_
  refine br_s (c1 _ _ _) ?_
  cases hp : parse ks[i] 64 with
  | error e =>
    (repeat' first | refine bv_s rfl ?_ | refine withK_s ?_)
    refine bv_s (perr_eq e) ?_
    refine if_f rfl ?_
    show sh6_J1 std Wc K _ _ _ _ _ _ = _
    unfold sh6_J1
    refine bv_s rfl ?_
    show K ([_, _, _, .int .i64 (IntKind.i64.wrap ((i : Int) + 1)), _], H0) = _
    rw [succ64 (by omega)]
    exact hK2
  | ok f =>
    obtain ⟨hf, hsz⟩ := parse_form hp
    have hfew := few_form f hf
    (repeat' first | refine bv_s rfl ?_ | refine withK_s ?_)
    refine bv_s (shape_s _) ?_
    (repeat' first | refine bv_s rfl ?_ | refine withK_s ?_)
    refine if_t rfl ?_
    refine bv_s rfl ?_
    refine bv_s (mkl1 _) ?_
    refine bv_s (app_av (ys := [f]) (by simp only [List.length_singleton]; omega)) ?_
    refine bv_s rfl ?_
    have hn := hK1 h1' f hp
    cases hbv : b with
    | false =>
      (repeat' first | refine bv_s rfl ?_ | refine withK_s ?_)
      refine br_s (gr_f rfl) ?_
      (repeat' first | refine bv_s rfl ?_ | refine withK_s ?_)
      have e : (fs ++ [f]).all Fm.isN = false := by rw [List.all_append, ← hb, hbv]; rfl
      rw [e] at hn
      show K ([_, _, _, .int .i64 (IntKind.i64.wrap ((i : Int) + 1)), _], H0) = _
      rw [succ64 (by omega)]
      exact hn
    | true =>
      (repeat' first | refine bv_s rfl ?_ | refine withK_s ?_)
      refine br_s (gr_t rfl (c2 f hfew _)) ?_
      (repeat' first | refine bv_s rfl ?_ | refine withK_s ?_)
      have e : (fs ++ [f]).all Fm.isN = f.isN := by rw [List.all_append, ← hb, hbv]; simp
      rw [e] at hn
      show K ([_, _, _, .int .i64 (IntKind.i64.wrap ((i : Int) + 1)), _], H0) = _
      rw [succ64 (by omega)]
      exact hn

end Go.Abs
