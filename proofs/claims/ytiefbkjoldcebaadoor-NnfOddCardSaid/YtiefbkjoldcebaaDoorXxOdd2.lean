/- NnfOdd on abstract values: its last lines. -/
import Derived.Test.YtiefbkjoldcebaaDoorXxOdd
namespace Go.Abs
open Fm
set_option maxRecDepth 10000
set_option linter.unusedVariables false
set_option maxHeartbeats 1000000 in
theorem odd_right {op name : List UInt8} {fs : List Fm} (hff : ∀ f ∈ fs, f.form = true ∧ f.size ≤ 100) (hform : (Fm.mk op name false fs 0).form = true) (hsz : (Fm.mk op name false fs 0).size ≤ 401) : (
    std.bv (std.gt (std.gv (AV.bool true) true) (some (AV.bool (fs.all Fm.isN)))) fun v91 =>
    std.bv (std.ev .pick [(AV.bool true), v91, (AV.bool false)]) fun v92 =>
    std.bv (std.gt (std.gv v92 true) (some (AV.str op))) fun v93 =>
    std.bv (std.gt (std.gv v92 true) (std.ev (.bin .neq) [v93, (AV.str [61, 62])])) fun v94 =>
    std.bv (std.ev .pick [v92, v94, (AV.bool false)]) fun v95 =>
    std.bv (std.gt (std.gv v95 true) (some (AV.str op))) fun v96 =>
    std.bv (std.gt (std.gv v95 true) (std.ev (.bin .neq) [v96, (AV.str [87])])) fun v97 =>
    std.bv (std.ev .pick [v95, v97, (AV.bool false)]) fun v98 =>
    std.bv (std.gt (std.gv v98 true) (some (AV.str op))) fun v99 =>
    std.bv (std.gt (std.gv v98 true) (std.ev (.bin .neq) [v99, (AV.str [70])])) fun v100 =>
    std.bv (std.ev .pick [v98, v100, (AV.bool false)]) fun v101 =>
    std.bv (std.gt (std.gv v101 true) (some (AV.str op))) fun v102 =>
    std.bv (std.gt (std.gv v101 true) (std.ev (.bin .neq) [v102, (AV.str [71])])) fun v103 =>
    std.bv (std.ev .pick [v101, v103, (AV.bool false)]) fun v104 =>
    std.bv (std.gt (std.gv v104 true) (some (AV.str op))) fun v105 =>
    std.bv (std.gt (std.gv v104 true) (std.ev (.bin .neq) [v105, (AV.str [33])])) fun v106 =>
    std.bv (std.gt (std.gv v104 true) (some v106)) fun v107 =>
    std.onG (std.gv v107 false) (
    std.bv (std.gt (std.gv v107 false) (std.part (Fm.mk op name false fs 0).av 2 1 false)) fun v108 =>
    std.bv (std.gt (std.gv v107 false) (std.ev (.idxAddr 4) [v108, (AV.int .i64 0)])) fun v109 =>
    std.bv (std.gt (std.gv v107 false) (std.ev (.fieldAddr 0) [v109])) fun v110 =>
    std.bv (std.gt (std.gv v107 false) (std.ev (.ld 1 false) [v110])) fun v111 =>
    std.bv (std.gt (std.gv v107 false) (std.ev (.bin .eql) [v111, (AV.str [108, 97, 98, 101, 108])])) fun v112 =>
    std.bv (std.gt (std.gv v104 true) (std.ev .pick [v107, (AV.bool true), v112])) fun v113 =>
    std.bv (std.ev .pick [v104, v113, (AV.bool false)]) fun v114 =>
    std.br (Wc 5 [(Fm.mk op name false fs 0).av] H0) fun v115 g116 =>
    std.bv (std.ev (.extract 0) [v115]) fun v117 =>
    std.bv (std.ev (.extract 1) [v115]) fun v118 =>
    std.bv (std.shape 4 true (AV.agg [.str [], .str [], .list true 4 [], .int .i64 0])) fun c119 =>
    std.bv (std.shape 4 true v117) fun c120 =>
    std.br (Wc 2 [(Fm.mk op name false fs 0).av] g116) fun v121 g122 =>
    std.bv (std.ev (.eq false .b) [v121, v114]) fun v123 =>
    std.bv (std.gt (std.gv v123 true) (some v118)) fun v124 =>
    std.bv (std.gt (std.gv v123 true) (std.ev (.eq false .i) [v124, (AV.nili)])) fun v125 =>
    std.bv (std.gt (std.gv v123 true) (some v114)) fun v126 =>
    std.bv (std.gt (std.gv v123 true) (std.ev (.eq false .b) [v125, v126])) fun v127 =>
    std.bv (std.ev .pick [v123, v127, (AV.bool false)]) fun v128 =>
    std.ret v128 g122
    ) (
    std.bv (std.gt (std.gv v107 false) none) fun v108 =>
    std.bv (std.gt (std.gv v107 false) (std.ev (.idxAddr 4) [v108, (AV.int .i64 0)])) fun v109 =>
    std.bv (std.gt (std.gv v107 false) (std.ev (.fieldAddr 0) [v109])) fun v110 =>
    std.bv (std.gt (std.gv v107 false) (std.ev (.ld 1 false) [v110])) fun v111 =>
    std.bv (std.gt (std.gv v107 false) (std.ev (.bin .eql) [v111, (AV.str [108, 97, 98, 101, 108])])) fun v112 =>
    std.bv (std.gt (std.gv v104 true) (std.ev .pick [v107, (AV.bool true), v112])) fun v113 =>
    std.bv (std.ev .pick [v104, v113, (AV.bool false)]) fun v114 =>
    std.br (Wc 5 [(Fm.mk op name false fs 0).av] H0) fun v115 g116 =>
    std.bv (std.ev (.extract 0) [v115]) fun v117 =>
    std.bv (std.ev (.extract 1) [v115]) fun v118 =>
    std.bv (std.shape 4 true (AV.agg [.str [], .str [], .list true 4 [], .int .i64 0])) fun c119 =>
    std.bv (std.shape 4 true v117) fun c120 =>
    std.br (Wc 2 [(Fm.mk op name false fs 0).av] g116) fun v121 g122 =>
    std.bv (std.ev (.eq false .b) [v121, v114]) fun v123 =>
    std.bv (std.gt (std.gv v123 true) (some v118)) fun v124 =>
    std.bv (std.gt (std.gv v123 true) (std.ev (.eq false .i) [v124, (AV.nili)])) fun v125 =>
    std.bv (std.gt (std.gv v123 true) (some v114)) fun v126 =>
    std.bv (std.gt (std.gv v123 true) (std.ev (.eq false .b) [v125, v126])) fun v127 =>
    std.bv (std.ev .pick [v123, v127, (AV.bool false)]) fun v128 =>
    std.ret v128 g122
    )) = some (.bool true, H0) := by
  have hfew : (Fm.mk op name false fs 0).few = true := few_form _ hform
  have tail := fun {r : Bool} (h : (Fm.mk op name false fs 0).isN = r) => odd_tail hfew h (by omega : (Fm.mk op name false fs 0).size ≤ 4096)
  have lit : ∀ {a c : List UInt8} {x : Bool}, (a == c) = x → (!(a == c)) = !x := fun h => by rw [h]
  rcases form_cases hform with ⟨rfl, ho⟩ | ⟨a, rfl, ha, ho⟩ | ⟨a, b, rfl, ha, hb', ho⟩
  · rw [Bool.or_eq_true, Bool.or_eq_true, beq_iff_eq, beq_iff_eq, beq_iff_eq] at ho
    have hN : (Fm.mk op name false [] 0).isN = true := isN0 (by rcases ho with (h | h) | h <;> simp [h])
    rw [show List.all ([] : List Fm) Fm.isN = true from rfl]
    rcases ho with (rfl | rfl) | rfl <;> (repeat' first | refine bv_s rfl ?_ | refine withK_s ?_) <;> refine onG_f rfl ?_ <;> (repeat' first | refine bv_s rfl ?_ | refine withK_s ?_) <;> exact tail hN
  · rw [Bool.or_eq_true, Bool.or_eq_true, Bool.or_eq_true, beq_iff_eq, beq_iff_eq, beq_iff_eq, beq_iff_eq] at ho
    rw [show List.all [a] Fm.isN = a.isN from by simp]
    rcases ho with ((rfl | rfl) | rfl) | rfl
    · cases hN : a.isN with
      | false =>
        (repeat' first | refine bv_s rfl ?_ | refine withK_s ?_)
        refine onG_u ?_
        (repeat' first | refine bv_s rfl ?_ | refine withK_s ?_)
        refine tail ?_
        obtain ⟨o', n', nl', ks', p'⟩ := a
        simp only [Fm.isN, notLabel]
        cases ho : (o' == oLabel) with
        | false => rfl
        | true =>
          rw [beq_iff_eq] at ho
          subst ho
          rcases form_cases ha with ⟨rfl, _⟩ | ⟨x, rfl, _, h⟩ | ⟨x, y, rfl, _, _, h⟩
          · rw [isN0 (by simp)] at hN; cases hN
          · exact absurd h (by decide)
          · exact absurd h (by decide)
      | true =>
        (repeat' first | refine bv_s rfl ?_ | refine withK_s ?_)
        refine onG_t rfl ?_
        obtain ⟨o', n', nl', ks', p'⟩ := a
        simp only [av_mk, List.map_cons, List.map_nil]
        (repeat' first | refine bv_s rfl ?_ | refine withK_s ?_)
        simp only [av_mk, List.map_cons, List.map_nil] at tail
        refine tail ?_
        simp only [Fm.isN, notLabel]
        show (o' == oLabel && ks'.isEmpty) = (o' == oLabel)
        cases ho : (o' == oLabel) with
        | false => rfl
        | true =>
          rw [beq_iff_eq] at ho
          subst ho
          rcases form_cases ha with ⟨rfl, _⟩ | ⟨x, rfl, _, h⟩ | ⟨x, y, rfl, _, _, h⟩
          · rfl
          · exact absurd h (by decide)
          · exact absurd h (by decide)
    · cases hN : a.isN with
      | false =>
        (repeat' first | refine bv_s rfl ?_ | refine withK_s ?_)
        refine onG_u ?_
        (repeat' first | refine bv_s rfl ?_ | refine withK_s ?_)
        exact tail (by simp [Fm.isN, Fm.isNs, hN])
      | true =>
        (repeat' first | refine bv_s rfl ?_ | refine withK_s ?_)
        refine onG_f rfl ?_
        (repeat' first | refine bv_s rfl ?_ | refine withK_s ?_)
        exact tail (by simp [Fm.isN, Fm.isNs, hN, kidsN])
    · cases hN : a.isN <;> (repeat' first | refine bv_s rfl ?_ | refine withK_s ?_) <;> refine onG_u ?_ <;> (repeat' first | refine bv_s rfl ?_ | refine withK_s ?_) <;> exact tail (by simp [Fm.isN])
    · cases hN : a.isN <;> (repeat' first | refine bv_s rfl ?_ | refine withK_s ?_) <;> refine onG_u ?_ <;> (repeat' first | refine bv_s rfl ?_ | refine withK_s ?_) <;> exact tail (by simp [Fm.isN])
  · rw [Bool.or_eq_true, Bool.or_eq_true, Bool.or_eq_true, Bool.or_eq_true, Bool.or_eq_true, beq_iff_eq, beq_iff_eq, beq_iff_eq, beq_iff_eq, beq_iff_eq, beq_iff_eq] at ho
    rw [show List.all [a, b] Fm.isN = (a.isN && b.isN) from by simp]
    cases hN : (a.isN && b.isN) with
    | false =>
      rcases ho with ((((rfl | rfl) | rfl) | rfl) | rfl) | rfl <;> (repeat' first | refine bv_s rfl ?_ | refine withK_s ?_) <;> refine onG_u ?_ <;> (repeat' first | refine bv_s rfl ?_ | refine withK_s ?_) <;> exact tail (by simp [Fm.isN, Fm.isNs, hN])
    | true =>
      rcases ho with ((((rfl | rfl) | rfl) | rfl) | rfl) | rfl <;> (repeat' first | refine bv_s rfl ?_ | refine withK_s ?_)
      · refine onG_f rfl ?_
        (repeat' first | refine bv_s rfl ?_ | refine withK_s ?_)
        exact tail (by simp [Fm.isN, Fm.isNs, hN, kidsN])
      · refine onG_f rfl ?_
        (repeat' first | refine bv_s rfl ?_ | refine withK_s ?_)
        exact tail (by simp [Fm.isN, Fm.isNs, hN, kidsN])
      · refine onG_u ?_
        (repeat' first | refine bv_s rfl ?_ | refine withK_s ?_)
        exact tail (by simp [Fm.isN])
      · refine onG_f rfl ?_
        (repeat' first | refine bv_s rfl ?_ | refine withK_s ?_)
        exact tail (by simp [Fm.isN, Fm.isNs, hN, kidsN])
      · refine onG_u ?_
        (repeat' first | refine bv_s rfl ?_ | refine withK_s ?_)
        exact tail (by simp [Fm.isN])
      · refine onG_f rfl ?_
        (repeat' first | refine bv_s rfl ?_ | refine withK_s ?_)
        exact tail (by simp [Fm.isN, Fm.isNs, hN, kidsN])
theorem isN_right {op name : List UInt8} {nl : Bool} {fs : List Fm} {p : Int} (h : (Fm.mk op name nl fs p).form = false) : (Fm.mk op name nl fs p).isN = false := by
  cases hN : (Fm.mk op name nl fs p).isN
  · rfl
  · rw [isN_form _ hN] at h; cases h
set_option maxHeartbeats 4000000 in
theorem end6 {op name : List UInt8} {nl : Bool} {ks : List (List UInt8)} {i : Nat} {b : Bool} {fs : List Fm} (K : St → R) (hi : i = ks.length) (hks : ks.length ≤ 4) (hb : b = fs.all Fm.isN) (hfl : fs.length ≤ 4) (hff : ∀ f ∈ fs, f.form = true ∧ f.size ≤ 100) :
    sh6_L2 std Wc K (.str op) (.list nl 1 (ks.map .str)) (.bool b) (.int .i64 (i : Nat)) (.agg [.str op, .str name, .list false 4 (fs.map av), .int .i64 0]) H0 = some (.bool true, H0) := by
  have hfew : (Fm.mk op name false fs 0).few = true := few_of (by omega) fun k hk => few_form k (hff k hk).1
  have hform : (Fm.mk op name false fs 0).form = (kidsN op == (fs.length : Int)) := by
    rw [form_mk]
    have : fs.all Fm.form = true := List.all_eq_true.2 fun k hk => (hff k hk).1
    rw [this, Bool.and_true]
  have hsz : (Fm.mk op name false fs 0).size ≤ 401 := by
    rw [Fm.size]
    have : ∀ l : List Fm, (∀ f ∈ l, f.size ≤ 100) → Fm.sizes l ≤ 100 * l.length := by
      intro l
      induction l with
      | nil => intro _; exact Nat.le_refl _
      | cons a l ih =>
        intro h
        have h1 := h a (by simp)
        have h2 := ih fun f hf => h f (by simp [hf])
        simp only [Fm.sizes, List.length_cons]; omega
    have := this fs fun f hf => (hff f hf).2
    omega
  unfold sh6_L2
  refine bv_s rfl ?_
  refine bv_s rfl ?_
  refine if_f (by subst hi; simp) ?_
  refine bv_s rfl ?_
  refine bv_s (v := .int .i64 (fs.length : Nat)) (by rw [std_ev]; simp [evalP]) ?_
  refine chain6 op fs.length _ _ ?_
  rw [← av_mk, ← hform]
  refine br_s (c3 (.mk op name false fs 0) false _ hfew) ?_
  rw [normal_eq]
  have tail := fun {r : Bool} (h : (Fm.mk op name false fs 0).isN = r) => odd_tail hfew h (by omega : (Fm.mk op name false fs 0).size ≤ 4096)
  cases hf : (Fm.mk op name false fs 0).form with
  | false =>
    rw [if_pos rfl]
    (repeat' first | refine bv_s rfl ?_ | refine withK_s ?_)
    refine br_s (gr_f rfl) ?_
    (repeat' first | refine bv_s rfl ?_ | refine withK_s ?_)
    refine br_s (gr_t rfl (c4 (errno 1) rfl _)) ?_
    (repeat' first | refine bv_s rfl ?_ | refine withK_s ?_)
    refine br_s (gr_f rfl) ?_
    (repeat' first | refine bv_s rfl ?_ | refine withK_s ?_)
    refine if_f rfl ?_
    (repeat' with_reducible first | refine k_pt ?_ | refine k_pf ?_ | refine k_es ?_ | refine k_ns ?_ | refine k_not ?_ | refine k_eb ?_ | refine k_nb ?_ | refine ktt_s ?_ | refine ktt_pt ?_ | refine ktt_pf ?_ | refine ktt_es ?_ | refine ktt_ns ?_ | refine ktt_not ?_ | refine ktt_eb ?_ | refine ktt_nb ?_ | refine kff_s ?_ | refine kff_pt ?_ | refine kff_pf ?_ | refine kff_es ?_ | refine kff_ns ?_ | refine kff_not ?_ | refine kff_eb ?_ | refine kff_nb ?_ | refine k_tf ?_ | refine k_ft ?_ | refine k_uu ?_ | refine k_ei ?_ | refine k_ni ?_ | refine ktt_ei ?_ | refine ktt_ni ?_ | refine kff_ei ?_ | refine kff_ni ?_)
    refine onG_u ?_
    (repeat' with_reducible first | refine k_pt ?_ | refine k_pf ?_ | refine k_es ?_ | refine k_ns ?_ | refine k_not ?_ | refine k_eb ?_ | refine k_nb ?_ | refine ktt_s ?_ | refine ktt_pt ?_ | refine ktt_pf ?_ | refine ktt_es ?_ | refine ktt_ns ?_ | refine ktt_not ?_ | refine ktt_eb ?_ | refine ktt_nb ?_ | refine kff_s ?_ | refine kff_pt ?_ | refine kff_pf ?_ | refine kff_es ?_ | refine kff_ns ?_ | refine kff_not ?_ | refine kff_eb ?_ | refine kff_nb ?_ | refine k_tf ?_ | refine k_ft ?_ | refine k_uu ?_ | refine k_ei ?_ | refine k_ni ?_ | refine ktt_ei ?_ | refine ktt_ni ?_ | refine kff_ei ?_ | refine kff_ni ?_)
    exact tail (isN_right hf)
  | true =>
    rw [if_neg (by simp), if_neg (show ¬ (Fm.mk op name false fs 0).size > 4096 by omega)]
    have right := odd_right hff hf hsz
    rw [← hb] at right
    by_cases hz : (nf (Fm.mk op name false fs 0) false).size > 4096
    · rw [if_pos hz]
      (repeat' first | refine bv_s rfl ?_ | refine withK_s ?_)
      refine br_s (gr_t rfl (c4 (errno 2) rfl _)) ?_
      (repeat' first | refine bv_s rfl ?_ | refine withK_s ?_)
      refine br_s (gr_t rfl (c4 (errno 2) rfl _)) ?_
      (repeat' first | refine bv_s rfl ?_ | refine withK_s ?_)
      refine br_s (gr_t rfl (c4 (errno 2) rfl _)) ?_
      (repeat' first | refine bv_s rfl ?_ | refine withK_s ?_)
      refine if_f rfl ?_
      exact right
    · rw [if_neg hz]
      (repeat' first | refine bv_s rfl ?_ | refine withK_s ?_)
      refine bv_s (shape_s _) ?_
      (repeat' first | refine bv_s rfl ?_ | refine withK_s ?_)
      refine br_s (gr_f rfl) ?_
      (repeat' first | refine bv_s rfl ?_ | refine withK_s ?_)
      refine br_s (gr_f rfl) ?_
      (repeat' first | refine bv_s rfl ?_ | refine withK_s ?_)
      refine br_s (gr_f rfl) ?_
      (repeat' first | refine bv_s rfl ?_ | refine withK_s ?_)
      refine if_f rfl ?_
      exact right
theorem law6 (op name : List UInt8) (nl : Bool) (ks : List (List UInt8)) : Wc 6 [.str op, .str name, .list nl 1 (ks.map .str)] H0 = some (.bool true, H0) := by
  refine w6 ?_
  unfold sh6
  refine br_s alive15 ?_
  (repeat' first | refine bv_s rfl ?_ | refine withK_s ?_ | refine if_t rfl ?_ | refine if_f rfl ?_)
  refine if_s (fun hl => ?_) (fun hl => ?_)
  · rfl
  have hlen : ks.length ≤ 4 := by simp at hl; omega
  (repeat' first | refine bv_s rfl ?_ | refine withK_s ?_)
  have := loop_ind (sh6_L2_F Wc) (σ := Nat × Bool × List Fm)
    (fun x => x.1 ≤ ks.length ∧ x.2.2.length ≤ x.1 ∧ x.2.1 = x.2.2.all Fm.isN ∧ ∀ f ∈ x.2.2, f.form = true ∧ f.size ≤ 100)
    (fun x => ([.str op, .list nl 1 (ks.map .str), .bool x.2.1, .int .i64 (x.1 : Nat), .agg [.str op, .str name, .list false 4 (x.2.2.map av), .int .i64 0]], H0)) (fun x => ks.length - x.1)
    (fun x => (.bool true, H0)) (fun K x hi hK => by
      obtain ⟨i, b, fs⟩ := x
      obtain ⟨h1, h2, h3, h4⟩ := hi
      dsimp only at h1 h2 h3 h4
      show sh6_L2 std Wc K (.str op) (.list nl 1 (ks.map .str)) (.bool b) (.int .i64 (i : Nat)) (.agg [.str op, .str name, .list false 4 (fs.map av), .int .i64 0]) H0 = _
      by_cases hlt : i < ks.length
      · refine step6 K hlt hlen h3 h2 (fun f hf => few_form f (h4 f hf).1) (fun hle f hp => ?_) ?_
        · obtain ⟨q1, q2⟩ := parse_form hp
          refine hK (i + 1, (fs ++ [f]).all Fm.isN, fs ++ [f]) ⟨hlt, by simp; omega, rfl, ?_⟩ (by dsimp only; omega)
          intro g hg
          rcases List.mem_append.1 hg with hg | hg
          · exact h4 g hg
          · simp at hg; subst hg; exact ⟨q1, by omega⟩
        · exact hK (i + 1, b, fs) ⟨hlt, by dsimp only; omega, h3, h4⟩ (by dsimp only; omega)
      · exact end6 K (by omega) hlen h3 (by omega) h4) (0, true, []) ⟨by simp, by simp, rfl, by simp⟩
  exact this
end Go.Abs
