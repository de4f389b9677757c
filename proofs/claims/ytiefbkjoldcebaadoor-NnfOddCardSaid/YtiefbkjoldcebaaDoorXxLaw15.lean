/- The laws of layer 15, on abstract values: NnfTwice, NnfOdd. -/
import Derived.Test.YtiefbkjoldcebaaDoorXxPl15
namespace Go.Abs
open Fm

abbrev H0 : H := ⟨[], []⟩
set_option maxRecDepth 100000 in
theorem alive15n : callN T X 40 0 [] H0 = some (.bool true, H0) := by kernel_rfl
theorem alive15 : Wc 0 [] H0 = some (.bool true, H0) := (callW_iff T X 0 [] H0 _).2 ⟨40, alive15n⟩
theorem perr_not (e : Option Int × Int) : std.ev (.eq true .i) [perrAV e, .nili] = some (.bool true) := by
  obtain ⟨p, n⟩ := e; cases p <;> rfl
theorem perr_eq (e : Option Int × Int) : std.ev (.eq false .i) [perrAV e, .nili] = some (.bool false) := by
  obtain ⟨p, n⟩ := e; cases p <;> rfl
theorem few_isN {f : Fm} (h : f.isN = true) : f.few = true := few_form f (isN_form f h)
theorem same_true {a b : Fm} (h : a.er = b.er) : a.same b = true := (same_er a b).2 h
theorem law8 (s : List UInt8) : Wc 8 [.str s] H0 = some (.bool true, H0) := by
  refine w8 ?_
  unfold sh8
  refine br_s alive15 ?_
  (repeat' first | refine bv_s rfl ?_ | refine withK_s ?_ | refine if_t rfl ?_ | refine if_f rfl ?_)
  refine if_s (fun hl => ?_) (fun hl => ?_)
  · rfl
  have hlen : s.length ≤ 200 := by simp at hl; omega
  refine br_s (c1 s 64 _) ?_
  cases hp : parse s 64 with
  | error e =>
    (repeat' first | refine bv_s rfl ?_ | refine withK_s ?_)
    refine bv_s (perr_not e) ?_
    (repeat' first | refine bv_s rfl ?_ | refine withK_s ?_ | refine if_t rfl ?_ | refine if_f rfl ?_)
    rfl
  | ok f =>
    obtain ⟨hf, hsz⟩ := parse_form hp
    have hfew := few_form f hf
    (repeat' first | refine bv_s rfl ?_ | refine withK_s ?_)
    refine bv_s (shape_s _) ?_
    (repeat' first | refine bv_s rfl ?_ | refine withK_s ?_ | refine if_t rfl ?_ | refine if_f rfl ?_)
    have e0 : ¬ (f.form = false) := by rw [hf]; simp
    refine br_s (c3 f false _ hfew) ?_
    rw [normal_eq f false, if_neg e0, if_neg (show ¬ f.size > 4096 by omega)]
    obtain ⟨xN, xC⟩ := nf_isN f hf false
    generalize nf f false = x at xN xC
    by_cases hx : x.size > 4096
    · rw [if_pos hx]
      (repeat' first | refine bv_s rfl ?_ | refine withK_s ?_ | refine if_t rfl ?_ | refine if_f rfl ?_)
      refine br_s (c4 (errno 2) rfl _) ?_
      (repeat' first | refine bv_s rfl ?_ | refine withK_s ?_)
      rfl
    rw [if_neg hx]
    have xF := isN_form x xN
    have xf := few_isN xN
    have e1 : ¬ (x.form = false) := by rw [xF]; simp
    (repeat' first | refine bv_s rfl ?_ | refine withK_s ?_)
    refine bv_s (shape_s _) ?_
    (repeat' first | refine bv_s rfl ?_ | refine withK_s ?_ | refine if_t rfl ?_ | refine if_f rfl ?_)
    refine br_s (c3 x false _ xf) ?_
    have ex : (nf x false).er = x.er := nf_id x xN xC
    have sx : (nf x false).size = x.size := by rw [← er_size, ex, er_size]
    rw [normal_eq x false, if_neg e1, if_neg hx, if_neg (show ¬ (nf x false).size > 4096 by omega)]
    (repeat' first | refine bv_s rfl ?_ | refine withK_s ?_)
    refine bv_s (shape_s _) ?_
    refine br_s (c3 x true _ xf) ?_
    -- the rest, whatever turning gives
    have zS : shape 4 true (normal x true).1.av = some (normal x true).1.av := shape_av _
    (repeat' first | refine bv_s rfl ?_ | refine withK_s ?_)
    refine bv_s (shape_s _) ?_
    (repeat' first | refine bv_s rfl ?_ | refine withK_s ?_)
    refine br_s (gr_t rfl (c7 x xf (nf x false) _)) ?_
    rw [same_true ex.symm]
    refine bv_s rfl ?_
    (repeat' first | refine bv_s rfl ?_ | refine withK_s ?_ | refine if_t rfl ?_ | refine if_f rfl ?_)
    have sf := simp_isN x xN
    have ss := simp_size x
    refine br_s (c5 x xf _) ?_
    have s1 : simple x = (x.simp, .nili) := by rw [simple, if_neg (by rw [xN]; simp), if_neg hx]
    rw [s1]
    (repeat' first | refine bv_s rfl ?_ | refine withK_s ?_)
    refine bv_s (shape_s _) ?_
    refine br_s (c5 x.simp (few_isN sf) _) ?_
    have s2 : simple x.simp = (x.simp.simp, .nili) := by rw [simple, if_neg (by rw [sf]; simp), if_neg (by omega)]
    rw [s2]
    (repeat' first | refine bv_s rfl ?_ | refine withK_s ?_)
    refine bv_s (shape_s _) ?_
    (repeat' first | refine bv_s rfl ?_ | refine withK_s ?_)
    refine br_s (gr_t rfl (c7 x.simp (few_isN sf) x.simp.simp _)) ?_
    rw [same_true (simp_idem x).symm]
    (repeat' first | refine bv_s rfl ?_ | refine withK_s ?_ | refine if_t rfl ?_ | refine if_f rfl ?_)
    rw [normal_eq x true, if_neg e1, if_neg hx]
    obtain ⟨zN, zC⟩ := nf_isN x xF true
    by_cases hz : (nf x true).size > 4096
    · rw [if_pos hz]
      (repeat' first | refine bv_s rfl ?_ | refine withK_s ?_ | refine if_t rfl ?_ | refine if_f rfl ?_)
      refine br_s (c4 (errno 2) rfl _) ?_
      (repeat' first | refine bv_s rfl ?_ | refine withK_s ?_)
      rfl
    rw [if_neg hz]
    (repeat' first | refine bv_s rfl ?_ | refine withK_s ?_ | refine if_t rfl ?_ | refine if_f rfl ?_)
    have e2 : ¬ ((nf x true).form = false) := by rw [isN_form _ zN]; simp
    have ez : (nf (nf x true) true).er = x.er := nf_dual x xN xC
    have sz : (nf (nf x true) true).size = x.size := by rw [← er_size, ez, er_size]
    refine br_s (c3 (nf x true) true _ (few_isN zN)) ?_
    rw [normal_eq (nf x true) true, if_neg e2, if_neg hz, if_neg (show ¬ (nf (nf x true) true).size > 4096 by omega)]
    (repeat' first | refine bv_s rfl ?_ | refine withK_s ?_)
    refine bv_s (shape_s _) ?_
    (repeat' first | refine bv_s rfl ?_ | refine withK_s ?_)
    have uf : (nf (nf x true) true).few = true := few_isN (nf_isN _ (isN_form _ zN) true).1
    refine br_s (gr_t rfl (c7 _ uf x _)) ?_
    rw [same_true ez]
    (repeat' first | refine bv_s rfl ?_ | refine withK_s ?_)
    rfl
end Go.Abs
