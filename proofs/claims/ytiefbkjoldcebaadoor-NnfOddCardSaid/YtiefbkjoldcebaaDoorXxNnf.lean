/- nnf: the small functions; make; Normal. -/
import Derived.Test.YtiefbkjoldcebaaDoorXxFm
namespace Go.Abs
open Fm

def plain (op : List UInt8) : Fm := .mk op [] true [] 0
def node (op : List UInt8) (ks : List Fm) : Fm := .mk op [] false ks 0
def dual (op : List UInt8) : List UInt8 :=
  if op == oTrue then oFalse else if op == oFalse then oTrue else if op == oAnd then oOr else if op == oOr then oAnd else if op == oU then oR else if op == oR then oU else op
def dn (op : List UInt8) (not : Bool) : List UInt8 := if not then dual op else op

theorem c33 (op : List UInt8) (h : H) : Wc 33 [.str op] h = some ((plain op).av, h) := by
  refine w33 ?_
  rw [plain, av_mk]
  unfold sh33
  (repeat' first | refine bv_s rfl ?_ | refine withK_s ?_)
  rfl
theorem c29 (op : List UInt8) (ks : List Fm) (h : H) : Wc 29 [.str op, .list false 4 (ks.map av)] h = some ((node op ks).av, h) := by
  refine w29 ?_
  rw [node, av_mk]
  unfold sh29
  (repeat' first | refine bv_s rfl ?_ | refine withK_s ?_)
  rfl
theorem c28 (op : List UInt8) (h : H) : Wc 28 [.str op] h = some (.str (dual op), h) := by
  refine w28 ?_
  unfold sh28
  (repeat' first | refine bv_s rfl ?_ | refine withK_s ?_)
  refine if_s (fun h1 => ?_) (fun h1 => ?_)
  · simp [dual, h1]; rfl
  (repeat' first | refine bv_s rfl ?_ | refine withK_s ?_)
  refine if_s (fun h2 => ?_) (fun h2 => ?_)
  · simp [dual, h1, h2]; rfl
  (repeat' first | refine bv_s rfl ?_ | refine withK_s ?_)
  refine if_s (fun h3 => ?_) (fun h3 => ?_)
  · simp [dual, h1, h2, h3]; rfl
  (repeat' first | refine bv_s rfl ?_ | refine withK_s ?_)
  refine if_s (fun h4 => ?_) (fun h4 => ?_)
  · simp [dual, h1, h2, h3, h4]; rfl
  (repeat' first | refine bv_s rfl ?_ | refine withK_s ?_)
  refine if_s (fun h5 => ?_) (fun h5 => ?_)
  · simp [dual, h1, h2, h3, h4, h5]; rfl
  (repeat' first | refine bv_s rfl ?_ | refine withK_s ?_)
  refine if_s (fun h6 => ?_) (fun h6 => ?_)
  · simp [dual, h1, h2, h3, h4, h5, h6]; rfl
  · simp [dual, h1, h2, h3, h4, h5, h6]; rfl

/-! ### The maker: a block of one number -/
def mk1 (h : H) (b : Nat) (l : Int) : H := h.set b (.cells 1 true (.agg [.int .i64 l]) [])
theorem get_mk1 {h : H} {b : Nat} (hb : b < h.size) (l : Int) : (mk1 h b l).get b = some (.cells 1 true (.agg [.int .i64 l]) []) := by
  simp only [mk1, H.set, H.get]
  simp only [H.size] at hb
  simp [hb]
theorem mk1_mk1 (h : H) (b : Nat) (l l' : Int) : mk1 (mk1 h b l) b l' = mk1 h b l' := by
  simp [mk1, H.set, List.set_set]
theorem hload_mk1 {h : H} {b : Nat} (hb : b < h.size) (l : Int) : std.hload (mk1 h b l) (.ptr b 0 0) 1 false = some (.int .i64 l) := by
  rw [std_hload]
  simp only [hload, get_mk1 hb]
  rfl
theorem hstore_mk1 {h : H} {b : Nat} (hb : b < h.size) (l l' : Int) : std.hstore (mk1 h b l) (.ptr b 0 0) (.int .i64 l') 1 false = some (mk1 h b l') := by
  rw [std_hstore]
  have hm : mayStore (mk1 h b l) b (.int .i64 l') = true := by
    simp only [mayStore, List.all_eq_true]
    intro fl _
    simp [AV.under]
  simp only [hstore, get_mk1 hb, hm]
  show some (H.set (mk1 h b l) b (.cells 1 true (.agg [.int .i64 l']) [])) = _
  simp [mk1, H.set, List.set_set]
theorem c27 {h : H} {b : Nat} (hb : b < h.size) {l : Int} (h1 : -4611686018427387904 ≤ l) (h2 : l ≤ 4611686018427387904) :
    Wc 27 [.ptr b 0 0] (mk1 h b l) = some (.bool (decide (l - 1 < 0)), mk1 h b (l - 1)) := by
  refine w27 ?_
  unfold sh27
  (repeat' first | refine bv_s rfl ?_ | refine withK_s ?_)
  refine bv_s (hload_mk1 hb l) ?_
  (repeat' first | refine bv_s rfl ?_ | refine withK_s ?_)
  rw [wrap64 (by omega) (by omega)]
  refine bh_s (hstore_mk1 hb l _) ?_
  (repeat' first | refine bv_s rfl ?_ | refine withK_s ?_)
  refine bv_s (hload_mk1 hb _) ?_
  (repeat' first | refine bv_s rfl ?_ | refine withK_s ?_)
  rfl

def make : Fm → Bool → Int → Fm × Int
  | .mk o n _ ks _, not, l =>
    if l - 1 < 0 then (zero, l - 1) else
    match ks with
    | [] => if o == oLabel then
        (if not then (if l - 1 - 1 < 0 then (.mk oLabel n true [] 0, l - 1 - 1) else (node oNot [.mk oLabel n true [] 0], l - 1 - 1)) else (.mk oLabel n true [] 0, l - 1))
      else (plain (dn o not), l - 1)
    | [a] => if o == oNot then make a (!not) (l - 1 + 1)
      else if o == oX then (node oX [(make a not (l - 1)).1], (make a not (l - 1)).2)
      else if (o == oF) != not then (node oU [plain oTrue, (make a not (l - 1 - 1)).1], (make a not (l - 1 - 1)).2)
      else (node oR [plain oFalse, (make a not (l - 1 - 1)).1], (make a not (l - 1 - 1)).2)
    | [a, b] =>
      if o == oImp then
        (if not then
          (node oAnd [(make a false (l - 1)).1, (make b true (make a false (l - 1)).2).1], (make b true (make a false (l - 1)).2).2)
        else (node oOr [(make a true (l - 1)).1, (make b false (make a true (l - 1)).2).1], (make b false (make a true (l - 1)).2).2))
      else if o == oW then
        let g := make b not (l - 1 - 1)
        let x := make a not g.2
        let y := make b not x.2
        (node (if not then oU else oR) [g.1, node (if not then oAnd else oOr) [x.1, y.1]], y.2)
      else (node (dn o not) [(make a not (l - 1)).1, (make b not (make a not (l - 1)).2).1], (make b not (make a not (l - 1)).2).2)
    | _ => (zero, l - 1)
def Fm.depth : Fm → Nat
  | .mk _ _ _ [] _ => 1
  | .mk _ _ _ [a] _ => Fm.depth a + 1
  | .mk _ _ _ [a, b] _ => max (Fm.depth a) (Fm.depth b) + 1
  | .mk _ _ _ (_ :: _ :: _ :: _) _ => 1

theorem depth1 (f : Fm) : 1 ≤ f.depth := by
  obtain ⟨o, n, nl, ks, p⟩ := f
  rcases ks with _ | ⟨a, _ | ⟨b, _ | ⟨c, r⟩⟩⟩ <;> simp [Fm.depth]
theorem make_bounds (f : Fm) : ∀ not l, min (l - 1) (-3 * (f.depth : Int)) ≤ (make f not l).2 ∧ (make f not l).2 ≤ l - 1 := by
  induction f using Fm.ind with
  | h o n nl ks p ih =>
    intro not l
    unfold make
    split
    · dsimp only; omega
    · rename_i hl
      rcases ks with _ | ⟨a, _ | ⟨b, _ | ⟨c, r⟩⟩⟩
      · simp only [Fm.depth]
        repeat' split
        all_goals dsimp only; omega
      · have ha := depth1 a
        have ih := ih a (by simp)
        simp only [Fm.depth]
        repeat' split
        · have := ih (!not) (l - 1 + 1); omega
        · have := ih not (l - 1); dsimp only; omega
        · have := ih not (l - 1 - 1); dsimp only; omega
        · have := ih not (l - 1 - 1); dsimp only; omega
      · have ha := depth1 a
        have hb := depth1 b
        have iha := ih a (by simp)
        have ihb := ih b (by simp)
        simp only [Fm.depth]
        split
        · split
          · have := iha false (l - 1); have := ihb true (make a false (l - 1)).2; dsimp only; omega
          · have := iha true (l - 1); have := ihb false (make a true (l - 1)).2; dsimp only; omega
        · split
          · have := ihb not (l - 1 - 1); have := iha not (make b not (l - 1 - 1)).2; have := ihb not (make a not (make b not (l - 1 - 1)).2).2; dsimp only; omega
          · have := iha not (l - 1); have := ihb not (make a not (l - 1)).2; dsimp only; omega
      · dsimp only; omega

def MkOK (f : Fm) : Prop := ∀ (h : H) (b : Nat) (not : Bool) (l : Int), b < h.size → -1000000000 ≤ l → l ≤ 1000000000 →
  Wc 17 [.ptr b 0 0, f.av, .bool not] (mk1 h b l) = some ((make f not l).1.av, mk1 h b (make f not l).2)

theorem c30 {x y : Fm} (hx : MkOK x) (hy : MkOK y) (op o n : List UInt8) (nl : Bool) (p : Int) (s t : Bool) {h : H} {b : Nat} {l : Int} (hb : b < h.size) (h1 : -1000000 ≤ l) (h2 : l ≤ 1000000000) (hd : x.depth ≤ 1000000) :
    Wc 30 [.ptr b 0 0, .str op, (Fm.mk o n nl [x, y] p).av, .bool s, .bool t] (mk1 h b l) =
      some ((node op [(make x s l).1, (make y t (make x s l).2).1]).av, mk1 h b (make y t (make x s l).2).2) := by
  refine w30 ?_
  rw [av_mk]
  unfold sh30
  (repeat' first | refine bv_s rfl ?_ | refine withK_s ?_)
  refine bv_s (ld_av _) ?_
  refine br_s (hx h b s l hb (by omega) (by omega)) ?_
  have := make_bounds x s l
  (repeat' first | refine bv_s rfl ?_ | refine withK_s ?_)
  refine bv_s (shape_s _) ?_
  (repeat' first | refine bv_s rfl ?_ | refine withK_s ?_)
  refine bv_s (ld_av _) ?_
  refine br_s (hy h b t _ hb (by omega) (by omega)) ?_
  (repeat' first | refine bv_s rfl ?_ | refine withK_s ?_)
  refine bv_s (shape_s _) ?_
  refine bv_s (mkl2 _ _) ?_
  refine br_s (c29 op [_, _] _) ?_
  refine bv_s (shape_s _) ?_
  rfl
theorem c31 {x : Fm} (hx : MkOK x) (o n : List UInt8) (nl : Bool) (p : Int) (not : Bool) {h : H} {b : Nat} {l : Int} (hb : b < h.size) (h1 : -1000000 ≤ l) (h2 : l ≤ 1000000000) :
    Wc 31 [.ptr b 0 0, (Fm.mk o n nl [x] p).av, .bool not] (mk1 h b l) =
      some ((if (o == oF) != not then (node oU [plain oTrue, (make x not (l - 1)).1], (make x not (l - 1)).2) else (node oR [plain oFalse, (make x not (l - 1)).1], (make x not (l - 1)).2)).1.av,
        mk1 h b (if (o == oF) != not then (node oU [plain oTrue, (make x not (l - 1)).1], (make x not (l - 1)).2) else (node oR [plain oFalse, (make x not (l - 1)).1], (make x not (l - 1)).2)).2) := by
  refine w31 ?_
  rw [av_mk]
  unfold sh31
  (repeat' first | refine bv_s rfl ?_ | refine withK_s ?_)
  refine br_s (c27 hb (by omega) (by omega)) ?_
  (repeat' first | refine bv_s rfl ?_ | refine withK_s ?_)
  refine if_s (fun hc => ?_) (fun hc => ?_)
  · have hc' : ((o == oF) != not) = true := hc
    rw [if_pos hc']
    refine br_s (c33 _ _) ?_
    (repeat' first | refine bv_s rfl ?_ | refine withK_s ?_)
    refine bv_s (ld_av _) ?_
    refine br_s (hx h b not _ hb (by omega) (by omega)) ?_
    refine bv_s (mkl2 _ _) ?_
    refine br_s (c29 oU [plain oTrue, _] _) ?_
    refine bv_s (shape_s _) ?_
    rfl
  · have hc' : ((o == oF) != not) = false := hc
    rw [hc']
    refine br_s (c33 _ _) ?_
    (repeat' first | refine bv_s rfl ?_ | refine withK_s ?_)
    refine bv_s (ld_av _) ?_
    refine br_s (hx h b not _ hb (by omega) (by omega)) ?_
    refine bv_s (mkl2 _ _) ?_
    refine br_s (c29 oR [plain oFalse, _] _) ?_
    refine bv_s (shape_s _) ?_
    rfl
theorem c32 {x y : Fm} (hx : MkOK x) (hy : MkOK y) (o n : List UInt8) (nl : Bool) (p : Int) (not : Bool) {h : H} {b : Nat} {l : Int} (hb : b < h.size) (h1 : -100000 ≤ l) (h2 : l ≤ 1000000000)
    (hdx : x.depth ≤ 100000) (hdy : y.depth ≤ 100000) :
    Wc 32 [.ptr b 0 0, (Fm.mk o n nl [x, y] p).av, .bool not] (mk1 h b l) =
      (let g := make y not (l - 1)
       let x' := make x not g.2
       let y' := make y not x'.2
       some ((node (if not then oU else oR) [g.1, node (if not then oAnd else oOr) [x'.1, y'.1]]).av, mk1 h b y'.2)) := by
  dsimp only
  refine w32 ?_
  have key : sh32_J1 std Wc (.ptr b 0 0) (.bool not) (.ro (Fm.mk o n nl [x, y] p).av 0) (.str (if not then oU else oR)) (.str (if not then oAnd else oOr)) zero.av (mk1 h b (l - 1)) = some ((node (if not then oU else oR) [(make y not (l - 1)).1, node (if not then oAnd else oOr) [(make x not (make y not (l - 1)).2).1, (make y not (make x not (make y not (l - 1)).2).2).1]]).av, mk1 h b (make y not (make x not (make y not (l - 1)).2).2).2) := by
    have b1 := make_bounds y not (l - 1)
    unfold sh32_J1
    rw [av_mk]
    (repeat' first | refine bv_s rfl ?_ | refine withK_s ?_)
    refine bv_s (ld_av _) ?_
    refine br_s (hy h b not _ hb (by omega) (by omega)) ?_
    (repeat' first | refine bv_s rfl ?_ | refine withK_s ?_)
    refine bv_s (shape_s _) ?_
    refine bv_s rfl ?_
    have e := c30 hx hy (if not then oAnd else oOr) o n nl p not not hb (l := (make y not (l - 1)).2) (by omega) (by omega) (by omega)
    rw [av_mk] at e
    refine br_s e ?_
    refine bv_s (mkl2 _ _) ?_
    refine br_s (c29 _ [_, _] _) ?_
    refine bv_s (shape_s _) ?_
    rfl
  unfold sh32
  refine bv_s (box_av _) ?_
  refine bv_s rfl ?_
  refine br_s (c27 hb (by omega) (by omega)) ?_
  refine withK_s ?_
  refine if_s (fun hc => ?_) (fun hc => ?_)
  · rw [hc] at key ⊢; exact key
  · rw [hc] at key ⊢; exact key

/-! ### make -/
theorem form_cases {o n : List UInt8} {nl : Bool} {ks : List Fm} {p : Int} (hf : (Fm.mk o n nl ks p).form = true) :
    (ks = [] ∧ (o == oTrue || o == oFalse || o == oLabel) = true) ∨ (∃ a, ks = [a] ∧ a.form = true ∧ (o == oNot || o == oX || o == oF || o == oG) = true) ∨
    (∃ a b, ks = [a, b] ∧ a.form = true ∧ b.form = true ∧ (o == oAnd || o == oOr || o == oImp || o == oU || o == oW || o == oR) = true) := by
  rw [form_mk, Bool.and_eq_true, beq_iff_eq] at hf
  obtain ⟨h1, h2⟩ := hf
  unfold kidsN at h1
  split at h1
  · rename_i hh
    have : ks = [] := List.length_eq_zero_iff.1 (by omega)
    exact .inl ⟨this, hh⟩
  · split at h1
    · rename_i hh
      obtain ⟨a, rfl⟩ := List.length_eq_one_iff.1 (show ks.length = 1 by omega)
      simp at h2
      exact .inr (.inl ⟨a, rfl, h2, hh⟩)
    · split at h1
      · rename_i hh
        rcases ks with _ | ⟨a, _ | ⟨b, _ | ⟨c, r⟩⟩⟩ <;> simp only [List.length_nil, List.length_cons] at h1 <;> try omega
        simp at h2
        exact .inr (.inr ⟨a, b, rfl, h2.1, h2.2, hh⟩)
      · omega

theorem beq_ne {a b c : List UInt8} (h : (a == b) = true) (hn : (b == c) = false) : (a == c) = false := by
  rw [beq_iff_eq] at h; subst h; exact hn
theorem c17 (f : Fm) (hf : f.form = true) (hd : f.depth ≤ 100000) : MkOK f := by
  induction f using Fm.ind with
  | h o n nl ks p ih =>
    intro h b not l hb h1 h2
    refine w17 ?_
    unfold sh17
    refine bv_s (box_av _) ?_
    refine bv_s rfl ?_
    refine br_s (c27 hb (by omega) (by omega)) ?_
    refine if_s (fun hs => ?_) (fun hs => ?_)
    · have hs' : l - 1 < 0 := by simpa using hs
      unfold make
      rw [if_pos hs']
      (repeat' first | refine bv_s rfl ?_ | refine withK_s ?_)
      rfl
    have hs' : ¬ (l - 1 < 0) := by simpa using hs
    rw [av_mk]
    (repeat' first | refine bv_s rfl ?_ | refine withK_s ?_)
    -- the main part, whatever the operation's turn
    have key : sh17_J5 std Wc (.ptr b 0 0) (.bool not) (.ro (Fm.mk o n nl ks p).av 0) (.str (dn o not)) zero.av (mk1 h b (l - 1)) = some ((make (.mk o n nl ks p) not l).1.av, mk1 h b (make (.mk o n nl ks p) not l).2) := by
      rw [av_mk]
      unfold sh17_J5
      (repeat' first | refine bv_s rfl ?_ | refine withK_s ?_)
      unfold make
      rw [if_neg hs']
      rcases form_cases hf with ⟨rfl, ho⟩ | ⟨a, rfl, ha, ho⟩ | ⟨a, b', rfl, ha, hb', ho⟩
      · rw [Bool.or_eq_true, Bool.or_eq_true, beq_iff_eq, beq_iff_eq, beq_iff_eq] at ho
        rcases ho with (rfl | rfl) | rfl
        · (repeat' first | refine bv_s rfl ?_ | refine withK_s ?_ | refine if_t rfl ?_ | refine if_f rfl ?_)
          refine br_s (c33 _ _) ?_
          refine bv_s (shape_s _) ?_
          rfl
        · (repeat' first | refine bv_s rfl ?_ | refine withK_s ?_ | refine if_t rfl ?_ | refine if_f rfl ?_)
          refine br_s (c33 _ _) ?_
          refine bv_s (shape_s _) ?_
          rfl
        · (repeat' first | refine bv_s rfl ?_ | refine withK_s ?_ | refine if_t rfl ?_ | refine if_f rfl ?_)
          cases not with
          | false =>
            refine bv_s (gt_f rfl) ?_
            refine br_s (gr_f rfl) ?_
            refine bv_s (gt_f rfl) ?_
            (repeat' first | refine bv_s rfl ?_ | refine withK_s ?_ | refine if_t rfl ?_ | refine if_f rfl ?_)
            rfl
          | true =>
            refine bv_s (gt_t rfl rfl) ?_
            refine br_s (gr_t rfl (c27 hb (by omega) (by omega))) ?_
            refine bv_s (gt_t rfl rfl) ?_
            (repeat' first | refine bv_s rfl ?_ | refine withK_s ?_ | refine if_t rfl ?_ | refine if_f rfl ?_)
            refine if_s (fun g2 => ?_) (fun g2 => ?_)
            · have g2' : ¬ (l - 1 - 1 < 0) := by simpa using g2
              dsimp only
              rw [if_pos (by rfl), if_pos rfl, if_neg g2']
              (repeat' first | refine bv_s rfl ?_ | refine withK_s ?_)
              refine br_s (c29 oNot [Fm.mk oLabel n true [] 0] _) ?_
              refine bv_s (shape_s _) ?_
              rfl
            · have g2' : (l - 1 - 1 < 0) := by simpa using g2
              dsimp only
              rw [if_pos (by rfl), if_pos rfl, if_pos g2']
              (repeat' first | refine bv_s rfl ?_ | refine withK_s ?_)
              rfl
      · have iha := ih a (by simp) ha (by simp only [Fm.depth] at hd; omega)
        rw [Bool.or_eq_true, Bool.or_eq_true, Bool.or_eq_true, beq_iff_eq, beq_iff_eq, beq_iff_eq, beq_iff_eq] at ho
        rcases ho with ((rfl | rfl) | rfl) | rfl
        · (repeat' first | refine bv_s rfl ?_ | refine withK_s ?_ | refine if_t rfl ?_ | refine if_f rfl ?_)
          refine bv_s (hload_mk1 hb _) ?_
          (repeat' first | refine bv_s rfl ?_ | refine withK_s ?_ | refine if_t rfl ?_ | refine if_f rfl ?_)
          rw [wrap64 (by omega) (by omega)]
          refine bh_s (hstore_mk1 hb _ _) ?_
          (repeat' first | refine bv_s rfl ?_ | refine withK_s ?_ | refine if_t rfl ?_ | refine if_f rfl ?_)
          refine bv_s (ld_av _) ?_
          (repeat' first | refine bv_s rfl ?_ | refine withK_s ?_ | refine if_t rfl ?_ | refine if_f rfl ?_)
          refine br_s (iha h b (!not) _ hb (by omega) (by omega)) ?_
          refine bv_s (shape_s _) ?_
          rfl
        · (repeat' first | refine bv_s rfl ?_ | refine withK_s ?_ | refine if_t rfl ?_ | refine if_f rfl ?_)
          refine bv_s (ld_av _) ?_
          refine br_s (iha h b not _ hb (by omega) (by omega)) ?_
          refine bv_s (mkl1 _) ?_
          refine br_s (c29 oX [_] _) ?_
          refine bv_s (shape_s _) ?_
          rfl
        · (repeat' first | refine bv_s rfl ?_ | refine withK_s ?_ | refine if_t rfl ?_ | refine if_f rfl ?_)
          have e := c31 iha oF n nl p not hb (l := l - 1) (by omega) (by omega)
          rw [av_mk] at e
          refine br_s e ?_
          refine bv_s (shape_s _) ?_
          rfl
        · (repeat' first | refine bv_s rfl ?_ | refine withK_s ?_ | refine if_t rfl ?_ | refine if_f rfl ?_)
          have e := c31 iha oG n nl p not hb (l := l - 1) (by omega) (by omega)
          rw [av_mk] at e
          refine br_s e ?_
          refine bv_s (shape_s _) ?_
          rfl
      · have iha := ih a (by simp) ha (by simp only [Fm.depth] at hd; omega)
        have ihb := ih b' (by simp) hb' (by simp only [Fm.depth] at hd; omega)
        have hda : a.depth ≤ 100000 := by simp only [Fm.depth] at hd; omega
        have hdb : b'.depth ≤ 100000 := by simp only [Fm.depth] at hd; omega
        rw [Bool.or_eq_true, Bool.or_eq_true, Bool.or_eq_true, Bool.or_eq_true, Bool.or_eq_true, beq_iff_eq, beq_iff_eq, beq_iff_eq, beq_iff_eq, beq_iff_eq, beq_iff_eq] at ho
        rcases ho with ((((rfl | rfl) | rfl) | rfl) | rfl) | rfl
        · (repeat' first | refine bv_s rfl ?_ | refine withK_s ?_ | refine if_t rfl ?_ | refine if_f rfl ?_)
          have e := c30 iha ihb (dn oAnd not) oAnd n nl p not not hb (l := l - 1) (by omega) (by omega) (by omega)
          rw [av_mk] at e
          refine br_s e ?_
          refine bv_s (shape_s _) ?_
          rfl
        · (repeat' first | refine bv_s rfl ?_ | refine withK_s ?_ | refine if_t rfl ?_ | refine if_f rfl ?_)
          have e := c30 iha ihb (dn oOr not) oOr n nl p not not hb (l := l - 1) (by omega) (by omega) (by omega)
          rw [av_mk] at e
          refine br_s e ?_
          refine bv_s (shape_s _) ?_
          rfl
        · (repeat' first | refine bv_s rfl ?_ | refine withK_s ?_ | refine if_t rfl ?_ | refine if_f rfl ?_)
          cases not with
          | true =>
            (repeat' first | refine bv_s rfl ?_ | refine withK_s ?_ | refine if_t rfl ?_ | refine if_f rfl ?_)
            have e := c30 iha ihb oAnd oImp n nl p false true hb (l := l - 1) (by omega) (by omega) (by omega)
            rw [av_mk] at e
            refine br_s e ?_
            refine bv_s (shape_s _) ?_
            rfl
          | false =>
            (repeat' first | refine bv_s rfl ?_ | refine withK_s ?_ | refine if_t rfl ?_ | refine if_f rfl ?_)
            have e := c30 iha ihb oOr oImp n nl p true false hb (l := l - 1) (by omega) (by omega) (by omega)
            rw [av_mk] at e
            refine br_s e ?_
            refine bv_s (shape_s _) ?_
            rfl
        · (repeat' first | refine bv_s rfl ?_ | refine withK_s ?_ | refine if_t rfl ?_ | refine if_f rfl ?_)
          have e := c30 iha ihb (dn oU not) oU n nl p not not hb (l := l - 1) (by omega) (by omega) (by omega)
          rw [av_mk] at e
          refine br_s e ?_
          refine bv_s (shape_s _) ?_
          rfl
        · (repeat' first | refine bv_s rfl ?_ | refine withK_s ?_ | refine if_t rfl ?_ | refine if_f rfl ?_)
          have e := c32 iha ihb oW n nl p not hb (l := l - 1) (by omega) (by omega) hda hdb
          rw [av_mk] at e
          refine br_s e ?_
          refine bv_s (shape_s _) ?_
          rfl
        · (repeat' first | refine bv_s rfl ?_ | refine withK_s ?_ | refine if_t rfl ?_ | refine if_f rfl ?_)
          have e := c30 iha ihb (dn oR not) oR n nl p not not hb (l := l - 1) (by omega) (by omega) (by omega)
          rw [av_mk] at e
          refine br_s e ?_
          refine bv_s (shape_s _) ?_
          rfl
    refine if_s (fun hc => ?_) (fun hc => ?_)
    · subst hc
      refine br_s (c28 _ _) ?_
      rw [← av_mk]
      exact key
    · subst hc
      rw [← av_mk]
      exact key
end Go.Abs
