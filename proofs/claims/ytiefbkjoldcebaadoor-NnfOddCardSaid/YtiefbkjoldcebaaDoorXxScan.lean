/- scan: what its functions answer. -/
import Derived.Test.YtiefbkjoldcebaaDoorXxNnf2
namespace Go.Abs
open Fm

abbrev errAt (pos n : Int) : AV := .iface 2 (.ro (.agg [.int .i64 pos, errno n]) 0)
structure Tok where
  kind : Int
  text : List UInt8
  pos : Int
  deriving Inhabited, DecidableEq
def Tok.av (t : Tok) : AV := .agg [.int .i64 t.kind, .str t.text, .int .i64 t.pos]
def Tok.zero : Tok := ⟨0, [], 0⟩

theorem indexOf_lt {c : UInt8} : ∀ {s : List UInt8} {n : Nat}, indexOf c s = some n → n < s.length
  | [], n, h => by cases h
  | a :: s, n, h => by
    simp only [indexOf] at h
    split at h
    · injection h with h; subst h; simp
    · cases hi : indexOf c s with
      | none => rw [hi] at h; cases h
      | some m =>
        simp only [hi, Option.map_some, Option.some.injEq] at h
        have := indexOf_lt hi
        simp only [List.length_cons]; omega
theorem c61 (s : List UInt8) (c : UInt8) (h : H) : Wc 61 [.str s, .str [c]] h = (match indexOf c s with
    | some n => some (.int .i64 n, h)
    | none => some (.int .i64 (-1), h)) := callW_ext T X (f := 61) rfl _ _
theorem c62 (s : List UInt8) (c : Int) (h : H) : Wc 62 [.str s, .int .u8 c] h = (match indexOf (UInt8.ofNat c.toNat) s with
    | some n => some (.int .i64 n, h)
    | none => some (.int .i64 (-1), h)) := callW_ext T X (f := 62) rfl _ _
theorem c58 (s : List UInt8) (c : Int) (h : H) : Wc 58 [.str s, .int .u8 c] h = (match indexOf (UInt8.ofNat c.toNat) s with
    | some n => some (.int .i64 n, h)
    | none => some (.int .i64 (-1), h)) := by
  have e := c62 s c h
  cases hi : indexOf (UInt8.ofNat c.toNat) s <;> rw [hi] at e <;> exact w58 (by unfold sh58; exact br_s e rfl)
theorem hasPrefix_take : ∀ (s t : List UInt8), t.length ≤ s.length → hasPrefix s t = (s.take t.length == t)
  | s, [], _ => by cases s <;> rfl
  | [], _ :: _, h => by simp at h
  | a :: s, b :: t, h => by
    rw [hasPrefix, hasPrefix_take s t (by simpa using h)]
    simp only [List.length_cons, List.take_succ_cons]
    rfl
theorem hasPrefix_short : ∀ (s t : List UInt8), ¬ t.length ≤ s.length → hasPrefix s t = false
  | _, [], h => by simp at h
  | [], _ :: _, _ => rfl
  | a :: s, b :: t, h => by rw [hasPrefix, hasPrefix_short s t (by simpa using h), Bool.and_false]
theorem ev_to {s : List UInt8} {k : IntKind} {i : Nat} (h : i ≤ s.length) : std.ev (.sliceS false true) [.str s, .int k (i : Int)] = some (.str (s.take i)) := by
  rw [std_ev]
  have : cut s none (some (i : Int)) = some (s.take i) := by
    simp only [cut, Option.getD_some, Option.getD_none]
    rw [if_pos ⟨by omega, by omega, by omega⟩]
    simp
  simp only [evalP, bounds, this]
theorem c59 (s t : List UInt8) (h : H) : Wc 59 [.str s, .str t] h = some (.bool (hasPrefix s t), h) := by
  refine w59 ?_
  unfold sh59
  refine bv_s rfl ?_
  refine bv_s rfl ?_
  refine bv_s (v := .bool (decide (t.length ≤ s.length))) (by rw [std_ev]; show some (AV.bool (decide ((s.length : Int) ≥ (t.length : Int)))) = _; simp) ?_
  by_cases hl : t.length ≤ s.length
  · rw [decide_eq_true hl, hasPrefix_take s t hl]
    (repeat' first | refine bv_s rfl ?_ | refine withK_s ?_)
    refine bv_s (gt_t rfl (ev_to hl)) ?_
    (repeat' first | refine bv_s rfl ?_ | refine withK_s ?_)
    rfl
  · rw [decide_eq_false hl, hasPrefix_short s t hl]
    (repeat' first | refine bv_s rfl ?_ | refine withK_s ?_)
    rfl
theorem c49 (s t : List UInt8) (h : H) : Wc 49 [.str s, .str t] h = some (.bool (hasPrefix s t), h) := w49 (by unfold sh49; exact br_s (c59 s t h) rfl)
theorem ev_str {s : List UInt8} {k : IntKind} {i : Nat} {c : UInt8} (h : s[i]? = some c) : std.ev .idxStr [.str s, .int k (i : Int)] = some (.int .u8 c.toNat) := by
  rw [std_ev]
  simp only [evalP, Int.toNat_natCast, h, Int.natCast_nonneg, decide_true]
theorem ev_from {s : List UInt8} {k : IntKind} {i : Nat} (h : i ≤ s.length) : std.ev (.sliceS true false) [.str s, .int k (i : Int)] = some (.str (s.drop i)) := by
  rw [std_ev]
  have : cut s (some (i : Int)) none = some (s.drop i) := by
    simp only [cut, Option.getD_some, Option.getD_none]
    rw [if_pos ⟨by omega, by omega, by omega⟩]
    simp
  simp only [evalP, bounds, this]
theorem ev_mid {s : List UInt8} {k k' : IntKind} {i j : Nat} (h : i ≤ j) (h' : j ≤ s.length) : std.ev (.sliceS true true) [.str s, .int k (i : Int), .int k' (j : Int)] = some (.str ((s.drop i).take (j - i))) := by
  rw [std_ev]
  have : cut s (some (i : Int)) (some (j : Int)) = some ((s.drop i).take (j - i)) := by
    simp only [cut, Option.getD_some]
    rw [if_pos ⟨by omega, by omega, by omega⟩]
    simp [List.drop_take]
  simp only [evalP, bounds, this]
theorem add64 {a b : Nat} (h : a + b < 9223372036854775808) : IntKind.i64.wrap ((a : Int) + (b : Int)) = ((a + b : Nat) : Int) := wrap64 (by omega) (by omega)

theorem c60 (s : List UInt8) (hs : s.length ≤ 1000000) (c : UInt8) (h : H) : Wc 60 [.str s, .str [c]] h = (match indexOf c s with
    | some n => some (.tuple [.str (s.take n), .str (s.drop (n + 1)), .bool true], h)
    | none => some (.tuple [.str s, .str [], .bool false], h)) := by
  have e := c61 s c h
  cases hi : indexOf c s with
  | none =>
    rw [hi] at e
    refine w60 ?_
    unfold sh60
    refine br_s e ?_
    (repeat' first | refine bv_s rfl ?_ | refine withK_s ?_ | refine if_t rfl ?_ | refine if_f rfl ?_)
    rfl
  | some n =>
    rw [hi] at e
    have := indexOf_lt hi
    refine w60 ?_
    unfold sh60
    refine br_s e ?_
    refine bv_s rfl ?_
    refine if_t (by simp) ?_
    refine bv_s (ev_to (by omega)) ?_
    refine bv_s rfl ?_
    refine bv_s rfl ?_
    rw [show IntKind.i64.wrap ((n : Int) + (([c] : List UInt8).length : Int)) = ((n + 1 : Nat) : Int) from by simp only [List.length_singleton]; exact succ64 (by omega)]
    refine bv_s (ev_from (by omega)) ?_
    rfl
theorem c50 (s : List UInt8) (hs : s.length ≤ 1000000) (c : UInt8) (h : H) : Wc 50 [.str s, .str [c]] h = (match indexOf c s with
    | some n => some (.tuple [.str (s.take n), .str (s.drop (n + 1)), .bool true], h)
    | none => some (.tuple [.str s, .str [], .bool false], h)) := by
  have e := c60 s hs c h
  cases hi : indexOf c s <;> rw [hi] at e <;> exact w50 (by unfold sh50; exact br_s e rfl)

/-! ### kind -/
abbrev signs : List UInt8 := [45, 60, 62, 33, 61, 46, 91, 93, 40, 41, 58, 59, 44, 43, 42, 38, 124, 63, 39]
def kindB (c : UInt8) : Int :=
  if decide (97 ≤ c.toNat) && decide (c.toNat ≤ 122) then 1
  else if decide (65 ≤ c.toNat) && decide (c.toNat ≤ 90) then 1
  else if c.toNat = 95 then 1
  else if decide (48 ≤ c.toNat) && decide (c.toNat ≤ 57) then 2
  else if c.toNat = 34 then 3
  else if (indexOf c signs).isSome then 4 else -1
theorem ge_dec (a b : Nat) : decide ((a : Int) ≥ (b : Int)) = decide (b ≤ a) := by simp
theorem le_dec (a b : Nat) : decide ((a : Int) ≤ (b : Int)) = decide (a ≤ b) := by simp
theorem ofNat_toNat (c : UInt8) : UInt8.ofNat ((c.toNat : Int)).toNat = c := by simp
theorem pick_and (a b : Bool) : std.ev .pick [.bool a, (if a = true then AV.bool b else undefAV), .bool false] = some (.bool (a && b)) := by cases a <;> rfl
theorem pick_or (a b : Bool) : std.ev .pick [.bool a, .bool true, (if a = false then AV.bool b else undefAV)] = some (.bool (a || b)) := by cases a <;> rfl
theorem c51 (c : UInt8) (h : H) : Wc 51 [.int .u8 c.toNat] h = some (.int .i64 (kindB c), h) := by
  refine w51 ?_
  unfold sh51 kindB
  have step : ∀ (lo hi : Nat) (k : AV → R) (r : AV × H), k (.bool (decide (lo ≤ c.toNat) && decide (c.toNat ≤ hi))) = some r →
      (std.bv (std.ev (.bin .geq) [.int .u8 c.toNat, .int .u8 lo]) fun v1 =>
       std.bv (std.gt (std.gv v1 true) (some (.int .u8 c.toNat))) fun v2 =>
       std.bv (std.gt (std.gv v1 true) (std.ev (.bin .leq) [v2, .int .u8 hi])) fun v3 =>
       std.bv (std.ev .pick [v1, v3, .bool false]) k) = some r := by
    intro lo hi k r hk
    refine bv_s (v := .bool (decide ((c.toNat : Int) ≥ (lo : Int)))) rfl ?_
    rw [ge_dec]
    refine bv_s (gt_s fun _ => rfl) ?_
    refine bv_s (gt_s (v := .bool (decide ((c.toNat : Int) ≤ (hi : Int)))) fun hb => by rw [if_pos hb]; rfl) ?_
    rw [le_dec]
    exact bv_s (pick_and _ _) hk
  refine step 97 122 _ _ ?_
  refine if_s (fun h1 => ?_) (fun h1 => ?_)
  · rw [if_pos h1]; rfl
  rw [if_neg (by rw [h1]; simp)]
  refine step 65 90 _ _ ?_
  refine if_s (fun h2 => ?_) (fun h2 => ?_)
  · rw [if_pos h2]; rfl
  rw [if_neg (by rw [h2]; simp)]
  (repeat' first | refine bv_s rfl ?_ | refine withK_s ?_)
  refine if_s (fun h3 => ?_) (fun h3 => ?_)
  · rw [if_pos (by simp at h3; omega)]; rfl
  rw [if_neg (by simp at h3; omega)]
  refine step 48 57 _ _ ?_
  refine if_s (fun h4 => ?_) (fun h4 => ?_)
  · rw [if_pos h4]; rfl
  rw [if_neg (by rw [h4]; simp)]
  (repeat' first | refine bv_s rfl ?_ | refine withK_s ?_)
  refine if_s (fun h5 => ?_) (fun h5 => ?_)
  · rw [if_pos (by simp at h5; omega)]; rfl
  rw [if_neg (by simp at h5; omega)]
  have e := c58 signs (c.toNat : Int) h
  rw [ofNat_toNat] at e
  cases hi : indexOf c signs with
  | none =>
    rw [hi] at e
    refine br_s e ?_
    (repeat' first | refine bv_s rfl ?_ | refine withK_s ?_ | refine if_t rfl ?_ | refine if_f rfl ?_)
    rfl
  | some n =>
    rw [hi] at e
    refine br_s e ?_
    (repeat' first | refine bv_s rfl ?_ | refine withK_s ?_)
    refine if_t (by simp) ?_
    rfl

/-! ### run -/
def runL (p : Int → Bool) : List UInt8 → Nat
  | [] => 0
  | c :: r => if p (kindB c) then runL p r + 1 else 0
theorem runL_le (p : Int → Bool) : ∀ l, runL p l ≤ l.length
  | [] => Nat.le_refl _
  | c :: r => by
    have := runL_le p r
    simp only [runL, List.length_cons]
    split <;> omega
def isNameK (k : Int) : Bool := k == 1 || k == 2
def isNumK (k : Int) : Bool := k == 2
theorem c53 (k : Int) (h : H) : Wc 53 [.int .i64 k] h = some (.bool (isNameK k), h) := by
  refine w53 ?_
  unfold sh53
  refine bv_s (v := .bool (k == 1)) rfl ?_
  refine bv_s (gt_s fun _ => rfl) ?_
  refine bv_s (gt_s (v := .bool (k == 2)) fun hb => by rw [if_pos hb]; rfl) ?_
  refine bv_s (pick_or _ _) ?_
  rfl
theorem c54 (k : Int) (h : H) : Wc 54 [.int .i64 k] h = some (.bool (isNumK k), h) := by
  refine w54 ?_
  unfold sh54
  (repeat' first | refine bv_s rfl ?_ | refine withK_s ?_)
  rfl
theorem drop_cons_get {α : Type} {s : List α} {i : Nat} (h : i < s.length) : s.drop i = s[i] :: s.drop (i + 1) := List.drop_eq_getElem_cons h
theorem c52 (f : Nat) (p : Int → Bool) (hp : ∀ k h, Wc f [.int .i64 k] h = some (.bool (p k), h)) (s : List UInt8) (hs : s.length ≤ 1000000) (at_ : Nat) (ha : at_ ≤ s.length) (h : H) :
    Wc 52 [.str s, .int .i64 at_, .func f [] []] h = some (.int .i64 (runL p (s.drop at_)), h) := by
  refine w52 ?_
  unfold sh52
  have := loop_ind (sh52_L1_F Wc) (σ := Nat) (fun i => at_ + i ≤ s.length) (fun i => ([.str s, .int .i64 at_, .func f [] [], .int .i64 i], h)) (fun i => s.length - i)
          (fun i => (.int .i64 ((i + runL p (s.drop (at_ + i)) : Nat) : Int), h)) (fun K i hi hK => by
            show sh52_L1 std Wc K (.str s) (.int .i64 at_) (.func f [] []) (.int .i64 i) h = _
            unfold sh52_L1
            refine bv_s rfl ?_
            rw [add64 (by omega)]
            refine bv_s rfl ?_
            refine bv_s rfl ?_
            by_cases hlt : at_ + i < s.length
            · have hd : decide (((at_ + i : Nat) : Int) < (s.length : Int)) = true := by simp; omega
              rw [hd]
              refine bv_s rfl ?_
              refine bv_s rfl ?_
              refine bv_s rfl ?_
              refine bv_s rfl ?_
              refine bv_s (gt_t rfl rfl) ?_
              rw [add64 (by omega)]
              refine bv_s (gt_t rfl (ev_str (List.getElem?_eq_getElem hlt))) ?_
              refine br_s (gr_t rfl (c51 _ h)) ?_
              refine br_s (gr_t rfl (show std.callV Wc (.func f [] []) [_] h = _ from hp _ h)) ?_
              refine bv_s rfl ?_
              rw [drop_cons_get hlt, runL]
              show std.ifB (.bool (p (kindB s[at_ + i]))) _ _ = _
              refine if_s (fun h1 => ?_) (fun h1 => ?_)
              · rw [if_pos h1]
                refine bv_s rfl ?_
                rw [succ64 (by omega)]
                have := hK (i + 1) (by omega) (by omega)
                rw [show i + 1 + runL p (s.drop (at_ + (i + 1))) = i + (runL p (s.drop (at_ + i + 1)) + 1) from by rw [show at_ + (i + 1) = at_ + i + 1 from by omega]; omega] at this
                exact this
              · rw [h1, if_neg (by simp)]
                rfl
            · have hd : decide (((at_ + i : Nat) : Int) < (s.length : Int)) = false := by simp; omega
              rw [hd]
              (repeat' first | refine bv_s rfl ?_ | refine withK_s ?_)
              refine br_s (gr_f rfl) ?_
              refine br_s (gr_f rfl) ?_
              (repeat' first | refine bv_s rfl ?_ | refine withK_s ?_ | refine if_t rfl ?_ | refine if_f rfl ?_)
              have : s.drop (at_ + i) = [] := List.drop_eq_nil_of_le (by omega)
              rw [this]
              rfl) 0 (by omega)
  rw [Nat.zero_add] at this
  exact this

/-! ### mark -/
abbrev marks : List (List UInt8) := [[45, 62], [60, 61], [62, 61], [33, 61], [61, 62], [46, 46]]
def markL (s : List UInt8) : Nat :=
  if marks.any (hasPrefix s) then 2 else if s.head? = some 46 then 0 else 1
theorem ev_first {s : List UInt8} {c : UInt8} {r : List UInt8} (h : s = c :: r) : std.ev .idxStr [.str s, .int .i64 0] = some (.int .u8 c.toNat) := by
  subst h; exact ev_str (i := 0) rfl
theorem u8eq (c : UInt8) (n : Nat) (hn : n < 256) : (((c.toNat : Int)) == ((n : Nat) : Int)) = decide (c = UInt8.ofNat n) := by
  rw [Bool.eq_iff_iff]
  simp only [beq_iff_eq, decide_eq_true_eq]
  constructor
  · intro e
    have : c.toNat = n := by omega
    rw [← this]; simp
  · intro e; subst e; simp; omega
theorem c57 (s : List UInt8) (c : UInt8) (r : List UInt8) (hs : s = c :: r) (h : H) : Wc 57 [.str s] h = some (.int .i64 (markL s), h) := by
  refine w57 ?_
  unfold sh57
  refine bv_s rfl ?_
  have e : ∀ i, i < 6 → std.ev (.idxArr 6 1 false) [.agg (marks.map AV.str), .int .i64 (i : Nat)] = some (.str (marks.getD i [])) := by
    intro i hi
    rcases i with _ | _ | _ | _ | _ | _ | i <;> first | rfl | omega
  have := loop_ind (sh57_L1_F Wc) (σ := Nat) (fun i => i ≤ 6 ∧ (marks.take i).any (hasPrefix s) = false) (fun i => ([.str s, .agg (marks.map AV.str), .int .i64 i], h)) (fun i => 6 - i)
          (fun i => (.int .i64 (markL s), h)) (fun K i hi hK => by
            show sh57_L1 std Wc K (.str s) (.agg (marks.map AV.str)) (.int .i64 i) h = _
            unfold sh57_L1
            refine bv_s rfl ?_
            refine if_s (fun h1 => ?_) (fun h1 => ?_)
            · have hlt : i < 6 := by simp at h1; omega
              refine bv_s (e i hlt) ?_
              refine br_s (c49 _ _ h) ?_
              refine if_s (fun h2 => ?_) (fun h2 => ?_)
              · have : marks.any (hasPrefix s) = true := by
                  rw [List.any_eq_true]
                  refine ⟨marks.getD i [], ?_, h2⟩
                  rcases i with _ | _ | _ | _ | _ | _ | i <;> first | omega | simp
                rw [markL, if_pos this]
                refine bv_s rfl ?_
                show some (AV.int .i64 (((marks.getD i []).length : Nat) : Int), h) = _
                rcases i with _ | _ | _ | _ | _ | _ | i <;> first | rfl | omega
              · refine bv_s rfl ?_
                rw [succ64 (by omega)]
                refine hK (i + 1) ⟨hlt, ?_⟩ (by omega)
                have e2 : marks.take (i + 1) = marks.take i ++ [marks.getD i []] := by
                  rcases i with _ | _ | _ | _ | _ | _ | i <;> first | rfl | omega
                rw [e2, List.any_append, hi.2, Bool.false_or, List.any_cons, h2]; rfl
            · have : i = 6 := by simp at h1; omega
              subst this
              have h0 : marks.any (hasPrefix s) = false := hi.2
              rw [markL, h0, if_neg (by simp)]
              refine bv_s (ev_first hs) ?_
              refine bv_s (v := .bool (((c.toNat : Int)) == ((46 : Nat) : Int))) rfl ?_
              rw [u8eq c 46 (by omega)]
              refine if_s (fun h3 => ?_) (fun h3 => ?_)
              · have h3 := of_decide_eq_true h3
                subst h3
                rw [hs]; rfl
              · have h3 := of_decide_eq_false h3
                rw [if_neg (by rw [hs]; simpa using h3)]
                rfl) 0 ⟨by omega, rfl⟩
  exact this

/-! ### quoted -/
def okByte (c : UInt8) : Bool := decide (32 ≤ c.toNat) && decide (c.toNat ≤ 126)
def quotedL (s : List UInt8) : Nat := match indexOf 34 (s.drop 1) with
  | none => 0
  | some n => if n < 1 ∨ 32 < n then 0 else if ((s.drop 1).take n).all okByte then n + 2 else 0
theorem c56 (s : List UInt8) (c : UInt8) (r : List UInt8) (hs : s = c :: r) (hl : s.length ≤ 1000000) (h : H) : Wc 56 [.str s] h = some (.int .i64 (quotedL s), h) := by
  refine w56 ?_
  unfold sh56
  have hlen : s.length = r.length + 1 := by rw [hs]; rfl
  refine bv_s (ev_from (i := 1) (by omega)) ?_
  have e58 := c58 (s.drop 1) 34 h
  have e34 : UInt8.ofNat (34 : Int).toNat = 34 := rfl
  rw [e34] at e58
  unfold quotedL
  cases hi : indexOf 34 (s.drop 1) with
  | none =>
    rw [hi] at e58
    refine br_s e58 ?_
    (repeat' first | refine bv_s rfl ?_ | refine withK_s ?_ | refine if_t rfl ?_ | refine if_f rfl ?_)
    rfl
  | some n =>
    rw [hi] at e58
    refine br_s e58 ?_
    have hn := indexOf_lt hi
    rw [List.length_drop] at hn
    dsimp only
    refine bv_s (v := .bool (decide ((n : Int) < ((1 : Nat) : Int)))) rfl ?_
    rw [lt_dec]
    refine bv_s (gt_s fun _ => rfl) ?_
    refine bv_s (gt_s (v := .bool (decide ((n : Int) > ((32 : Nat) : Int)))) fun hb => by rw [if_pos hb]; rfl) ?_
    refine bv_s (pick_or _ _) ?_
    refine if_s (fun h1 => ?_) (fun h1 => ?_)
    · rw [if_pos (by simp at h1; omega)]; rfl
    rw [if_neg (by simp at h1; omega)]
    have h1' : 1 ≤ n ∧ n ≤ 32 := by simp at h1; omega
    have := loop_ind (sh56_L1_F Wc) (σ := Nat) (fun i => 1 ≤ i ∧ i ≤ n + 1) (fun i => ([.str s, .int .i64 n, .int .i64 i], h)) (fun i => n + 1 - i)
          (fun i => (.int .i64 (if ((s.drop i).take (n + 1 - i)).all okByte then ((n + 2 : Nat) : Int) else 0), h)) (fun K i hi hK => by
            show sh56_L1 std Wc K (.str s) (.int .i64 n) (.int .i64 i) h = _
            unfold sh56_L1
            refine bv_s rfl ?_
            refine if_s (fun g1 => ?_) (fun g1 => ?_)
            · have hle : i ≤ n := by simp at g1; omega
              have hlt : i < s.length := by omega
              refine bv_s (ev_str (List.getElem?_eq_getElem hlt)) ?_
              refine bv_s (v := .bool (decide ((s[i].toNat : Int) < ((32 : Nat) : Int)))) rfl ?_
              rw [lt_dec]
              refine bv_s (gt_s fun _ => rfl) ?_
              refine bv_s (gt_s fun _ => rfl) ?_
              refine bv_s (gt_s (v := .int .u8 s[i].toNat) fun hb => by rw [if_pos hb, if_pos hb]; exact ev_str (List.getElem?_eq_getElem hlt)) ?_
              refine bv_s (gt_s (v := .bool (decide ((s[i].toNat : Int) > ((126 : Nat) : Int)))) fun hb => by rw [if_pos hb]; rfl) ?_
              refine bv_s (pick_or _ _) ?_
              have e2 : (s.drop i).take (n + 1 - i) = s[i] :: (s.drop (i + 1)).take (n + 1 - (i + 1)) := by
                rw [drop_cons_get hlt, show n + 1 - i = (n + 1 - (i + 1)) + 1 from by omega, List.take_succ_cons]
              rw [e2, List.all_cons]
              refine if_s (fun g2 => ?_) (fun g2 => ?_)
              · have : okByte s[i] = false := by simp [okByte] at g2 ⊢; omega
                rw [this, Bool.false_and]; rfl
              · have : okByte s[i] = true := by simp [okByte] at g2 ⊢; omega
                rw [this, Bool.true_and]
                refine bv_s rfl ?_
                rw [succ64 (by omega)]
                exact hK (i + 1) ⟨by omega, by omega⟩ (by omega)
            · have : i = n + 1 := by simp at g1; omega
              subst this
              rw [Nat.sub_self, List.take_zero, List.all_nil, if_pos rfl]
              refine bv_s rfl ?_
              rw [show IntKind.i64.wrap ((n : Int) + 2) = ((n + 2 : Nat) : Int) from wrap64 (by omega) (by omega)]
              rfl) 1 ⟨by omega, by omega⟩
    rw [show n + 1 - 1 = n from by omega] at this
    refine this.trans ?_
    split <;> rfl

/-! ### digits -/
def digitsL : List UInt8 → Int → Option Int
  | [], n => some n
  | c :: r, n => if n > (9223372036854775807 - ((c.toNat : Int) - 48)).tdiv 10 then none else digitsL r (10 * n + ((c.toNat : Int) - 48))
def isDig (c : UInt8) : Bool := decide (48 ≤ c.toNat) && decide (c.toNat ≤ 57)
theorem wrapU8 {n : Int} (h1 : 0 ≤ n) (h2 : n ≤ 255) : IntKind.u8.wrap n = n := by
  simp [IntKind.wrap, IntKind.bits, IntKind.signed]
  omega
theorem c55 (s : List UInt8) (hs : s.all isDig = true) (hl : s.length ≤ 1000000) (h : H) : Wc 55 [.str s] h = some ((match digitsL s 0 with
    | some n => .tuple [.int .i64 n, .bool true]
    | none => .tuple [.int .i64 0, .bool false]), h) := by
  refine w55 ?_
  unfold sh55
  refine bv_s rfl ?_
  have := loop_ind (sh55_L1_F Wc) (σ := Nat × Int) (fun x => x.1 ≤ s.length ∧ 0 ≤ x.2 ∧ x.2 ≤ 9223372036854775807) (fun x => ([.str s, .int .i64 x.2, .int .i64 s.length, .int .i64 (x.1 : Nat)], h)) (fun x => s.length - x.1)
          (fun x => ((match digitsL (s.drop x.1) x.2 with
    | some n => .tuple [.int .i64 n, .bool true]
    | none => .tuple [.int .i64 0, .bool false]), h)) (fun K x hi hK => by
            obtain ⟨i, n⟩ := x
            obtain ⟨hi, hn0, hn1⟩ := hi
            show sh55_L1 std Wc K (.str s) (.int .i64 n) (.int .i64 s.length) (.int .i64 i) h = _
            unfold sh55_L1
            refine bv_s rfl ?_
            refine if_s (fun g1 => ?_) (fun g1 => ?_)
            · have hlt : i < s.length := by simp at g1; omega
              have hd : isDig s[i] = true := List.all_eq_true.1 hs _ (List.getElem_mem hlt)
              have hd' : 48 ≤ s[i].toNat ∧ s[i].toNat ≤ 57 := by simpa [isDig] using hd
              refine bv_s (ev_str (List.getElem?_eq_getElem hlt)) ?_
              refine bv_s rfl ?_
              rw [wrapU8 (by omega) (by omega)]
              refine bv_s rfl ?_
              rw [wrap64 (by omega) (by omega)]
              refine bv_s rfl ?_
              rw [wrap64 (by omega) (by omega)]
              refine bv_s (v := .int .i64 ((9223372036854775807 - ((s[i].toNat : Int) - 48)).tdiv 10)) ?_ ?_
              · rw [std_ev]
                show evalInt .quo .i64 _ 10 = _
                simp only [evalInt]
                rw [if_neg (by omega), wrap64 (by rw [Int.tdiv_eq_ediv_of_nonneg (by omega)]; omega) (by rw [Int.tdiv_eq_ediv_of_nonneg (by omega)]; omega)]
              refine bv_s rfl ?_
              rw [drop_cons_get hlt, digitsL]
              refine if_s (fun g2 => ?_) (fun g2 => ?_)
              · have g2 := of_decide_eq_true g2
                rw [if_pos g2]; rfl
              · have g2 := of_decide_eq_false g2
                rw [if_neg g2]
                have hq : 10 * (9223372036854775807 - ((s[i].toNat : Int) - 48)).tdiv 10 ≤ 9223372036854775807 - ((s[i].toNat : Int) - 48) := by
                  rw [Int.tdiv_eq_ediv_of_nonneg (by omega)]; omega
                refine bv_s rfl ?_
                rw [wrap64 (by omega) (by omega)]
                refine bv_s rfl ?_
                rw [wrap64 (by omega) (by omega)]
                refine bv_s rfl ?_
                rw [succ64 (by omega)]
                exact hK (i + 1, _) ⟨by dsimp only; omega, by dsimp only; omega, by dsimp only; omega⟩ (by dsimp only; omega)
            · have : i = s.length := by simp at g1; omega
              subst this
              rw [List.drop_length, digitsL]
              rfl) (0, 0) ⟨by omega, by dsimp only; omega, by dsimp only; omega⟩
  exact this

/-! ### blank -/
def isBlank (c : UInt8) : Bool := c == 32 || c == 9 || c == 10 || c == 13
def lineLen (s : List UInt8) : Nat := (indexOf 10 s).getD s.length
def slashes (s : List UInt8) : Bool := hasPrefix s [47, 47]
theorem lineLen_le (s : List UInt8) : lineLen s ≤ s.length := by
  unfold lineLen
  cases h : indexOf 10 s with
  | none => simp
  | some n => have := indexOf_lt h; simp; omega
theorem lineLen_pos {s : List UInt8} (h : slashes s = true) : 2 ≤ lineLen s := by
  match s, h with
  | [], h => simp [slashes, hasPrefix] at h
  | [a], h => simp [slashes, hasPrefix] at h
  | a :: b :: r, h =>
    simp [slashes, hasPrefix] at h
    obtain ⟨rfl, rfl⟩ := h
    simp only [lineLen, indexOf]
    rw [if_neg (by decide), if_neg (by decide)]
    cases indexOf 10 r <;> simp
def blankL (s : List UInt8) : Nat := match s with
  | [] => 0
  | c :: r => if isBlank c then blankL r + 1
    else if _h : slashes (c :: r) = true then lineLen (c :: r) + blankL ((c :: r).drop (lineLen (c :: r)))
    else 0
  termination_by s.length
  decreasing_by
  · simp
  · have := lineLen_pos _h
    simp only [List.length_drop, List.length_cons]; omega
theorem blankL_le (s : List UInt8) : blankL s ≤ s.length := by
  induction hn : s.length using Nat.strongRecOn generalizing s with
  | ind n ih =>
    subst hn
    unfold blankL
    split
    · simp
    · rename_i c r
      split
      · have := ih r.length (by simp) r rfl; simp; omega
      · split
        · rename_i hh
          have h2 := lineLen_pos hh
          have h3 := lineLen_le (c :: r)
          have := ih ((c :: r).drop (lineLen (c :: r))).length (by simp only [List.length_drop, List.length_cons]; omega) _ rfl
          rw [List.length_drop] at this
          omega
        · simp
theorem u8s (c : UInt8) (n : Nat) (hn : n < 256) : std.ev (.bin .eql) [.int .u8 c.toNat, .int .u8 n] = some (.bool (c == UInt8.ofNat n)) := by
  show some (AV.bool (((c.toNat : Int)) == ((n : Nat) : Int))) = _
  rw [u8eq c n hn]
  congr 2
theorem c46 (s : List UInt8) (hs : s.length ≤ 1000000) (at_ : Nat) (ha : at_ ≤ s.length) (h : H) :
    Wc 46 [.str s, .int .i64 at_] h = some (.int .i64 (blankL (s.drop at_)), h) := by
  refine w46 ?_
  unfold sh46
  refine withK_s ?_
  have := loop_ind (sh46_L3_F Wc (fun q => sh46_J1 std Wc (nth q.1 0) (nth q.1 1) q.2)) (σ := Nat) (fun i => at_ ≤ i ∧ i ≤ s.length) (fun i => ([.str s, .int .i64 at_, .int .i64 i], h)) (fun i => s.length - i)
          (fun i => (.int .i64 ((i + blankL (s.drop i) - at_ : Nat) : Int), h)) (fun K i hi hK => by
            show sh46_L3 std Wc (fun q => sh46_J1 std Wc (nth q.1 0) (nth q.1 1) q.2) K (.str s) (.int .i64 at_) (.int .i64 i) h = _
            have k1 : ∀ r : Nat, r = 0 → sh46_J1 std Wc (.int .i64 at_) (.int .i64 i) h = some (.int .i64 ((i + r - at_ : Nat) : Int), h) := by
              intro r hr
              subst hr
              unfold sh46_J1
              refine bv_s rfl ?_
              rw [wrap64 (by omega) (by omega)]
              show some (AV.int .i64 _, h) = _
              rw [show ((i + 0 - at_ : Nat) : Int) = (i : Int) - (at_ : Int) from by omega]
            unfold sh46_L3
            refine bv_s rfl ?_
            refine bv_s rfl ?_
            refine if_s (fun g1 => ?_) (fun g1 => ?_)
            · have hlt : i < s.length := by simp at g1; omega
              have hd := drop_cons_get hlt
              have hg : s[i]? = some s[i] := List.getElem?_eq_getElem hlt
              have k2 : ∀ b : Bool, isBlank s[i] = b → sh46_J2 std Wc (fun q => sh46_J1 std Wc (nth q.1 0) (nth q.1 1) q.2) K (.str s) (.int .i64 at_) (.int .i64 i) (.bool b) h = some (.int .i64 ((i + blankL (s.drop i) - at_ : Nat) : Int), h) := by
                intro b hb
                unfold sh46_J2
                refine if_s (fun g2 => ?_) (fun g2 => ?_)
                · refine bv_s rfl ?_
                  rw [succ64 (by omega)]
                  have := hK (i + 1) ⟨by omega, by omega⟩ (by omega)
                  have e : blankL (s.drop i) = blankL (s.drop (i + 1)) + 1 := by
                    rw [hd, blankL, hb, if_pos g2]
                  rw [e, show i + (blankL (s.drop (i + 1)) + 1) - at_ = i + 1 + blankL (s.drop (i + 1)) - at_ from by omega]
                  exact this
                · refine bv_s (ev_from (by omega)) ?_
                  refine br_s (c49 _ _ h) ?_
                  refine if_s (fun g3 => ?_) (fun g3 => ?_)
                  · have g3' : slashes (s.drop i) = true := g3
                    refine bv_s (ev_from (by omega)) ?_
                    have hl2 := lineLen_pos g3'
                    have hl3 := lineLen_le (s.drop i)
                    rw [List.length_drop] at hl3
                    have e50 : ∃ u v, Wc 50 [.str (s.drop i), .str [10]] h = some (.tuple [.str ((s.drop i).take (lineLen (s.drop i))), u, v], h) := by
                      have := c50 (s.drop i) (by rw [List.length_drop]; omega) 10 h
                      cases hx : indexOf 10 (s.drop i) with
                      | none =>
                        rw [hx] at this
                        refine ⟨.str [], .bool false, this.trans ?_⟩
                        have e : lineLen (s.drop i) = (s.drop i).length := by rw [lineLen, hx]; rfl
                        rw [e, List.take_length]
                      | some m =>
                        rw [hx] at this
                        refine ⟨.str ((s.drop i).drop (m + 1)), .bool true, this.trans ?_⟩
                        have e : lineLen (s.drop i) = m := by rw [lineLen, hx]; rfl
                        rw [e]
                    obtain ⟨u, v, e50⟩ := e50
                    refine br_s e50 ?_
                    (repeat' first | refine bv_s rfl ?_ | refine withK_s ?_)
                    have hll : ((s.drop i).take (lineLen (s.drop i))).length = lineLen (s.drop i) := by rw [List.length_take, List.length_drop]; omega
                    rw [hll, add64 (by omega)]
                    have := hK (i + lineLen (s.drop i)) ⟨by omega, by omega⟩ (by omega)
                    have e : blankL (s.drop i) = lineLen (s.drop i) + blankL (s.drop (i + lineLen (s.drop i))) := by
                      rw [← List.drop_drop]
                      conv => lhs; rw [hd, blankL, hb, g2, if_neg (by simp), dif_pos (by rw [← hd]; exact g3'), ← hd]
                    rw [e, show i + (lineLen (s.drop i) + blankL (s.drop (i + lineLen (s.drop i)))) - at_ = i + lineLen (s.drop i) + blankL (s.drop (i + lineLen (s.drop i))) - at_ from by omega]
                    exact this
                  · have g3' : slashes (s.drop i) = false := g3
                    refine k1 _ ?_
                    rw [hd, blankL, hb, g2, if_neg (by simp), dif_neg (by rw [← hd, g3']; simp)]
              refine withK_s ?_
              refine bv_s (ev_str hg) ?_
              refine bv_s (u8s _ 32 (by omega)) ?_
              refine if_s (fun q1 => ?_) (fun q1 => ?_)
              · have q1' : (s[i] == 32) = true := q1
                rw [q1]; exact k2 true (by simp only [isBlank, q1', Bool.true_or])
              have q1' : (s[i] == 32) = false := q1
              refine bv_s (ev_str hg) ?_
              refine bv_s (u8s _ 9 (by omega)) ?_
              refine if_s (fun q2 => ?_) (fun q2 => ?_)
              · have q2' : (s[i] == 9) = true := q2
                rw [q2]; exact k2 true (by simp only [isBlank, q2', Bool.true_or, Bool.or_true])
              have q2' : (s[i] == 9) = false := q2
              refine bv_s (ev_str hg) ?_
              refine bv_s (u8s _ 10 (by omega)) ?_
              refine if_s (fun q3 => ?_) (fun q3 => ?_)
              · have q3' : (s[i] == 10) = true := q3
                rw [q3]; exact k2 true (by simp only [isBlank, q3', Bool.true_or, Bool.or_true])
              have q3' : (s[i] == 10) = false := q3
              refine bv_s (ev_str hg) ?_
              refine bv_s (u8s _ 13 (by omega)) ?_
              exact k2 _ (by simp only [isBlank, q1', q2', q3', Bool.false_or]; rfl)
            · have : i = s.length := by simp at g1; omega
              subst this
              exact k1 _ (by rw [List.drop_length]; unfold blankL; rfl)) at_ ⟨by omega, ha⟩
  rw [show at_ + blankL (s.drop at_) - at_ = blankL (s.drop at_) from by omega] at this
  exact this
end Go.Abs
