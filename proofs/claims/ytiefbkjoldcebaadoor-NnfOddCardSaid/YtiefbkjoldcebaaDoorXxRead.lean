/- scan: one token, all tokens, the reader. -/
import Derived.Test.YtiefbkjoldcebaaDoorXxScan
namespace Go.Abs
open Fm

theorem c48 (pos : Int) (e : AV) (he : shape 1 false e = some e) (h : H) : Wc 48 [.int .i64 pos, e] h = some (.iface 2 (.ro (.agg [.int .i64 pos, e]) 0), h) := by
  refine w48 ?_
  unfold sh48
  refine bv_s (v := .agg [.int .i64 pos, e]) ?_ ?_
  · have hc : e.cells = [e] := by cases e <;> first | rfl | cases he
    rw [std_ev]
    simp only [evalP, fillParts, he, hc]
    rfl
  (repeat' first | refine bv_s rfl ?_ | refine withK_s ?_)
  rfl
theorem c48e (pos n : Int) (h : H) : Wc 48 [.int .i64 pos, errno n] h = some (errAt pos n, h) := c48 pos _ rfl h

/-! ### one -/
def mkTok (l : List UInt8) (k at_ : Int) (n : Nat) : Except Int (Tok × Nat) := if n = 0 then .error 20 else .ok (⟨k, l.take n, at_⟩, n)
def oneL (l : List UInt8) (at_ : Int) : Except Int (Tok × Nat) := match l with
  | [] => .error 20
  | c :: r =>
    if kindB c = 1 then mkTok (c :: r) (kindB c) at_ (runL isNameK (c :: r))
    else if kindB c = 2 then (match digitsL ((c :: r).take (runL isNumK (c :: r))) 0 with
      | none => .error 10
      | some _ => mkTok (c :: r) (kindB c) at_ (runL isNumK (c :: r)))
    else if kindB c = 3 then (if quotedL (c :: r) = 0 then .error 20 else .ok (⟨kindB c, ((c :: r).drop 1).take (quotedL (c :: r) - 2), at_⟩, quotedL (c :: r)))
    else if kindB c = 4 then mkTok (c :: r) (kindB c) at_ (markL (c :: r))
    else .error 20
def oneAV (at_ : Int) : Except Int (Tok × Nat) → AV
  | .ok (t, n) => .tuple [t.av, .int .i64 n, .nili]
  | .error e => .tuple [Tok.zero.av, .int .i64 0, errAt at_ e]
theorem isNumK_dig (c : UInt8) (h : isNumK (kindB c) = true) : isDig c = true := by
  simp only [isNumK, beq_iff_eq] at h
  unfold kindB at h
  split at h
  · cases h
  split at h
  · cases h
  split at h
  · cases h
  split at h
  · rename_i hh; exact hh
  split at h
  · cases h
  split at h <;> cases h
theorem runL_all (p : Int → Bool) : ∀ l : List UInt8, (l.take (runL p l)).all (fun c => p (kindB c)) = true
  | [] => rfl
  | c :: r => by
    simp only [runL]
    split
    · rename_i hp
      simp only [List.take_succ_cons, List.all_cons, hp, Bool.true_and]
      exact runL_all p r
    · rfl
theorem quotedL_le (s : List UInt8) : quotedL s ≤ s.length := by
  unfold quotedL
  split
  · omega
  · rename_i n hn
    have := indexOf_lt hn
    rw [List.length_drop] at this
    split
    · omega
    · split <;> omega
theorem quotedL_ge (s : List UInt8) : quotedL s = 0 ∨ 3 ≤ quotedL s := by
  unfold quotedL
  split
  · omega
  · split
    · omega
    · split <;> omega
theorem hasPrefix_len : ∀ {s t : List UInt8}, hasPrefix s t = true → t.length ≤ s.length
  | _, [], _ => by simp
  | [], _ :: _, h => by cases h
  | a :: s, b :: t, h => by
    simp only [hasPrefix, Bool.and_eq_true] at h
    have := hasPrefix_len h.2
    simp; omega
theorem markL_le {s : List UInt8} {c : UInt8} {r : List UInt8} (hs : s = c :: r) : markL s ≤ s.length := by
  unfold markL
  split
  · rename_i h
    obtain ⟨m, hm, hp⟩ := List.any_eq_true.1 h
    have := hasPrefix_len hp
    have h2 : m.length = 2 := by
      simp only [marks, List.mem_cons, List.not_mem_nil, or_false] at hm
      rcases hm with rfl | rfl | rfl | rfl | rfl | rfl <;> rfl
    omega
  · split
    · omega
    · subst hs; simp
theorem c47 (s : List UInt8) (hs : s.length ≤ 1000000) (at_ : Nat) (ha : at_ < s.length) (h : H) :
    Wc 47 [.str s, .int .i64 at_] h = some (oneAV at_ (oneL (s.drop at_) at_), h) := by
  refine w47 ?_
  have hd := drop_cons_get ha
  have hlen : (s.drop at_).length = s.length - at_ := List.length_drop
  have kJ : ∀ (k : Int) (n : Nat) (l4 : AV), at_ + n ≤ s.length →
      sh47_J1 std Wc (.str s) (.int .i64 at_) (.int .i64 n) l4 (.agg [.int .i64 k, .str [], .int .i64 at_]) h = some (oneAV at_ (mkTok (s.drop at_) k at_ n), h) := by
    intro k n l4 hn
    unfold sh47_J1 mkTok
    refine bv_s rfl ?_
    refine if_s (fun h1 => ?_) (fun h1 => ?_)
    · have : n = 0 := by simp at h1; omega
      subst this
      (repeat' first | refine bv_s rfl ?_ | refine withK_s ?_)
      refine br_s (c48e _ _ h) ?_
      (repeat' first | refine bv_s rfl ?_ | refine withK_s ?_)
      rfl
    · have : n ≠ 0 := by simp at h1; omega
      rw [if_neg this]
      refine bv_s rfl ?_
      rw [add64 (by omega)]
      refine bv_s (ev_mid (by omega) (by omega)) ?_
      (repeat' first | refine bv_s rfl ?_ | refine withK_s ?_)
      rw [Nat.add_sub_cancel_left]
      rfl
  unfold sh47
  refine bv_s rfl ?_
  refine bv_s (ev_str (List.getElem?_eq_getElem ha)) ?_
  refine br_s (c51 _ h) ?_
  (repeat' first | refine bv_s rfl ?_ | refine withK_s ?_)
  rw [hd, oneL, ← hd]
  refine if_s (fun h1 => ?_) (fun h1 => ?_)
  · have h1' : kindB s[at_] = 1 := by simpa using h1
    rw [if_pos h1']
    refine br_s (c52 53 isNameK c53 s hs at_ (by omega) h) ?_
    have := runL_le isNameK (s.drop at_)
    exact kJ _ _ _ (by omega)
  have h1' : ¬ kindB s[at_] = 1 := by simpa using h1
  rw [if_neg h1']
  (repeat' first | refine bv_s rfl ?_ | refine withK_s ?_)
  refine if_s (fun h2 => ?_) (fun h2 => ?_)
  · have h2' : kindB s[at_] = 2 := by simpa using h2
    rw [if_pos h2']
    refine br_s (c52 54 isNumK c54 s hs at_ (by omega) h) ?_
    have hr := runL_le isNumK (s.drop at_)
    refine bv_s rfl ?_
    rw [add64 (by omega)]
    refine bv_s (ev_mid (by omega) (by omega)) ?_
    rw [Nat.add_sub_cancel_left]
    have hall : ((s.drop at_).take (runL isNumK (s.drop at_))).all isDig = true := by
      rw [List.all_eq_true]
      intro c hc
      exact isNumK_dig c (List.all_eq_true.1 (runL_all isNumK (s.drop at_)) c hc)
    refine br_s (c55 _ hall (by rw [List.length_take]; omega) h) ?_
    cases hdg : digitsL ((s.drop at_).take (runL isNumK (s.drop at_))) 0 with
    | none =>
      (repeat' first | refine bv_s rfl ?_ | refine withK_s ?_ | refine if_t rfl ?_ | refine if_f rfl ?_)
      refine br_s (c48e _ _ h) ?_
      (repeat' first | refine bv_s rfl ?_ | refine withK_s ?_)
      rfl
    | some m =>
      (repeat' first | refine bv_s rfl ?_ | refine withK_s ?_ | refine if_t rfl ?_ | refine if_f rfl ?_)
      exact kJ _ _ Tok.zero.av (by omega)
  have h2' : ¬ kindB s[at_] = 2 := by simpa using h2
  rw [if_neg h2']
  (repeat' first | refine bv_s rfl ?_ | refine withK_s ?_)
  refine if_s (fun h3 => ?_) (fun h3 => ?_)
  · have h3' : kindB s[at_] = 3 := by simpa using h3
    rw [if_pos h3']
    refine bv_s (ev_from (by omega)) ?_
    refine br_s (c56 (s.drop at_) _ _ hd (by omega) h) ?_
    have hq := quotedL_le (s.drop at_)
    have hq2 := quotedL_ge (s.drop at_)
    refine bv_s rfl ?_
    refine if_s (fun h4 => ?_) (fun h4 => ?_)
    · have h4' : 0 < quotedL (s.drop at_) := by simp at h4; omega
      rw [if_neg (by omega)]
      refine bv_s rfl ?_
      rw [succ64 (by omega)]
      refine bv_s rfl ?_
      rw [add64 (by omega)]
      refine bv_s rfl ?_
      rw [show IntKind.i64.wrap (((at_ + quotedL (s.drop at_) : Nat) : Int) - 1) = ((at_ + quotedL (s.drop at_) - 1 : Nat) : Int) from by rw [wrap64 (by omega) (by omega)]; omega]
      refine bv_s (ev_mid (by omega) (by omega)) ?_
      (repeat' first | refine bv_s rfl ?_ | refine withK_s ?_)
      rw [List.drop_drop, show at_ + quotedL (s.drop at_) - 1 - (at_ + 1) = quotedL (s.drop at_) - 2 from by omega]
      rfl
    · have h4' : quotedL (s.drop at_) = 0 := by simp at h4; omega
      rw [if_pos h4', h4']
      have := kJ (kindB s[at_]) 0 (.agg [.int .i64 0, .str [], .int .i64 0]) (by omega)
      exact this
  have h3' : ¬ kindB s[at_] = 3 := by simpa using h3
  rw [if_neg h3']
  (repeat' first | refine bv_s rfl ?_ | refine withK_s ?_)
  refine if_s (fun h4 => ?_) (fun h4 => ?_)
  · have h4' : kindB s[at_] = 4 := by simpa using h4
    rw [if_pos h4']
    refine bv_s (ev_from (by omega)) ?_
    refine br_s (c57 (s.drop at_) _ _ hd h) ?_
    have := markL_le hd
    exact kJ _ _ _ (by omega)
  · have h4' : ¬ kindB s[at_] = 4 := by simpa using h4
    rw [if_neg h4']
    exact kJ (kindB s[at_]) 0 (.agg [.int .i64 0, .str [], .int .i64 0]) (by omega)

/-! ### Tokens -/
def toksL (l : List UInt8) (at_ : Nat) : Except (Int × Int) (List Tok) := match l with
  | [] => .ok [⟨0, [], at_⟩]
  | c :: r => match oneL (c :: r) at_ with
    | .error e => .error (at_, e)
    | .ok (t, n) => if n = 0 then .error (at_, 20) else
      (match toksL ((c :: r).drop (n + blankL ((c :: r).drop n))) (at_ + (n + blankL ((c :: r).drop n))) with
      | .ok ts => .ok (t :: ts)
      | .error e => .error e)
  termination_by l.length
  decreasing_by
  simp only [List.length_drop, List.length_cons]; omega
def tokens (s : List UInt8) : Except (Int × Int) (List Tok) := toksL (s.drop (blankL s)) (blankL s)
theorem oneL_pos {l : List UInt8} {a : Int} {t : Tok} {n : Nat} (h : oneL l a = .ok (t, n)) : 0 < n ∧ n ≤ l.length := by
  have hm : ∀ {l : List UInt8} {k : Int} {m : Nat}, m ≤ l.length → mkTok l k a m = .ok (t, n) → 0 < n ∧ n ≤ l.length := by
    intro l k m hm h
    unfold mkTok at h
    split at h
    · cases h
    · injection h with h; injection h with h1 h2; omega
  cases l with
  | nil => cases h
  | cons c r =>
    simp only [oneL] at h
    split at h
    · exact hm (runL_le _ _) h
    split at h
    · split at h
      · cases h
      · exact hm (runL_le _ _) h
    split at h
    · have := quotedL_le (c :: r)
      split at h
      · cases h
      · injection h with h; injection h with h1 h2; omega
    split at h
    · exact hm (markL_le rfl) h
    · cases h
theorem shape_tok (t : Tok) : shape 3 true t.av = some t.av := rfl
theorem mkl_tok (t : Tok) : std.ev (.mkList 3 true) [t.av] = some (.list false 3 [t.av]) := rfl
theorem app_tok {n m : Bool} {xs ys : List Tok} (h : (xs.length + ys.length) ≤ 2000000) : std.appList 3 32 (.list n 3 (xs.map Tok.av)) (.list m 3 (ys.map Tok.av)) = some (.list false 3 ((xs ++ ys).map Tok.av)) := by
  rw [std_app]
  simp only [xOp.appList, List.length_map, List.map_append]
  rw [if_pos ⟨trivial, trivial, by omega, by simp only [maxInt]; omega⟩]
def toksAV (pre : List Tok) : Except (Int × Int) (List Tok) → AV
  | .ok ts => .tuple [.list false 3 ((pre ++ ts).map Tok.av), .nili]
  | .error e => .tuple [.list true 3 [], errAt e.1 e.2]
theorem c40 (s : List UInt8) (hs : s.length ≤ 65536) (h : H) : Wc 40 [.str s] h = some (toksAV [] (tokens s), h) := by
  refine w40 ?_
  unfold sh40
  refine bv_s rfl ?_
  refine bv_s rfl ?_
  refine if_f (by simp; omega) ?_
  refine br_s (c46 s (by omega) 0 (by omega) h) ?_
  have := loop_ind (sh40_L1_F Wc) (σ := Nat × List Tok) (fun x => x.1 ≤ s.length ∧ x.2.length ≤ x.1) (fun x => ([.str s, .list false 3 (x.2.map Tok.av), .int .i64 (x.1 : Nat)], h)) (fun x => s.length - x.1)
          (fun x => (toksAV x.2 (toksL (s.drop x.1) x.1), h)) (fun K x hi hK => by
            obtain ⟨i, pre⟩ := x
            obtain ⟨hi, hp⟩ := hi
            dsimp only at hi hp
            show sh40_L1 std Wc K (.str s) (.list false 3 (pre.map Tok.av)) (.int .i64 i) h = _
            unfold sh40_L1
            refine bv_s rfl ?_
            refine bv_s rfl ?_
            refine if_s (fun g1 => ?_) (fun g1 => ?_)
            · have hlt : i < s.length := by simp at g1; omega
              have hd := drop_cons_get hlt
              refine br_s (c47 s (by omega) i hlt h) ?_
              cases ho : oneL (s.drop i) i with
              | error e =>
                (repeat' first | refine bv_s rfl ?_ | refine withK_s ?_ | refine if_t rfl ?_ | refine if_f rfl ?_)
                show some (AV.tuple [.list true 3 [], errAt i e], h) = _
                rw [hd, toksL, ← hd, ho]
                rfl
              | ok tn =>
                obtain ⟨t, n⟩ := tn
                obtain ⟨hn, hn2⟩ := oneL_pos ho
                rw [List.length_drop] at hn2
                (repeat' first | refine bv_s rfl ?_ | refine withK_s ?_ | refine if_t rfl ?_ | refine if_f rfl ?_)
                refine bv_s (app_tok (ys := [t]) (by simp only [List.length_singleton]; omega)) ?_
                refine bv_s rfl ?_
                rw [add64 (by omega)]
                refine br_s (c46 s (by omega) (i + n) (by omega) h) ?_
                have hb := blankL_le (s.drop (i + n))
                rw [List.length_drop] at hb
                refine bv_s rfl ?_
                rw [add64 (by omega)]
                have := hK (i + n + blankL (s.drop (i + n)), pre ++ [t]) ⟨by dsimp only; omega, by simp only [List.length_append, List.length_singleton]; omega⟩ (by dsimp only; omega)
                refine this.trans ?_
                have e1 : toksL (s.drop i) i = (match toksL (s.drop (i + n + blankL (s.drop (i + n)))) (i + n + blankL (s.drop (i + n))) with
                    | .ok ts => .ok (t :: ts)
                    | .error e => .error e) := by
                  conv => lhs; rw [hd, toksL, ← hd, ho]
                  dsimp only
                  rw [if_neg (by omega), List.drop_drop, List.drop_drop, show i + (n + blankL (s.drop (i + n))) = i + n + blankL (s.drop (i + n)) from by omega]
                rw [e1]
                cases toksL (s.drop (i + n + blankL (s.drop (i + n)))) (i + n + blankL (s.drop (i + n))) with
                | ok ts => simp [toksAV]
                | error e => rfl
            · have : i = s.length := by simp at g1; omega
              subst this
              refine bv_s rfl ?_
              refine bv_s (v := Tok.av ⟨0, [], s.length⟩) rfl ?_
              refine bv_s (mkl_tok _) ?_
              refine bv_s (app_tok (ys := [_]) (by simp only [List.length_singleton]; omega)) ?_
              rw [List.drop_length, toksL]
              rfl) (blankL s, []) ⟨by dsimp only; exact blankL_le s, by simp⟩
  exact this
theorem c40_long (s : List UInt8) (hs : ¬ s.length ≤ 65536) (h : H) : Wc 40 [.str s] h = some (.tuple [.list true 3 [], errno 2], h) := by
  refine w40 ?_
  unfold sh40
  refine bv_s rfl ?_
  refine bv_s rfl ?_
  refine if_t (by simp; omega) ?_
  (repeat' first | refine bv_s rfl ?_ | refine withK_s ?_)
  rfl
end Go.Abs
