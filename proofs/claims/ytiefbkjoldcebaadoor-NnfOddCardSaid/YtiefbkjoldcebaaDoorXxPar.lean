/- The reader and the parser: their blocks, their contracts. -/
import Derived.Test.YtiefbkjoldcebaaDoorXxRead
namespace Go.Abs
open Fm

/-! ### The reader's block -/
def rcell (ts : List Tok) (a : Nat) : Blk := .cells 2 true (.agg [.list false 3 (ts.map Tok.av), .int .i64 (a : Nat)]) []
def rd (h : H) (b : Nat) (ts : List Tok) (a : Nat) : H := h.set b (rcell ts a)
theorem get_rd {h : H} {b : Nat} (hb : b < h.size) (ts : List Tok) (a : Nat) : (rd h b ts a).get b = some (rcell ts a) := by
  simp only [rd, H.set, H.get]
  simp only [H.size] at hb
  simp [hb]
theorem get_rd_ne {h : H} {b c : Nat} (hne : c ≠ b) (ts : List Tok) (a : Nat) : (rd h b ts a).get c = h.get c := by
  simp only [rd, H.set, H.get]
  rw [List.getElem?_set_ne (Ne.symm hne)]
theorem rd_rd (h : H) (b : Nat) (ts : List Tok) (a a' : Nat) : (rd h b ts a).set b (rcell ts a') = rd h b ts a' := by
  simp [rd, H.set, List.set_set]
theorem rd_l {h : H} {b : Nat} (hb : b < h.size) (ts : List Tok) (a : Nat) : std.hload (rd h b ts a) (.ptr b 0 (0 + 0)) 1 false = some (.list false 3 (ts.map Tok.av)) := by
  rw [std_hload]
  simp only [hload, get_rd hb, rcell]
  rfl
theorem rd_at {h : H} {b : Nat} (hb : b < h.size) (ts : List Tok) (a : Nat) : std.hload (rd h b ts a) (.ptr b 0 (0 + 1)) 1 false = some (.int .i64 a) := by
  rw [std_hload]
  simp only [hload, get_rd hb, rcell]
  rfl
theorem rd_st {h : H} {b : Nat} (hb : b < h.size) (ts : List Tok) (a a' : Nat) : std.hstore (rd h b ts a) (.ptr b 0 (0 + 1)) (.int .i64 (a' : Nat)) 1 false = some (rd h b ts a') := by
  rw [std_hstore]
  have hm : mayStore (rd h b ts a) b (.int .i64 a') = true := by
    simp only [mayStore, List.all_eq_true]
    intro fl _
    simp [AV.under]
  simp only [hstore, get_rd hb, rcell, hm]
  show some ((rd h b ts a).set b (rcell ts a')) = _
  rw [rd_rd]

/-- tokens of a text: the last one is the end -/
structure Toks (ts : List Tok) : Prop where
  len : ts.length ≤ 1000000
  more : ∀ a (h : a < ts.length), ts[a].kind ≠ 0 → a + 1 < ts.length
def peek (ts : List Tok) (a : Nat) : Tok := ts.getD a Tok.zero
theorem peek_eq {ts : List Tok} {a : Nat} (h : a < ts.length) : peek ts a = ts[a] := by simp [peek, h]
def isTok (t : Tok) (x : List UInt8) : Bool := (t.kind == 1 || t.kind == 4) && t.text == x
theorem c12 {h : H} {b : Nat} (hb : b < h.size) {ts : List Tok} {a : Nat} (ha : a < ts.length) : Wc 12 [.ptr b 0 0] (rd h b ts a) = some ((peek ts a).av, rd h b ts a) := by
  refine w12 ?_
  unfold sh12
  (repeat' first | refine bv_s rfl ?_ | refine withK_s ?_ | refine if_t rfl ?_ | refine if_f rfl ?_)
  refine bv_s (rd_l hb ts a) ?_
  (repeat' first | refine bv_s rfl ?_ | refine withK_s ?_)
  refine bv_s (rd_at hb ts a) ?_
  refine bv_s (ev_idx (x := (ts[a]).av) (by simp [ha])) ?_
  refine bv_s rfl ?_
  refine bv_s (shape_tok _) ?_
  rw [peek_eq ha]
  rfl
def adv (ts : List Tok) (a : Nat) : Nat := if (peek ts a).kind = 0 then a else a + 1
theorem c37 {h : H} {b : Nat} (hb : b < h.size) {ts : List Tok} (ht : Toks ts) {a : Nat} (ha : a < ts.length) : Wc 37 [.ptr b 0 0] (rd h b ts a) = some ((peek ts a).av, rd h b ts (adv ts a)) := by
  refine w37 ?_
  have hl := ht.len
  unfold sh37 adv
  refine bv_s rfl ?_
  refine br_s (c12 hb ha) ?_
  (repeat' first | refine bv_s rfl ?_ | refine withK_s ?_)
  refine if_s (fun h1 => ?_) (fun h1 => ?_)
  · have h1' : ¬ (peek ts a).kind = 0 := by simpa using h1
    rw [if_neg h1']
    (repeat' first | refine bv_s rfl ?_ | refine withK_s ?_)
    refine bv_s (rd_at hb ts a) ?_
    (repeat' first | refine bv_s rfl ?_ | refine withK_s ?_)
    rw [succ64 (by omega)]
    refine bh_s (rd_st hb ts a (a + 1)) ?_
    (repeat' first | refine bv_s rfl ?_ | refine withK_s ?_)
    rfl
  · have h1' : (peek ts a).kind = 0 := by simpa using h1
    rw [if_pos h1']
    (repeat' first | refine bv_s rfl ?_ | refine withK_s ?_)
    rfl
theorem c44 {h : H} {b : Nat} (hb : b < h.size) {ts : List Tok} {a : Nat} (ha : a < ts.length) (x : List UInt8) : Wc 44 [.ptr b 0 0, .str x] (rd h b ts a) = some (.bool (isTok (peek ts a) x), rd h b ts a) := by
  refine w44 ?_
  unfold sh44 isTok
  refine br_s (c12 hb ha) ?_
  (repeat' first | refine bv_s rfl ?_ | refine withK_s ?_)
  cases h1 : ((peek ts a).kind == 1)
  · refine onG_t rfl ?_
    (repeat' first | refine bv_s rfl ?_ | refine withK_s ?_)
    rw [Bool.false_or]
    show std.onG (std.gv (.bool ((peek ts a).kind == 4)) true) _ _ = _
    cases h2 : ((peek ts a).kind == 4)
    · refine onG_f rfl ?_
      (repeat' first | refine bv_s rfl ?_ | refine withK_s ?_)
      rfl
    · refine onG_t rfl ?_
      (repeat' first | refine bv_s rfl ?_ | refine withK_s ?_)
      rfl
  · refine onG_f rfl ?_
    (repeat' first | refine bv_s rfl ?_ | refine withK_s ?_)
    refine onG_t rfl ?_
    (repeat' first | refine bv_s rfl ?_ | refine withK_s ?_)
    rfl
theorem isTok_kind {t : Tok} {x : List UInt8} (h : isTok t x = true) : t.kind ≠ 0 := by
  simp only [isTok, Bool.and_eq_true, Bool.or_eq_true, beq_iff_eq] at h
  omega
theorem adv_is {ts : List Tok} {a : Nat} {x : List UInt8} (h : isTok (peek ts a) x = true) : adv ts a = a + 1 := by
  rw [adv, if_neg (isTok_kind h)]
theorem next_lt {ts : List Tok} (ht : Toks ts) {a : Nat} (ha : a < ts.length) (h : (peek ts a).kind ≠ 0) : a + 1 < ts.length :=
  ht.more a ha (by rw [← peek_eq ha]; exact h)
def skipN (ts : List Tok) (a : Nat) (x : List UInt8) : Nat := if isTok (peek ts a) x then a + 1 else a
theorem c36 {h : H} {b : Nat} (hb : b < h.size) {ts : List Tok} (ht : Toks ts) {a : Nat} (ha : a < ts.length) (x : List UInt8) :
    Wc 36 [.ptr b 0 0, .str x] (rd h b ts a) = some (.bool (isTok (peek ts a) x), rd h b ts (skipN ts a x)) := by
  refine w36 ?_
  unfold sh36 skipN
  refine br_s (c44 hb ha x) ?_
  refine if_s (fun h1 => ?_) (fun h1 => ?_)
  · refine br_s (c37 hb ht ha) ?_
    rw [adv_is h1, if_pos h1]; rfl
  · rw [h1]; rfl
theorem c45 {h : H} {b : Nat} (hb : b < h.size) {ts : List Tok} {a : Nat} (ha : a < ts.length) : Wc 45 [.ptr b 0 0] (rd h b ts a) = some (errAt (peek ts a).pos 20, rd h b ts a) := by
  refine w45 ?_
  unfold sh45
  (repeat' first | refine bv_s rfl ?_ | refine withK_s ?_ | refine if_t rfl ?_ | refine if_f rfl ?_)
  refine br_s (c12 hb ha) ?_
  (repeat' first | refine bv_s rfl ?_ | refine withK_s ?_)
  refine br_s (c48e _ _ _) ?_
  rfl
theorem c38 {h : H} {b : Nat} (hb : b < h.size) {ts : List Tok} (ht : Toks ts) {a : Nat} (ha : a < ts.length) (x : List UInt8) :
    Wc 38 [.ptr b 0 0, .str x] (rd h b ts a) = some (if isTok (peek ts a) x then .nili else errAt (peek ts a).pos 20, rd h b ts (skipN ts a x)) := by
  refine w38 ?_
  unfold sh38
  refine br_s (c36 hb ht ha x) ?_
  refine if_s (fun h1 => ?_) (fun h1 => ?_)
  · rw [h1]; rfl
  · have : skipN ts a x = a := by rw [skipN, h1]; rfl
    rw [this]
    refine br_s (c45 hb ha) ?_
    rw [h1]; rfl

/-! ### The parser: what it answers -/
abbrev PR := Except (Int × Int) Fm × Nat
def eAV : Except (Int × Int) Fm → AV
  | .ok f => .tuple [f.av, .nili]
  | .error e => .tuple [zero.av, errAt e.1 e.2]
def deep (ts : List Tok) (a : Nat) : PR := (.error ((peek ts a).pos, 21), a)
def two (op : List UInt8) (f g : Fm) : Fm := .mk op [] false [f, g] f.pos
def andThen (r : PR) (k : Fm → Nat → PR) : PR := match r.1 with
  | .ok f => k f r.2
  | .error e => (.error e, r.2)
def rightS (ts : List Tok) (next : Nat → PR) : List (List UInt8) → Fm → Nat → PR
  | [], f, a => (.ok f, a)
  | op :: ops, f, a => if isTok (peek ts a) op then andThen (next (a + 1)) fun g a' => (.ok (two op f g), a') else rightS ts next ops f a
def chainL (ts : List Tok) (op : List UInt8) (one : Nat → PR) : Nat → Fm → Nat → PR
  | 0, f, a => (.ok f, a)
  | n + 1, f, a => if isTok (peek ts a) op then andThen (one (a + 1)) fun g a' => chainL ts op one n (two op f g) a' else (.ok f, a)
def chainS (ts : List Tok) (op : List UInt8) (one : Nat → PR) (a : Nat) : PR := andThen (one a) fun f a' => chainL ts op one (ts.length - a') f a'
def setPos (f : Fm) (p : Int) : Fm := .mk f.op f.name f.nl f.kids p
def singleB (ts : List Tok) (s i : Nat → PR) (a : Nat) : PR :=
  let t := peek ts a
  if t.kind = 3 then (.ok (.mk oLabel t.text true [] t.pos), a + 1)
  else if isTok t oTrue || isTok t oFalse then (.ok (.mk t.text [] true [] t.pos), a + 1)
  else if isTok t oNot || isTok t oX || isTok t oF || isTok t oG then andThen (s (a + 1)) fun f a' => (.ok (.mk t.text [] false [f] t.pos), a')
  else if isTok t [40] then andThen (i (a + 1)) fun f a' => if isTok (peek ts a') [41] then (.ok (setPos f t.pos), a' + 1) else (.error ((peek ts a').pos, 20), a')
  else (.error (t.pos, 20), a)
structure PL where
  s : Nat → PR
  u : Nat → PR
  i : Nat → PR
def untilB (ts : List Tok) (s u : Nat → PR) (a : Nat) : PR := andThen (s a) fun f a' => rightS ts u [oU, oW, oR] f a'
def implyB (ts : List Tok) (u i : Nat → PR) (a : Nat) : PR := andThen (chainS ts oOr (chainS ts oAnd u) a) fun f a' => rightS ts i [oImp] f a'
def lev (ts : List Tok) : Nat → PL
  | 0 => ⟨deep ts, deep ts, deep ts⟩
  | n + 1 =>
    let p := lev ts n
    let s := singleB ts p.s p.i
    let u := untilB ts s p.u
    ⟨s, u, implyB ts u p.i⟩
/-- goes on, not beyond the end -/
def Goes (ts : List Tok) (f : Nat → PR) : Prop := ∀ a, a < ts.length → a ≤ (f a).2 ∧ (f a).2 < ts.length
theorem goes_and {ts : List Tok} {r : PR} {k : Fm → Nat → PR} {a : Nat} (hr : a ≤ r.2 ∧ r.2 < ts.length) (hk : ∀ f, r.2 ≤ (k f r.2).2 ∧ (k f r.2).2 < ts.length) : a ≤ (andThen r k).2 ∧ (andThen r k).2 < ts.length := by
  unfold andThen
  split
  · have := hk (by assumption); omega
  · exact hr
theorem goes_deep (ts : List Tok) : Goes ts (deep ts) := fun _ h => ⟨Nat.le_refl _, h⟩
theorem goes_right {ts : List Tok} (ht : Toks ts) {next : Nat → PR} (hn : Goes ts next) : ∀ ops f a, a < ts.length → a ≤ (rightS ts next ops f a).2 ∧ (rightS ts next ops f a).2 < ts.length
  | [], f, a, h => ⟨Nat.le_refl _, h⟩
  | op :: ops, f, a, h => by
    unfold rightS
    split
    · rename_i hi
      have h1 := next_lt ht h (isTok_kind hi)
      have := hn (a + 1) h1
      exact goes_and ⟨by omega, this.2⟩ fun g => ⟨Nat.le_refl _, this.2⟩
    · exact goes_right ht hn ops f a h
theorem goes_chainL {ts : List Tok} (ht : Toks ts) {op : List UInt8} {one : Nat → PR} (ho : Goes ts one) : ∀ n f a, a < ts.length → a ≤ (chainL ts op one n f a).2 ∧ (chainL ts op one n f a).2 < ts.length
  | 0, f, a, h => ⟨Nat.le_refl _, h⟩
  | n + 1, f, a, h => by
    unfold chainL
    split
    · rename_i hi
      have h1 := next_lt ht h (isTok_kind hi)
      have := ho (a + 1) h1
      exact goes_and ⟨by omega, this.2⟩ fun g => goes_chainL ht ho n _ _ this.2
    · exact ⟨Nat.le_refl _, h⟩
theorem goes_chain {ts : List Tok} (ht : Toks ts) {op : List UInt8} {one : Nat → PR} (ho : Goes ts one) : Goes ts (chainS ts op one) := fun a h =>
  goes_and (ho a h) fun f => goes_chainL ht ho _ f _ (ho a h).2
theorem goes_single {ts : List Tok} (ht : Toks ts) {s i : Nat → PR} (hs : Goes ts s) (hi : Goes ts i) : Goes ts (singleB ts s i) := fun a h => by
  unfold singleB
  dsimp only
  split
  · rename_i hk
    have := next_lt ht h (by omega)
    exact ⟨by dsimp only; omega, this⟩
  split
  · rename_i hk
    have hk' : (peek ts a).kind ≠ 0 := by rcases Bool.or_eq_true_iff.1 hk with e | e <;> exact isTok_kind e
    have := next_lt ht h hk'
    exact ⟨by dsimp only; omega, this⟩
  split
  · rename_i hk
    have hk' : (peek ts a).kind ≠ 0 := by
      rcases Bool.or_eq_true_iff.1 hk with e | e
      · rcases Bool.or_eq_true_iff.1 e with e | e
        · rcases Bool.or_eq_true_iff.1 e with e | e <;> exact isTok_kind e
        · exact isTok_kind e
      · exact isTok_kind e
    have h1 := next_lt ht h hk'
    have := hs _ h1
    exact goes_and ⟨by omega, this.2⟩ fun g => ⟨Nat.le_refl _, this.2⟩
  split
  · rename_i hk
    have h1 := next_lt ht h (isTok_kind hk)
    have := hi _ h1
    refine goes_and ⟨by omega, this.2⟩ fun g => ?_
    split
    · rename_i hh
      have h2 := next_lt ht this.2 (isTok_kind hh)
      exact ⟨by dsimp only; omega, h2⟩
    · exact ⟨Nat.le_refl _, this.2⟩
  · exact ⟨Nat.le_refl _, h⟩
theorem goes_until {ts : List Tok} (ht : Toks ts) {s u : Nat → PR} (hs : Goes ts s) (hu : Goes ts u) : Goes ts (untilB ts s u) := fun a h =>
  goes_and (hs a h) fun f => goes_right ht hu _ f _ (hs a h).2
theorem goes_imply {ts : List Tok} (ht : Toks ts) {u i : Nat → PR} (hu : Goes ts u) (hi : Goes ts i) : Goes ts (implyB ts u i) := fun a h =>
  goes_and (goes_chain ht (goes_chain ht hu) a h) fun f => goes_right ht hi _ f _ (goes_chain ht (goes_chain ht hu) a h).2
theorem goes_lev {ts : List Tok} (ht : Toks ts) : ∀ n, Goes ts (lev ts n).s ∧ Goes ts (lev ts n).u ∧ Goes ts (lev ts n).i
  | 0 => ⟨goes_deep ts, goes_deep ts, goes_deep ts⟩
  | n + 1 => by
    obtain ⟨h1, h2, h3⟩ := goes_lev ht n
    have hs := goes_single ht h1 h3
    have hu := goes_until ht hs h2
    exact ⟨hs, hu, goes_imply ht hu h3⟩
end Go.Abs
