/- Parse. -/
import Derived.Test.YtiefbkjoldcebaaDoorXxPar3
namespace Go.Abs
open Fm

theorem toksL_len (l : List UInt8) : ∀ (at_ : Nat) ts, toksL l at_ = .ok ts → 0 < ts.length ∧ ts.length ≤ l.length + 1 ∧ ∀ a (h : a < ts.length), ts[a].kind ≠ 0 → a + 1 < ts.length := by
  induction hn : l.length using Nat.strongRecOn generalizing l with
  | ind n ih =>
    subst hn
    intro at_ ts h
    unfold toksL at h
    split at h
    · injection h with h; subst h
      refine ⟨by simp, by simp, fun a ha hk => ?_⟩
      have : a = 0 := by simp at ha; omega
      subst this
      simp at hk
    · rename_i c r
      split at h
      · cases h
      · rename_i t n ho
        split at h
        · cases h
        · rename_i hn0
          have hlt : ((c :: r).drop (n + blankL ((c :: r).drop n))).length < (c :: r).length := by
            simp only [List.length_drop, List.length_cons]; omega
          split at h
          · rename_i ts' ht
            injection h with h; subst h
            obtain ⟨h1, h2, h3⟩ := ih _ hlt _ rfl _ _ ht
            refine ⟨by simp, by simp only [List.length_cons] at hlt ⊢; omega, fun a ha hk => ?_⟩
            rcases a with _ | a
            · simp only [List.length_cons]; omega
            · simp only [List.length_cons] at ha ⊢
              have := h3 a (by omega) (by simpa using hk)
              omega
          · cases h
theorem tokens_ok {s : List UInt8} {ts : List Tok} (hs : s.length ≤ 65536) (h : tokens s = .ok ts) : Toks ts ∧ 0 < ts.length := by
  obtain ⟨h1, h2, h3⟩ := toksL_len _ _ _ h
  rw [List.length_drop] at h2
  exact ⟨⟨by omega, h3⟩, h1⟩
def perrAV : Option Int × Int → AV
  | (none, n) => errno n
  | (some p, n) => errAt p n
/-- what begins with a text's tokens -/
def afterToks (s : List UInt8) (d : Int) : Except (Option Int × Int) (List Tok) :=
  if d < 1 ∨ d > 64 then .error (none, 1)
  else if 65536 < s.length then .error (none, 2)
  else match tokens s with
    | .error (p, n) => .error (some p, n)
    | .ok ts => .ok ts
def parse (s : List UInt8) (d : Int) : Except (Option Int × Int) Fm := match afterToks s d with
  | .error e => .error e
  | .ok ts => match (lev ts d.toNat).i 0 with
    | (.error (p, n), _) => .error (some p, n)
    | (.ok f, a) => if (peek ts a).kind ≠ 0 then .error (some (peek ts a).pos, 20) else .ok f
def parseAV : Except (Option Int × Int) Fm → AV
  | .ok f => .tuple [f.av, .nili]
  | .error e => .tuple [zero.av, perrAV e]
theorem c23_ok (s : List UInt8) (hs : s.length ≤ 65536) {ts : List Tok} (ht : tokens s = .ok ts) (h : H) : Wc 23 [.str s] h = some (.tuple [.ptr h.size 0 0, .nili], h.push (rcell ts 0)) := by
  refine w23 ?_
  unfold sh23
  refine br_s (c40 s hs h) ?_
  rw [ht]
  (repeat' first | refine bv_s rfl ?_ | refine withK_s ?_ | refine if_t rfl ?_ | refine if_f rfl ?_)
  rfl
theorem c23_err (s : List UInt8) (hs : s.length ≤ 65536) {e : Int × Int} (ht : tokens s = .error e) (h : H) : Wc 23 [.str s] h = some (.tuple [.nilp, errAt e.1 e.2], h) := by
  refine w23 ?_
  unfold sh23
  refine br_s (c40 s hs h) ?_
  rw [ht]
  (repeat' first | refine bv_s rfl ?_ | refine withK_s ?_ | refine if_t rfl ?_ | refine if_f rfl ?_)
  rfl
theorem c23_long (s : List UInt8) (hs : ¬ s.length ≤ 65536) (h : H) : Wc 23 [.str s] h = some (.tuple [.nilp, errno 2], h) := by
  refine w23 ?_
  unfold sh23
  refine br_s (c40_long s hs h) ?_
  (repeat' first | refine bv_s rfl ?_ | refine withK_s ?_ | refine if_t rfl ?_ | refine if_f rfl ?_)
  rfl
def pcell (b : Nat) (d : Int) : Blk := .cells 2 true (.agg [.ptr b 0 0, .int .i64 d]) []
theorem c10_err (s : List UInt8) (d : Int) {e : Option Int × Int} (he : afterToks s d = .error e) (h : H) : Wc 10 [.str s, .int .i64 d] h = some (.tuple [.nilp, perrAV e], h) := by
  refine w10 ?_
  unfold sh10
  unfold afterToks at he
  refine bv_s rfl ?_
  refine bv_s (gt_s fun _ => rfl) ?_
  refine bv_s (gt_s (v := .bool (decide (d > 64))) fun hb => by rw [if_pos hb]; rfl) ?_
  refine bv_s (pick_or _ _) ?_
  refine if_s (fun h1 => ?_) (fun h1 => ?_)
  · have : d < 1 ∨ d > 64 := by simpa using h1
    rw [if_pos this] at he
    injection he with he; subst he
    (repeat' first | refine bv_s rfl ?_ | refine withK_s ?_)
    rfl
  have h1' : ¬ (d < 1 ∨ d > 64) := by simp at h1; omega
  rw [if_neg h1'] at he
  split at he
  · rename_i hl
    injection he with he; subst he
    refine br_s (c23_long s (by omega) h) ?_
    (repeat' first | refine bv_s rfl ?_ | refine withK_s ?_ | refine if_t rfl ?_ | refine if_f rfl ?_)
    rfl
  · rename_i hl
    split at he
    · rename_i p n ht
      injection he with he; subst he
      refine br_s (c23_err s (by omega) ht h) ?_
      (repeat' first | refine bv_s rfl ?_ | refine withK_s ?_ | refine if_t rfl ?_ | refine if_f rfl ?_)
      rfl
    · cases he
theorem c10_ok (s : List UInt8) (d : Int) {ts : List Tok} (he : afterToks s d = .ok ts) (h : H) : Wc 10 [.str s, .int .i64 d] h = some (.tuple [.ptr (h.size + 1) 0 0, .nili], (h.push (rcell ts 0)).push (pcell h.size d)) ∧ 1 ≤ d ∧ d ≤ 64 ∧ Toks ts ∧ 0 < ts.length := by
  unfold afterToks at he
  split at he
  · cases he
  rename_i h1'
  split at he
  · cases he
  rename_i hl
  split at he
  · cases he
  rename_i ts' ht
  injection he with he; subst he
  obtain ⟨k1, k2⟩ := tokens_ok (by omega) ht
  refine ⟨?_, by omega, by omega, k1, k2⟩
  refine w10 ?_
  unfold sh10
  refine bv_s rfl ?_
  refine bv_s (gt_s fun _ => rfl) ?_
  refine bv_s (gt_s (v := .bool (decide (d > 64))) fun hb => by rw [if_pos hb]; rfl) ?_
  refine bv_s (pick_or _ _) ?_
  refine if_f (by simp; omega) ?_
  refine br_s (c23_ok s (by omega) ht h) ?_
  (repeat' first | refine bv_s rfl ?_ | refine withK_s ?_ | refine if_t rfl ?_ | refine if_f rfl ?_)
  have e : (h.push (rcell ts' 0)).size = h.size + 1 := by simp [H.push, H.size]
  show some (AV.tuple [.ptr (h.push (rcell ts' 0)).size 0 0, .nili], _) = _
  rw [e]
  rfl
theorem base_rd (h : H) (ts : List Tok) (d : Int) : rd ((h.push (rcell ts 0)).push (pcell h.size d)) h.size ts 0 = (h.push (rcell ts 0)).push (pcell h.size d) := by
  cases h
  simp [rd, H.set, H.push, H.size]
theorem base_pc (h : H) {ts : List Tok} (ht : Toks ts) (d : Int) : PC ((h.push (rcell ts 0)).push (pcell h.size d)) (h.size + 1) h.size d ts where
  hp := by cases h; simp [H.get, H.push, H.size, pcell]
  lt := by cases h; simp [H.push, H.size]
  ne := by omega
  ok := ht
theorem base_trunc (h : H) (fl : List Nat) (ts : List Tok) (d : Int) (a : Nat) : H.trunc (rd ((({ h with floors := fl } : H).push (rcell ts 0)).push (pcell h.size d)) h.size ts a) h.size h.floors = h := by
  cases h
  simp [H.trunc, rd, H.set, H.push, H.size]
theorem base_trunc0 (h : H) (fl : List Nat) (ts : List Tok) (d : Int) : H.trunc ((({ h with floors := fl } : H).push (rcell ts 0)).push (pcell h.size d)) h.size h.floors = h := by
  cases h
  simp [H.trunc, H.push, H.size]
theorem under_errAt (n : Nat) (p k : Int) : (errAt p k).under n = true := rfl
theorem c1 (s : List UInt8) (d : Int) (h : H) : Wc 1 [.str s, .int .i64 d] h = some (parseAV (parse s d), h) := by
  refine w1 ?_
  unfold sh1 parse
  refine bv_s rfl ?_
  have hsz : ∀ fl, H.size ({ h with floors := fl } : H) = h.size := fun _ => rfl
  cases he : afterToks s d with
  | error e =>
    refine br_s (c10_err s d he _) ?_
    (repeat' first | refine bv_s rfl ?_ | refine withK_s ?_)
    have e1 : std.ev (.eq true .i) [perrAV e, .nili] = some (.bool true) := by
      obtain ⟨p, n⟩ := e; cases p <;> rfl
    refine bv_s e1 ?_
    (repeat' first | refine bv_s rfl ?_ | refine withK_s ?_ | refine if_t rfl ?_ | refine if_f rfl ?_)
    refine rett_s (under_pair _ zero _ ?_) (trunc_self _ _)
    obtain ⟨p, n⟩ := e; cases p <;> rfl
  | ok ts =>
    show _ = some (parseAV (match (lev ts d.toNat).i 0 with
    | (.error (p, n), _) => .error (some p, n)
    | (.ok f, a) => if (peek ts a).kind ≠ 0 then .error (some (peek ts a).pos, 20) else .ok f), h)
    obtain ⟨hc, hd1, hd2, ht, h0⟩ := c10_ok s d he ({ h with floors := H.size h :: h.floors } : H)
    refine br_s hc ?_
    (repeat' first | refine bv_s rfl ?_ | refine withK_s ?_ | refine if_t rfl ?_ | refine if_f rfl ?_)
    have pc := base_pc ({ h with floors := H.size h :: h.floors } : H) ht d
    have hb := base_rd ({ h with floors := H.size h :: h.floors } : H) ts d
    obtain ⟨_, _, hl⟩ := lev_ok pc hd2 d.toNat 1 (by omega) (by omega)
    have hg := (goes_lev ht d.toNat).2.2 0 h0
    have := hl 0 h0
    rw [hb] at this
    refine br_s this ?_
    generalize (lev ts d.toNat).i 0 = ra at hg ⊢
    obtain ⟨r, a⟩ := ra
    dsimp only at hg ⊢
    cases r with
    | error e =>
      (repeat' first | refine bv_s rfl ?_ | refine withK_s ?_ | refine if_t rfl ?_ | refine if_f rfl ?_)
      exact rett_s (under_pair _ zero _ rfl) (base_trunc h _ ts d a)
    | ok f =>
      show _ = some (parseAV (if (peek ts a).kind ≠ 0 then .error (some (peek ts a).pos, 20) else .ok f), h)
      (repeat' first | refine bv_s rfl ?_ | refine withK_s ?_)
      refine bv_s (shape_s _) ?_
      (repeat' first | refine bv_s rfl ?_ | refine withK_s ?_ | refine if_t rfl ?_ | refine if_f rfl ?_)
      refine bv_s (p_r pc _) ?_
      refine br_s (c12 pc.lt hg.2) ?_
      (repeat' first | refine bv_s rfl ?_ | refine withK_s ?_)
      refine if_s (fun h3 => ?_) (fun h3 => ?_)
      · have h3' : (peek ts a).kind ≠ 0 := by simpa using h3
        rw [if_pos h3']
        (repeat' first | refine bv_s rfl ?_ | refine withK_s ?_)
        refine br_s (c13 pc hg.2 20) ?_
        (repeat' first | refine bv_s rfl ?_ | refine withK_s ?_)
        exact rett_s (under_pair _ zero _ rfl) (base_trunc h _ ts d a)
      · have h3' : ¬ (peek ts a).kind ≠ 0 := by simpa using h3
        rw [if_neg h3']
        refine bv_s (shape_s _) ?_
        exact rett_s (under_pair _ _ _ rfl) (base_trunc h _ ts d a)
end Go.Abs
