/- Code. -/
import Derived.Test.YtiefbkjoldcebaaDoorXxDrawn2
import Derived.Test.YtiefbkjoldcebaaDoorXxLimit
namespace Go.Abs
variable {K : Seat} {F F' : FZ} {β β' : BM} {ρ ρ' : Roles} {w w' : World} {s : S} {a : Act}

def headOk (hd : Head) : Bool := hd.os.all fun e => match e with
  | .t t => hd.ts.any (Nat.beq t)
  | _ => true
def checkC (K : Seat) (N : Nat) : IC → Code → Bool
  | .skip, .skip => true
  | .region ios, .region _ ops false => checkOps K N ops.toList ios ops.toList
  | .drawn ios chk, .region _ ops true => checkD K N ios ops.toList chk
  | .seq a b, .seq x y => checkC K N a x && checkC K N b y
  | .cond x a b, .cond X A B => opdOk K x X && checkC K N a A && checkC K N b B
  | .block i c, .block j d => Nat.beq i j && checkC K N c d
  | .loop hd c, .loop d => headOk hd && checkC K N c d
  | .join hd a b, .seq x y => headOk hd && checkC K N a x && checkC K N b y
  | .exit i, .exit j => Nat.beq i j
  | .ret, .ret => true
  | _, _ => false

theorem heads_some {α β' : Type} {f : α → Option β'} : ∀ {xs : List α} {ys : List β'}, heads f xs = some ys → xs.length = ys.length ∧ ∀ (i : Nat) (x : α), xs[i]? = some x → ∃ y, ys[i]? = some y ∧ f x = some y
  | [], ys, h => by simp only [heads] at h; injection h with h; subst h; exact ⟨rfl, by simp⟩
  | x :: xs, ys, h => by
    simp only [heads] at h
    split at h <;> try (cases h; done)
    rename_i y hy
    split at h <;> try (cases h; done)
    rename_i r hr
    injection h with h; subst h
    obtain ⟨h1, h2⟩ := heads_some hr
    refine ⟨by simp [h1], fun i z hz => ?_⟩
    cases i with
    | zero => simp at hz; subst hz; exact ⟨y, rfl, hy⟩
    | succ i => simpa using h2 i z (by simpa using hz)
theorem zipT_append : ∀ {ts : List Nat} {xs ys : List AV}, ts.length = xs.length → zipT ts (xs ++ ys) = (ts.zip xs, ys)
  | [], [], ys, _ => rfl
  | t :: ts, x :: xs, ys, h => by
    simp only [List.cons_append, zipT]
    rw [zipT_append (by simpa using h)]
    rfl
  | [], _ :: _, _, h => by cases h
  | _ :: _, [], _, h => by cases h
theorem get_mem {α : Type} {l : List (Nat × α)} {t : Nat} {v : α} (h : get l t = some v) : (t, v) ∈ l := by
  induction l with
  | nil => cases h
  | cons x r ih =>
    obtain ⟨k, u⟩ := x
    rw [get_cons] at h
    split at h
    · rename_i e; injection h with h; subst h; subst e; exact List.mem_cons_self
    · exact List.mem_cons_of_mem _ (ih h)
theorem mem_zip {α β' : Type} {xs : List α} {ys : List β'} {x : α} {y : β'} (h : (x, y) ∈ xs.zip ys) : ∃ i : Nat, xs[i]? = some x ∧ ys[i]? = some y := by
  obtain ⟨i, hi⟩ := List.mem_iff_getElem?.1 h
  refine ⟨i, ?_⟩
  rw [List.getElem?_zip_eq_some] at hi
  exact hi
theorem zipL_mem : ∀ {ls : List (Nat × Nat × Bool)} {vs : List AV} {l : Nat} {x : Loc}, (l, x) ∈ zipL ls vs → ls.length = vs.length → ∃ (i n : Nat) (ag : Bool) (v : AV), ls[i]? = some (l, n, ag) ∧ vs[i]? = some v ∧ x = ⟨n, ag, v⟩
  | [], _, _, _, h, _ => by cases h
  | (k, n, ag) :: r, v :: vs, l, x, h, hl => by
    simp only [zipL, List.mem_cons] at h
    rcases h with h | h
    · injection h with h1 h2; subst h1; subst h2
      exact ⟨0, n, ag, v, rfl, rfl, rfl⟩
    · obtain ⟨i, n', ag', v', h1, h2, h3⟩ := zipL_mem h (by simpa using hl)
      exact ⟨i + 1, n', ag', v', by simpa using h1, by simpa using h2, h3⟩
  | _ :: _, [], _, _, _, hl => by cases hl
theorem get_ex {α : Type} {l : List (Nat × α)} {t : Nat} (h : ∃ v, (t, v) ∈ l) : ∃ v, get l t = some v := by
  induction l with
  | nil => obtain ⟨_, h⟩ := h; cases h
  | cons x r ih =>
    obtain ⟨k, u⟩ := x
    rw [get_cons]
    by_cases e : k = t
    · rw [if_pos e]; exact ⟨u, rfl⟩
    · rw [if_neg e]
      obtain ⟨v, h⟩ := h
      rcases List.mem_cons.1 h with h | h
      · injection h with h _; exact absurd h.symm e
      · exact ih ⟨v, h⟩
theorem hasE_mem {l : List Ent} {e : Ent} (h : hasE l e = true) : e ∈ l := by
  induction l with
  | nil => cases h
  | cons x r ih =>
    rcases (hasE_cons _ _ _).1 h with h | h
    · subst h; exact List.mem_cons_self
    · exact List.mem_cons_of_mem _ (ih h)

theorem FSim.open {hd : Head} {vs : List AV} (hs : FSim K F β ρ s a w) (hk : headOk hd = true) (e : hd.pack s = some vs) : FSim K F β ρ (hd.open vs s.h) a w := by
  unfold Head.pack at e
  split at e <;> try (cases e; done)
  rename_i xs ys hx hy
  split at e <;> try (cases e; done)
  rename_i hall
  injection e with e
  subst e
  simp only [Bool.and_eq_true, List.all_eq_true] at hall
  obtain ⟨hps, hos⟩ := hall
  obtain ⟨l1, g1⟩ := heads_some hx
  obtain ⟨l2, g2⟩ := heads_some hy
  have hz : zipT hd.ts (xs ++ ys) = (hd.ts.zip xs, ys) := zipT_append l1
  refine hs.sub rfl ?_ ?_ ?_ ?_
  · intro t v h
    simp only [Head.open, hz] at h
    obtain ⟨i, h1, h2⟩ := mem_zip (get_mem h)
    obtain ⟨y, h3, h4⟩ := g1 i t h1
    rw [h2] at h3; injection h3 with h3; subst h3; exact h4
  · intro t x h
    simp only [Head.open] at h
    have := get_mem h
    simp only [List.mem_map] at this
    obtain ⟨p, hp, he⟩ := this
    injection he with h1 h2
    subst h1; subst h2
    have := hps p hp
    split at this
    · rename_i l o hl
      simp only [Bool.and_eq_true] at this
      rw [hl, beq_true.1 this.1, beq_true.1 this.2]
    · cases this
  · intro l x h
    simp only [Head.open, hz] at h
    obtain ⟨i, n, ag, v, h1, h2, h3⟩ := zipL_mem (get_mem h) l2
    obtain ⟨y, h4, h5⟩ := g2 i _ h1
    rw [h2] at h4; injection h4 with h4; subst h4
    split at h5 <;> try (cases h5; done)
    rename_i lx hlx
    split at h5 <;> try (cases h5; done)
    rename_i q1 q2
    injection h5 with h5
    have q1 := beq_true.1 q1
    have q2 := agg_eq q2
    simp only at hlx
    rw [hlx, h3, ← h5]
    subst q1; subst q2
    rfl
  · intro e _ he
    simp only [Head.open] at he
    have hm := hasE_mem he
    refine ⟨hos e hm, fun t ht => ?_⟩
    subst ht
    have := List.all_eq_true.1 hk _ hm
    simp only [List.any_eq_true] at this
    obtain ⟨t', ht', hb⟩ := this
    have hb := beq_true.1 hb
    subst hb
    simp only [Head.open, hz]
    refine get_ex ?_
    obtain ⟨i, hi⟩ := List.mem_iff_getElem?.1 ht'
    obtain ⟨y, h1, _⟩ := g1 i t hi
    exact ⟨y, List.mem_iff_getElem?.2 ⟨i, by rw [List.getElem?_zip_eq_some]; exact ⟨hi, h1⟩⟩⟩

theorem code_ok {C : Call} (hC : CallsOK K C) {N n : Nat} : ∀ (ic : IC) (c : Code), checkC K N ic c = true → ∀ {F : FZ} {β : BM} {ρ : Roles} {s : S} {a : Act} {w : World} {kn kr : S → R} {kx : Nat → S → R} {r : AV × H} {Q : Exit → Act → World → Prop},
    FSim K F β ρ s a w → a.tmps.size = N → exec C (loopN n) ic s kn kr kx = some r → Post K F β ρ w s a kn r (Q .normal) → Post K F β ρ w s a kr r (Q .ret) → (∀ i, Post K F β ρ w s a (kx i) r (Q (.exit i))) → c.wp K.P Q a w := by
  intro ic
  induction ic with
  | skip =>
    intro c hc F β ρ s a w kn kr kx r Q hs hN e hn hr hx
    cases c <;> try (cases hc; done)
    exact wp_skip (hn s F β ρ a w hs rfl (Keep.refl _ _ _ _) rfl e)
  | ret =>
    intro c hc F β ρ s a w kn kr kx r Q hs hN e hn hr hx
    cases c <;> try (cases hc; done)
    exact wp_ret (hr s F β ρ a w hs rfl (Keep.refl _ _ _ _) rfl e)
  | exit i =>
    intro c hc F β ρ s a w kn kr kx r Q hs hN e hn hr hx
    cases c <;> try (cases hc; done)
    simp only [checkC] at hc
    have := beq_true.1 hc
    subst this
    exact wp_exit (hx i s F β ρ a w hs rfl (Keep.refl _ _ _ _) rfl e)
  | region ios =>
    intro c hc F β ρ s a w kn kr kx r Q hs hN e hn hr hx
    cases c <;> try (cases hc; done)
    rename_i id ops draw
    cases draw with
    | true => cases hc
    | false => exact region_ok hC hc hs hN e hn
  | drawn ios chk =>
    intro c hc F β ρ s a w kn kr kx r Q hs hN e hn hr hx
    cases c <;> try (cases hc; done)
    rename_i id ops draw
    cases draw with
    | false => cases hc
    | true => exact drawn_ok hC hc hs hN e hn
  | seq x y ih1 ih2 =>
    intro c hc F β ρ s a w kn kr kx r Q hs hN e hn hr hx
    cases c <;> try (cases hc; done)
    simp only [checkC, Bool.and_eq_true] at hc
    simp only [exec] at e
    refine wp_seq (ih1 _ hc.1 hs hN e ?_ hr hx)
    intro s' F' β' ρ' a' w' q1 q2 q3 q4 q5
    exact ih2 _ hc.2 q1 (q2.trans hN) q5 (hn.next q2 q3 q4) (hr.next q2 q3 q4) (fun i => (hx i).next q2 q3 q4)
  | join hd x y ih1 ih2 =>
    intro c hc F β ρ s a w kn kr kx r Q hs hN e hn hr hx
    cases c <;> try (cases hc; done)
    simp only [checkC, Bool.and_eq_true] at hc
    simp only [exec] at e
    refine wp_seq (ih1 _ hc.1.2 hs hN e ?_ hr hx)
    intro s' F' β' ρ' a' w' q1 q2 q3 q4 q5
    simp only at q5
    split at q5 <;> try (cases q5; done)
    rename_i vs hvs
    exact ih2 _ hc.2 (q1.open hc.1.1 hvs) (q2.trans hN) q5 (hn.next q2 q3 q4) (hr.next q2 q3 q4) (fun i => (hx i).next q2 q3 q4)
  | cond x y z ih1 ih2 =>
    intro c hc F β ρ s a w kn kr kx r Q hs hN e hn hr hx
    cases c <;> try (cases hc; done)
    simp only [checkC, Bool.and_eq_true] at hc
    simp only [exec] at e
    split at e <;> try (cases e; done)
    rename_i t hv
    have hb := (opd_rel hs hc.1.1 hv).bool_inv
    refine wp_cond hb ?_
    cases t with
    | true => exact ih1 _ hc.1.2 hs hN e hn hr hx
    | false => exact ih2 _ hc.2 hs hN e hn hr hx
  | block i x ih =>
    intro c hc F β ρ s a w kn kr kx r Q hs hN e hn hr hx
    cases c <;> try (cases hc; done)
    simp only [checkC, Bool.and_eq_true] at hc
    have := beq_true.1 hc.1
    subst this
    simp only [exec] at e
    refine wp_block (ih _ hc.2 hs hN e hn hr fun j => ?_)
    intro s' F' β' ρ' a' w' q1 q2 q3 q4 q5
    simp only [Exit.inBlock]
    by_cases hj : j = i
    · subst hj
      rw [if_pos rfl]
      simp only [beq_true.2 rfl] at q5
      exact hn s' F' β' ρ' a' w' q1 q2 q3 q4 q5
    · rw [if_neg hj]
      simp only [beq_false.2 hj] at q5
      exact hx j s' F' β' ρ' a' w' q1 q2 q3 q4 q5
  | loop hd x ih =>
    intro c hc F β ρ s a w kn kr kx r Q hs hN e hn hr hx
    cases c <;> try (cases hc; done)
    rename_i d
    simp only [checkC, Bool.and_eq_true] at hc
    simp only [exec] at e
    split at e <;> try (cases e; done)
    rename_i vs hvs
    have key : ∀ (m : Nat) (st : St) (F1 : FZ) (β1 : BM) (ρ1 : Roles) (a1 : Act) (w1 : World), FSim K F1 β1 ρ1 (hd.open st.1 st.2) a1 w1 → a1.tmps.size = a.tmps.size → Keep F β ρ w F1 β1 ρ1 w1 → st.2.floors = s.h.floors →
        loopN m (fun self st => exec C (loopN n) x (hd.open st.1 st.2) (fun s => match hd.pack s with
          | some vs => self (vs, s.h)
          | none => none) kr kx) st = some r → Code.rounds K.P d Q m a1 w1 := by
      intro m
      induction m with
      | zero => intro st F1 β1 ρ1 a1 w1 _ _ _ _ e; cases e
      | succ m ihm =>
        intro st F1 β1 ρ1 a1 w1 h1 h2 h3 h4 e
        simp only [loopN] at e
        rw [rounds_succ]
        have h4' : (hd.open st.1 st.2).h.floors = s.h.floors := h4
        refine ih _ hc.2 h1 (h2.trans hN) e ?_ (hr.next h2 h3 h4') (fun i => (hx i).next h2 h3 h4')
        intro s' F' β' ρ' a' w' q1 q2 q3 q4 q5
        simp only at q5
        split at q5 <;> try (cases q5; done)
        rename_i vs' hvs'
        exact ihm (vs', s'.h) F' β' ρ' a' w' (q1.open hc.1 hvs') (q2.trans h2) (h3.trans q3) (q4.trans h4') q5
    exact wp_loop_rounds n (key n (vs, s.h) F β ρ a w (hs.open hc.1 hvs) rfl (Keep.refl _ _ _ _) rfl e)
end Go.Abs
