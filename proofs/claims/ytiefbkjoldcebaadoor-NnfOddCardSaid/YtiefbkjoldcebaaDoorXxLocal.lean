/- What an operation looks at and changes: cells 0 the heap, 1 the locals, n + 3 temporary n. -/
import Derived.Test.YtiefbkjoldcebaaDoorXxReg
namespace Go.Abs

def Agree (c : Nat) (s s' : S) : Prop := match c with
  | 0 => s.h = s'.h
  | 1 => ∀ l, get s.loc l = get s'.loc l
  | 2 => ∀ l o, hasE s.own (.l l o) = hasE s'.own (.l l o)
  | n + 3 => get s.env n = get s'.env n ∧ get s.lp n = get s'.lp n ∧ hasE s.own (.t n) = hasE s'.own (.t n)
theorem Agree.refl (c : Nat) (s : S) : Agree c s s := by
  match c with
  | 0 => exact rfl
  | 1 => exact fun _ => rfl
  | 2 => exact fun _ _ => rfl
  | n + 3 => exact ⟨rfl, rfl, rfl⟩
theorem Agree.symm {c : Nat} {s s' : S} (h : Agree c s s') : Agree c s' s := by
  match c with
  | 0 => exact Eq.symm h
  | 1 => exact fun l => (h l).symm
  | 2 => exact fun l o => (h l o).symm
  | n + 3 => exact ⟨h.1.symm, h.2.1.symm, h.2.2.symm⟩
theorem Agree.trans {c : Nat} {s s' s'' : S} (h : Agree c s s') (h' : Agree c s' s'') : Agree c s s'' := by
  match c with
  | 0 => exact Eq.trans h h'
  | 1 => exact fun l => (h l).trans (h' l)
  | 2 => exact fun l o => (h l o).trans (h' l o)
  | n + 3 => exact ⟨h.1.trans h'.1, h.2.1.trans h'.2.1, h.2.2.trans h'.2.2⟩

def Opd.rd : Opd → List Nat
  | .t n => [n + 3]
  | .c _ => []
def rds : List Opd → List Nat
  | [] => []
  | x :: xs => x.rd ++ rds xs
def dwr : Option Nat → List Nat
  | some d => [d + 3]
  | none => []
/-- read; written (the target aside) -/
def IOp.rd : IOp → List Nat
  | .p _ xs => rds xs
  | .lnew _ _ _ x _ => x.rd
  | .laddr src _ => [src + 3]
  | .lload src _ _ => [src + 3, 1]
  | .lstore src _ _ x _ => (src + 3) :: x.rd
  | .onil _ => []
  | .tmov _ => []
  | .take src => [src + 3, 1]
  | .app _ _ _ y => y.rd
  | .give src _ => [src + 3]
  | .hnew _ _ x _ => x.rd
  | .hload _ _ q => 0 :: q.rd
  | .hstore _ _ q x => q.rd ++ x.rd
  | .htake q => q.rd
  | .hgive q _ => q.rd
  | .call _ xs => rds xs
  | .callv x xs => x.rd ++ rds xs
  | .mapNew => []
  | .mapGet _ _ m k => 0 :: (m.rd ++ k.rd)
  | .mapPut m k v => m.rd ++ (k.rd ++ v.rd)
  | .mapLen m => 0 :: m.rd
def IOp.wr : IOp → List Nat
  | .lnew .. => [1, 2]
  | .lstore .. => [1, 2]
  | .tmov src => [src + 3]
  | .take _ => [2]
  | .app _ _ src _ => [src + 3]
  | .give _ x => [x + 3, 1, 2]
  | .hnew .. => [0]
  | .hstore .. => [0]
  | .htake _ => [0]
  | .hgive _ x => [x + 3, 0]
  | .call .. => [0]
  | .callv .. => [0]
  | .mapNew => [0]
  | .mapPut .. => [0]
  | _ => []

theorem val_agree {x : Opd} {s s' : S} (h : ∀ c ∈ x.rd, Agree c s s') : x.val s = x.val s' := by
  cases x with
  | t n => exact (h (n + 3) (by simp [Opd.rd])).1
  | c v => rfl
theorem vals_agree : ∀ {xs : List Opd} {s s' : S}, (∀ c ∈ rds xs, Agree c s s') → vals s xs = vals s' xs
  | [], _, _, _ => rfl
  | x :: xs, s, s', h => by
    simp only [vals]
    rw [val_agree (fun c hc => h c (by simp [rds, hc])), vals_agree (fun c hc => h c (by simp [rds, hc]))]

/-- t has come of s, t' of s', alike -/
structure Alike (wr : List Nat) (s t s' t' : S) : Prop where
  new : ∀ c ∈ wr, Agree c t t'
  old : ∀ c, c ∉ wr → Agree c s t
  old' : ∀ c, c ∉ wr → Agree c s' t'

theorem put_tmp {s : S} {d n : Nat} {v : AV} (h : n ≠ d) : Agree (n + 3) s (s.put d v) := by
  refine ⟨?_, ?_, ?_⟩
  · simp [S.put, get_cons, Ne.symm h]
  · simp [S.put, get_del, Ne.symm h]
  · apply Bool.eq_iff_iff.2
    simp only [S.put, hasE_delE]
    constructor
    · intro hh; exact ⟨hh, fun e => h (by injection e)⟩
    · intro hh; exact hh.1
theorem put_loc {s : S} {d : Nat} {v : AV} : Agree 1 s (s.put d v) := fun _ => rfl
theorem put_own {s : S} {d : Nat} {v : AV} : Agree 2 s (s.put d v) := by
  intro l o
  apply Bool.eq_iff_iff.2
  simp only [S.put, hasE_delE]
  constructor
  · intro hh; exact ⟨hh, by simp⟩
  · intro hh; exact hh.1
theorem put_same {s s' : S} {d : Nat} {v : AV} : Agree (d + 3) (s.put d v) (s'.put d v) := by
  refine ⟨by simp [S.put, get_cons], by simp [S.put, get_del], ?_⟩
  apply Bool.eq_iff_iff.2
  simp [S.put, hasE_delE]
theorem out_old {s : S} {d : Option Nat} {v : AV} {c : Nat} (h : c ∉ dwr d) : Agree c s (s.out d v) := by
  cases d with
  | none => exact Agree.refl _ _
  | some d =>
    simp only [dwr, List.mem_singleton] at h
    match c, h with
    | 0, _ => exact rfl
    | 1, _ => exact put_loc
    | 2, _ => exact put_own
    | n + 3, h => exact put_tmp (by omega)
theorem out_alike {s s' : S} {d : Option Nat} {v : AV} : Alike (dwr d) s (s.out d v) s' (s'.out d v) where
  new := by
    intro c hc
    cases d with
    | none => cases hc
    | some d => simp only [dwr, List.mem_singleton] at hc; subst hc; exact put_same
  old := fun c hc => out_old hc
  old' := fun c hc => out_old hc
theorem Alike.more {wr wr' : List Nat} {s t s' t' : S} (h : Alike wr s t s' t') (hs : ∀ c ∈ wr, c ∈ wr') (ha : ∀ c ∈ wr', Agree c s s') : Alike wr' s t s' t' where
  new := by
    intro c hc
    by_cases hw : c ∈ wr
    · exact h.new c hw
    · exact ((h.old c hw).symm.trans (ha c hc)).trans (h.old' c hw)
  old := fun c hc => h.old c (fun hw => hc (hs c hw))
  old' := fun c hc => h.old' c (fun hw => hc (hs c hw))

/-- a heap set on -/
theorem heap_alike {d : Option Nat} {s s' : S} {v : AV} {h : H} : Alike (dwr d ++ [0]) s { s.out d v with h := h } s' { s'.out d v with h := h } where
  new := by
    intro c hc
    rcases List.mem_append.1 hc with hc | hc
    · have := (out_alike (s := s) (s' := s') (v := v)).new c hc
      match c, this with
      | 0, _ => exact rfl
      | 1, this => exact this
      | 2, this => exact this
      | n + 3, this => exact this
    · simp only [List.mem_singleton] at hc; subst hc; exact rfl
  old := by
    intro c hc
    have : c ∉ dwr d := fun h => hc (List.mem_append_left _ h)
    have h1 := out_old (s := s) (v := v) this
    match c, h1, hc with
    | 0, _, hc => exact absurd (List.mem_append_right _ (List.mem_singleton.2 rfl)) hc
    | 1, h1, _ => exact h1
    | 2, h1, _ => exact h1
    | n + 3, h1, _ => exact h1
  old' := by
    intro c hc
    have : c ∉ dwr d := fun h => hc (List.mem_append_left _ h)
    have h1 := out_old (s := s') (v := v) this
    match c, h1, hc with
    | 0, _, hc => exact absurd (List.mem_append_right _ (List.mem_singleton.2 rfl)) hc
    | 1, h1, _ => exact h1
    | 2, h1, _ => exact h1
    | n + 3, h1, _ => exact h1

theorem alike_mk {wr : List Nat} {s t s' t' : S} (ha : ∀ c ∈ wr, Agree c s s') (h : ∀ c, (c ∈ wr ∧ Agree c t t') ∨ (Agree c s t ∧ Agree c s' t')) : Alike wr s t s' t' where
  new := by
    intro c hc
    rcases h c with ⟨_, h⟩ | ⟨h1, h2⟩
    · exact h
    · exact (h1.symm.trans (ha c hc)).trans h2
  old := by
    intro c hc
    rcases h c with ⟨h, _⟩ | ⟨h, _⟩
    · exact absurd h hc
    · exact h
  old' := by
    intro c hc
    rcases h c with ⟨h, _⟩ | ⟨_, h⟩
    · exact absurd h hc
    · exact h
theorem eqE {a b : Bool} (h : a = true ↔ b = true) : a = b := Bool.eq_iff_iff.2 h
theorem hasE_dropRange_iff (own : List Ent) (l o n : Nat) (x : Ent) : hasE (xOp.dropRange own l o n) x = true ↔ hasE own x = true ∧ ∀ i, x = .l l i → ¬ (o ≤ i ∧ i < o + n) := by
  refine ⟨hasE_dropRange own l o n x, ?_⟩
  rintro ⟨h, h'⟩
  induction own with
  | nil => simp [hasE] at h
  | cons y r ih =>
    cases y with
    | l p q =>
      simp only [xOp.dropRange]
      rcases (hasE_cons _ _ _).1 h with h1 | h1
      · subst h1
        split
        · rename_i hb
          simp only [Bool.and_eq_true, blt_iff] at hb
          have hp := beq_true.1 hb.1.1
          subst hp
          exact absurd ⟨Nat.le_of_ble_eq_true hb.1.2, hb.2⟩ (h' q rfl)
        · exact (hasE_cons _ _ _).2 (.inl rfl)
      · split
        · exact ih h1
        · exact (hasE_cons _ _ _).2 (.inr (ih h1))
    | _ =>
      simp only [xOp.dropRange]
      rcases (hasE_cons _ _ _).1 h with h1 | h1
      · exact (hasE_cons _ _ _).2 (.inl h1)
      · exact (hasE_cons _ _ _).2 (.inr (ih h1))

/-- is it allowed where the order is drawn? -/
def IOp.movable : IOp → Bool
  | .lnew .. => false
  | .mapNew => false
  | .mapPut .. => false
  | _ => true

theorem move_alike {s s' : S} {dd src : Nat} {v : AV} (h1 : Agree (src + 3) s s') (c : Nat) :
    (c ∈ [src + 3] ++ dwr (some dd) ∧ Agree c { env := (dd, v) :: s.env, lp := del s.lp dd, loc := s.loc, own := .t dd :: delE (delE s.own (.t dd)) (.t src), h := s.h } { env := (dd, v) :: s'.env, lp := del s'.lp dd, loc := s'.loc, own := .t dd :: delE (delE s'.own (.t dd)) (.t src), h := s'.h }) ∨
    (Agree c s { env := (dd, v) :: s.env, lp := del s.lp dd, loc := s.loc, own := .t dd :: delE (delE s.own (.t dd)) (.t src), h := s.h } ∧ Agree c s' { env := (dd, v) :: s'.env, lp := del s'.lp dd, loc := s'.loc, own := .t dd :: delE (delE s'.own (.t dd)) (.t src), h := s'.h }) := by
  match c with
  | 0 => exact .inr ⟨rfl, rfl⟩
  | 1 => exact .inr ⟨fun _ => rfl, fun _ => rfl⟩
  | 2 => exact .inr ⟨fun _ _ => eqE (by simp [hasE_delE, hasE_cons]), fun _ _ => eqE (by simp [hasE_delE, hasE_cons])⟩
  | n + 3 =>
    by_cases hn : n = dd
    · subst hn
      exact .inl ⟨by simp [dwr], by simp [get_cons], by simp [get_del], eqE (by simp [hasE_delE, hasE_cons])⟩
    · have hn' : ¬ dd = n := fun e => hn e.symm
      by_cases hs : n = src
      · subst hs
        exact .inl ⟨by simp, by simp only [get_cons, hn', if_false]; exact h1.1, by simp only [get_del, hn', if_false]; exact h1.2.1, eqE (by simp [hasE_delE, hasE_cons, hn, hn'])⟩
      · exact .inr ⟨⟨by simp [get_cons, hn'], by simp [get_del, hn'], eqE (by simp [hasE_delE, hasE_cons, hn, hn', hs])⟩, ⟨by simp [get_cons, hn'], by simp [get_del, hn'], eqE (by simp [hasE_delE, hasE_cons, hn, hn', hs])⟩⟩

theorem op_local {C : Call} {io : IOp} {d : Option Nat} {s s' t : S} (hm : io.movable = true) (h : ∀ c ∈ io.rd ++ (io.wr ++ dwr d), Agree c s s') (e : xOp C io d s some = some t) :
    ∃ t', xOp C io d s' some = some t' ∧ Alike (io.wr ++ dwr d) s t s' t' := by
  have hr : ∀ c ∈ io.rd, Agree c s s' := fun c hc => h c (List.mem_append_left _ hc)
  have hw : ∀ c ∈ io.wr ++ dwr d, Agree c s s' := fun c hc => h c (List.mem_append_right _ hc)
  have onlyD : ∀ v, io.wr = [] → Alike (io.wr ++ dwr d) s (s.out d v) s' (s'.out d v) := fun v he => by rw [he]; exact out_alike
  cases io with
  | p p xs =>
    simp only [xOp] at e ⊢
    rw [← vals_agree hr]
    split at e <;> try (cases e; done)
    rename_i vs hv
    simp only [Option.bind_eq_some_iff] at e
    obtain ⟨v, hv2, e⟩ := e
    injection e with e; subst e
    refine ⟨s'.out d v, ?_, onlyD v rfl⟩
    simp [hv2]
  | hload n ag p =>
    simp only [xOp] at e ⊢
    have h0 : s.h = s'.h := hr 0 (by simp [IOp.rd])
    rw [← val_agree (x := p) (fun c hc => hr c (by simp [IOp.rd, hc])), ← h0]
    split at e <;> try (cases e; done)
    rename_i pv hv
    simp only [Option.bind_eq_some_iff] at e
    obtain ⟨v, hv2, e⟩ := e
    injection e with e; subst e
    refine ⟨s'.out d v, ?_, onlyD v rfl⟩
    simp [hv2]
  | mapGet z ok m k =>
    simp only [xOp] at e ⊢
    have h0 : s.h = s'.h := hr 0 (by simp [IOp.rd])
    rw [← val_agree (x := m) (fun c hc => hr c (by simp [IOp.rd, hc])), ← val_agree (x := k) (fun c hc => hr c (by simp [IOp.rd, hc])), ← h0]
    split at e <;> try (cases e; done)
    rename_i mv kv hv hv'
    simp only [Option.bind_eq_some_iff] at e
    obtain ⟨v, hv2, e⟩ := e
    injection e with e; subst e
    refine ⟨s'.out d v, ?_, onlyD v rfl⟩
    simp [hv2]
  | mapLen m =>
    simp only [xOp] at e ⊢
    have h0 : s.h = s'.h := hr 0 (by simp [IOp.rd])
    rw [← val_agree (x := m) (fun c hc => hr c (by simp [IOp.rd, hc])), ← h0]
    split at e <;> try (cases e; done)
    rename_i mv hv
    simp only [Option.bind_eq_some_iff] at e
    obtain ⟨v, hv2, e⟩ := e
    injection e with e; subst e
    refine ⟨s'.out d v, ?_, onlyD v rfl⟩
    simp [hv2]
  | call f xs =>
    simp only [xOp] at e ⊢
    have h0 : s.h = s'.h := hw 0 (by simp [IOp.wr])
    rw [← vals_agree hr, ← h0]
    split at e <;> try (cases e; done)
    rename_i vs hv
    simp only [Option.bind_eq_some_iff] at e
    obtain ⟨⟨v, h'⟩, hv2, e⟩ := e
    injection e with e; subst e
    refine ⟨{ s'.out d v with h := h' }, ?_, heap_alike.more (fun c hc => ?_) hw⟩
    · simp [hv2]
    · simp only [List.mem_append, List.mem_singleton, IOp.wr] at hc ⊢; exact hc.symm
  | callv x xs =>
    simp only [xOp] at e ⊢
    have h0 : s.h = s'.h := hw 0 (by simp [IOp.wr])
    rw [← vals_agree (xs := xs) (fun c hc => hr c (by simp [IOp.rd, hc])), ← val_agree (x := x) (fun c hc => hr c (by simp [IOp.rd, hc])), ← h0]
    split at e <;> try (cases e; done)
    rename_i xv vs hv hv'
    simp only [Option.bind_eq_some_iff] at e
    obtain ⟨⟨v, h'⟩, hv2, e⟩ := e
    injection e with e; subst e
    refine ⟨{ s'.out d v with h := h' }, ?_, heap_alike.more (fun c hc => ?_) hw⟩
    · simp [hv2]
    · simp only [List.mem_append, List.mem_singleton, IOp.wr] at hc ⊢; exact hc.symm
  | hstore n ag p x =>
    simp only [xOp] at e ⊢
    have h0 : s.h = s'.h := hw 0 (by simp [IOp.wr])
    rw [← val_agree (x := p) (fun c hc => hr c (by simp [IOp.rd, hc])), ← val_agree (x := x) (fun c hc => hr c (by simp [IOp.rd, hc])), ← h0]
    split at e <;> try (cases e; done)
    rename_i pv xv hv hv'
    simp only [Option.bind_eq_some_iff] at e
    obtain ⟨h', hv2, e⟩ := e
    injection e with e; subst e
    refine ⟨{ s' with h := h' }, ?_, (heap_alike (d := none) (v := default)).more (fun c hc => ?_) hw⟩
    · simp [hv2]
    · simp only [List.mem_append, List.mem_singleton, IOp.wr, dwr] at hc ⊢; rcases hc with hc | hc
      · cases hc
      · exact .inl hc
  | hnew n ag x os =>
    simp only [xOp] at e ⊢
    have h0 : s.h = s'.h := hw 0 (by simp [IOp.wr])
    rw [← val_agree (x := x) (fun c hc => hr c (by simp [IOp.rd, hc])), ← h0]
    split at e <;> try (cases e; done)
    rename_i xv dd hv
    simp only [Option.bind_eq_some_iff] at e
    obtain ⟨v, hv2, v2, hv3, e⟩ := e
    injection e with e; subst e
    refine ⟨{ s'.put dd (.ptr s.h.size 0 0) with h := s.h.push (.cells n ag v2 os) }, ?_, (heap_alike (d := some dd) (v := .ptr s.h.size 0 0)).more (fun c hc => ?_) hw⟩
    · simp [hv2, hv3]
    · simp only [List.mem_append, List.mem_singleton, IOp.wr] at hc ⊢; exact hc.symm
  | laddr src off =>
    simp only [xOp] at e ⊢
    have h1 := hr (src + 3) (by simp [IOp.rd])
    rw [← h1.2.1]
    split at e <;> try (cases e; done)
    rename_i l o dd hl
    injection e with e; subst e
    refine ⟨_, rfl, alike_mk hw fun c => ?_⟩
    match c with
    | 0 => exact .inr ⟨rfl, rfl⟩
    | 1 => exact .inr ⟨fun _ => rfl, fun _ => rfl⟩
    | 2 => exact .inr ⟨fun _ _ => eqE (by simp [hasE_delE]), fun _ _ => eqE (by simp [hasE_delE])⟩
    | n + 3 =>
      by_cases hn : n = dd
      · subst hn
        exact .inl ⟨by simp [dwr], by simp [get_del], by simp [get_cons], eqE (by simp [hasE_delE])⟩
      · have hn' : ¬ dd = n := fun e => hn e.symm
        exact .inr ⟨⟨by simp [get_del, hn'], by simp [get_cons, hn'], eqE (by simp [hasE_delE, hn])⟩, ⟨by simp [get_del, hn'], by simp [get_cons, hn'], eqE (by simp [hasE_delE, hn])⟩⟩
  | lload src n ag =>
    simp only [xOp] at e ⊢
    have h1 := hr (src + 3) (by simp [IOp.rd])
    have h2 := hr 1 (by simp [IOp.rd])
    rw [← h1.2.1]
    split at e <;> try (cases e; done)
    rename_i l o hl
    rw [← h2 l]
    split at e <;> try (cases e; done)
    rename_i x hx
    split at e
    · injection e with e; subst e
      refine ⟨s'.out d x.v, ?_, onlyD x.v rfl⟩
      rename_i q1 q2
      simp [q1, q2]
    · rename_i q
      simp only [Option.bind_eq_some_iff] at e
      obtain ⟨v, hv2, e⟩ := e
      injection e with e; subst e
      refine ⟨s'.out d v, ?_, onlyD v rfl⟩
      simp [hv2]
  | lstore src n ag x os =>
    simp only [xOp] at e ⊢
    have h1 := hr (src + 3) (by simp [IOp.rd])
    have h2 := hw 1 (by simp [IOp.wr])
    have h2o := hw 2 (by simp [IOp.wr])
    rw [← h1.2.1, ← val_agree (x := x) (fun c hc => hr c (by simp [IOp.rd, hc]))]
    split at e <;> try (cases e; done)
    rename_i l o v hl hv
    rw [← h2 l]
    split at e <;> try (cases e; done)
    rename_i y hy
    have fin : ∀ (X : Loc) (ow ow' : List Ent), (∀ n, hasE ow (.t n) = hasE s.own (.t n)) → (∀ n, hasE ow' (.t n) = hasE s'.own (.t n)) → (∀ i j, hasE ow (.l i j) = hasE ow' (.l i j)) →
        Alike ((IOp.lstore src n ag x os).wr ++ dwr d) s { s with loc := (l, X) :: s.loc, own := ow } s' { s' with loc := (l, X) :: s'.loc, own := ow' } := by
      intro X ow ow' g1 g2 g3
      refine alike_mk hw fun c => ?_
      match c with
      | 0 => exact .inr ⟨rfl, rfl⟩
      | 1 => exact .inl ⟨by simp [IOp.wr], fun i => by simp only [get_cons, h2 i]⟩
      | 2 => exact .inl ⟨by simp [IOp.wr], g3⟩
      | n + 3 => exact .inr ⟨⟨rfl, rfl, (g1 n).symm⟩, ⟨rfl, rfl, (g2 n).symm⟩⟩
    split at e
    · rename_i q1 q2
      simp only [Option.bind_eq_some_iff] at e
      obtain ⟨u, hu, v', hcl, e⟩ := e
      injection e with e; subst e
      refine ⟨{ s' with loc := (l, ⟨n, ag, v'⟩) :: s'.loc, own := ownersOf l os ++ delLoc s'.own l }, by simp [q1, q2, hu, hcl], fin _ _ _ (fun i => eqE ?_) (fun i => eqE ?_) (fun i j => eqE ?_)⟩
      · simp [hasE_append, hasE_ownersOf, hasE_delLoc]
      · simp [hasE_append, hasE_ownersOf, hasE_delLoc]
      · simp only [hasE_append, hasE_ownersOf, hasE_delLoc, show ∀ a b, hasE s.own (.l a b) = hasE s'.own (.l a b) from h2o]
    · rename_i o1 o2 b1 b2 q
      simp only [Option.bind_eq_some_iff] at e
      obtain ⟨u, hu, e⟩ := e
      injection e with e; subst e
      refine ⟨{ s' with loc := (l, { y with v := u }) :: s'.loc, own := xOp.dropRange s'.own l o1 n }, ?_, fin _ _ _ (fun i => eqE ?_) (fun i => eqE ?_) (fun i j => eqE ?_)⟩
      · simp [hu]
      · simp [hasE_dropRange_iff]
      · simp [hasE_dropRange_iff]
      · simp only [hasE_dropRange_iff, show ∀ a b, hasE s.own (.l a b) = hasE s'.own (.l a b) from h2o]
  | onil sz =>
    simp only [xOp] at e ⊢
    split at e <;> try (cases e; done)
    rename_i dd
    injection e with e; subst e
    refine ⟨_, rfl, alike_mk hw fun c => ?_⟩
    match c with
    | 0 => exact .inr ⟨rfl, rfl⟩
    | 1 => exact .inr ⟨fun _ => rfl, fun _ => rfl⟩
    | 2 => exact .inr ⟨fun _ _ => eqE (by simp [hasE_delE, hasE_cons]), fun _ _ => eqE (by simp [hasE_delE, hasE_cons])⟩
    | n + 3 =>
      by_cases hn : n = dd
      · subst hn
        exact .inl ⟨by simp [dwr], by simp [S.put, get_cons], by simp [S.put, get_del], eqE (by simp [hasE_delE, hasE_cons])⟩
      · have hn' : ¬ dd = n := fun e => hn e.symm
        exact .inr ⟨⟨by simp [S.put, get_cons, hn'], by simp [S.put, get_del, hn'], eqE (by simp [hasE_delE, hasE_cons, hn, hn'])⟩, ⟨by simp [S.put, get_cons, hn'], by simp [S.put, get_del, hn'], eqE (by simp [hasE_delE, hasE_cons, hn, hn'])⟩⟩
  | tmov src =>
    simp only [xOp] at e ⊢
    have h1 := hw (src + 3) (by simp [IOp.wr])
    rw [← h1.1, ← h1.2.2]
    split at e <;> try (cases e; done)
    rename_i v dd hv ho
    injection e with e; subst e
    refine ⟨_, rfl, alike_mk hw fun c => ?_⟩
    exact move_alike h1 c
  | app sz bytes src y =>
    simp only [xOp] at e ⊢
    have h1 := hw (src + 3) (by simp [IOp.wr])
    rw [← h1.1, ← h1.2.2, ← val_agree (x := y) hr]
    split at e <;> try (cases e; done)
    rename_i xv yv dd hv ho hy
    simp only [Option.bind_eq_some_iff] at e
    obtain ⟨v, hv2, e⟩ := e
    injection e with e; subst e
    refine ⟨{ env := (dd, v) :: s'.env, lp := del s'.lp dd, loc := s'.loc, own := .t dd :: delE (delE s'.own (.t dd)) (.t src), h := s'.h }, by simp [hv2], alike_mk hw fun c => ?_⟩
    exact move_alike h1 c
  | take src =>
    simp only [xOp] at e ⊢
    have h1 := hr (src + 3) (by simp [IOp.rd])
    have h2 := hr 1 (by simp [IOp.rd])
    have h2o := hw 2 (by simp [IOp.wr])
    rw [← h1.2.1]
    split at e <;> try (cases e; done)
    rename_i l o dd hl
    rw [← h2 l, ← h2o l o]
    split at e <;> try (cases e; done)
    rename_i x hx ho
    simp only [Option.bind_eq_some_iff] at e
    obtain ⟨v, hv2, e⟩ := e
    injection e with e; subst e
    refine ⟨{ env := (dd, v) :: s'.env, lp := del s'.lp dd, loc := s'.loc, own := .t dd :: delE (delE s'.own (.t dd)) (.l l o), h := s'.h }, by simp only [Option.bind_eq_some_iff]; exact ⟨v, hv2, rfl⟩, alike_mk hw fun c => ?_⟩
    match c with
    | 0 => exact .inr ⟨rfl, rfl⟩
    | 1 => exact .inr ⟨fun _ => rfl, fun _ => rfl⟩
    | 2 => exact .inl ⟨by simp [IOp.wr], fun i j => eqE (by simp [hasE_delE, hasE_cons, show ∀ a b, hasE s.own (.l a b) = hasE s'.own (.l a b) from h2o])⟩
    | n + 3 =>
      by_cases hn : n = dd
      · subst hn
        exact .inl ⟨by simp [dwr, IOp.wr], by simp [get_cons], by simp [get_del], eqE (by simp [hasE_delE, hasE_cons])⟩
      · have hn' : ¬ dd = n := fun e => hn e.symm
        exact .inr ⟨⟨by simp [get_cons, hn'], by simp [get_del, hn'], eqE (by simp [hasE_delE, hasE_cons, hn, hn'])⟩, ⟨by simp [get_cons, hn'], by simp [get_del, hn'], eqE (by simp [hasE_delE, hasE_cons, hn, hn'])⟩⟩
  | give src x =>
    simp only [xOp] at e ⊢
    have h1 := hr (src + 3) (by simp [IOp.rd])
    have h2 := hw 1 (by simp [IOp.wr])
    have h2o := hw 2 (by simp [IOp.wr])
    have h3 := hw (x + 3) (by simp [IOp.wr])
    rw [← h1.2.1, ← h3.1, ← h3.2.2]
    split at e <;> try (cases e; done)
    rename_i l o v hl hv ho
    rw [← h2 l]
    split at e <;> try (cases e; done)
    rename_i y hy
    simp only [Option.bind_eq_some_iff] at e
    obtain ⟨u, hv2, e⟩ := e
    injection e with e; subst e
    refine ⟨{ s' with loc := (l, { y with v := u }) :: s'.loc, own := .l l o :: delE (delE s'.own (.l l o)) (.t x) }, by simp only [Option.bind_eq_some_iff]; exact ⟨u, hv2, rfl⟩, alike_mk hw fun c => ?_⟩
    match c with
    | 0 => exact .inr ⟨rfl, rfl⟩
    | 1 => exact .inl ⟨by simp [IOp.wr], fun i => by simp only [get_cons, h2 i]⟩
    | 2 => exact .inl ⟨by simp [IOp.wr], fun i j => eqE (by simp [hasE_delE, hasE_cons, show ∀ a b, hasE s.own (.l a b) = hasE s'.own (.l a b) from h2o])⟩
    | n + 3 =>
      by_cases hn : n = x
      · subst hn
        exact .inl ⟨by simp [IOp.wr], h3.1, h3.2.1, eqE (by simp [hasE_delE, hasE_cons])⟩
      · exact .inr ⟨⟨rfl, rfl, eqE (by simp [hasE_delE, hasE_cons, hn])⟩, ⟨rfl, rfl, eqE (by simp [hasE_delE, hasE_cons, hn])⟩⟩
  | htake q =>
    simp only [xOp] at e ⊢
    have h0 : s.h = s'.h := hw 0 (by simp [IOp.wr])
    rw [← val_agree (x := q) hr, ← h0]
    split at e <;> try (cases e; done)
    rename_i pv dd hv
    simp only [Option.bind_eq_some_iff] at e
    obtain ⟨⟨v, h'⟩, hv2, e⟩ := e
    injection e with e; subst e
    refine ⟨{ env := (dd, v) :: s'.env, lp := del s'.lp dd, loc := s'.loc, own := .t dd :: delE s'.own (.t dd), h := h' }, by simp [hv2], alike_mk hw fun c => ?_⟩
    match c with
    | 0 => exact .inl ⟨by simp [IOp.wr], rfl⟩
    | 1 => exact .inr ⟨fun _ => rfl, fun _ => rfl⟩
    | 2 => exact .inr ⟨fun _ _ => eqE (by simp [hasE_delE, hasE_cons]), fun _ _ => eqE (by simp [hasE_delE, hasE_cons])⟩
    | n + 3 =>
      by_cases hn : n = dd
      · subst hn
        exact .inl ⟨by simp [dwr, IOp.wr], by simp [get_cons], by simp [get_del], eqE (by simp [hasE_delE, hasE_cons])⟩
      · have hn' : ¬ dd = n := fun e => hn e.symm
        exact .inr ⟨⟨by simp [get_cons, hn'], by simp [get_del, hn'], eqE (by simp [hasE_delE, hasE_cons, hn, hn'])⟩, ⟨by simp [get_cons, hn'], by simp [get_del, hn'], eqE (by simp [hasE_delE, hasE_cons, hn, hn'])⟩⟩
  | hgive q x =>
    simp only [xOp] at e ⊢
    have h0 : s.h = s'.h := hw 0 (by simp [IOp.wr])
    have h3 := hw (x + 3) (by simp [IOp.wr])
    rw [← val_agree (x := q) hr, ← h0, ← h3.1, ← h3.2.2]
    split at e <;> try (cases e; done)
    rename_i pv xv hv hxv ho
    simp only [Option.bind_eq_some_iff] at e
    obtain ⟨h', hv2, e⟩ := e
    injection e with e; subst e
    refine ⟨{ s' with own := delE s'.own (.t x), h := h' }, by simp [hv2], alike_mk hw fun c => ?_⟩
    match c with
    | 0 => exact .inl ⟨by simp [IOp.wr], rfl⟩
    | 1 => exact .inr ⟨fun _ => rfl, fun _ => rfl⟩
    | 2 => exact .inr ⟨fun _ _ => eqE (by simp [hasE_delE]), fun _ _ => eqE (by simp [hasE_delE])⟩
    | n + 3 =>
      by_cases hn : n = x
      · subst hn
        exact .inl ⟨by simp [IOp.wr], h3.1, h3.2.1, eqE (by simp [hasE_delE])⟩
      · exact .inr ⟨⟨rfl, rfl, eqE (by simp [hasE_delE, hn])⟩, ⟨rfl, rfl, eqE (by simp [hasE_delE, hn])⟩⟩
  | lnew _ _ _ _ _ => cases hm
  | mapNew => cases hm
  | mapPut _ _ _ => cases hm
end Go.Abs
