/- The simulation of a frame's state, and how it lives through what the machine does. -/
import Derived.Test.YtiefbkjoldcebaaDoorXxRel
import Derived.Laws.Cells
import Derived.Laws.CopyRow
import Derived.Laws.Entries
namespace Go.Abs
variable (K : Seat)

/-- what owner cell o of a variable holds -/
def slotOf (ag : Bool) (v : AV) (o : Nat) : Option AV := if ag then v.cells[o]? else if o = 0 then some v else none

def LocOk (F : FZ) (β : BM) (ρ : Roles) (own : List Ent) (w : World) (l : Nat) (x : Loc) : Prop :=
  ∃ k, ρ k = some (.loc l) ∧ ∃ m ty, Rel K F β x.v m ∧ shape x.n x.agg x.v = some x.v ∧ w.heap[k]? = some (.cells m.cells ty (0, 0)) ∧
    ∀ o, hasE own (.l l o) = true → ∃ sz xs, slotOf x.agg x.v o = some (.list false sz xs) ∧ ∃ mo, m.cells[o]? = some mo ∧ Own F ρ w (.l l o) sz xs.length mo

structure FSim (F : FZ) (β : BM) (ρ : Roles) (s : S) (a : Act) (w : World) : Prop where
  heap : HSim K F β ρ s.h w
  env : ∀ t v, get s.env t = some v → t < a.tmps.size ∧ Rel K F β v (a.tmps.getD t undef)
  lp : ∀ t l o, get s.lp t = some (l, o) → t < a.tmps.size ∧ ∃ k, ρ k = some (.loc l) ∧ a.tmps.getD t undef = .pointer (some ⟨k, o, none⟩)
  loc : ∀ l x, get s.loc l = some x → LocOk K F β ρ s.own w l x
  locs : ∀ k l, ρ k = some (.loc l) → (∀ o, F k o = none) ∧ (∀ k', ρ k' = some (.loc l) → k = k')
  own : ∀ t, hasE s.own (.t t) = true → ∃ sz xs, get s.env t = some (.list false sz xs) ∧ Own F ρ w (.t t) sz xs.length (a.tmps.getD t undef)
  defers : a.defers = []

def thaw : Obj → Bool
  | .cells _ _ fr => fr == (0, 0)
  | _ => true
theorem frozen_alloc (w : World) (o : Obj) (ho : thaw o = true) (a : Addr) : (w.alloc o).frozen? a = w.frozen? a := by
  by_cases h : a.block < w.heap.size
  · simp only [World.frozen?]
    rw [heap_alloc_old w o a.block h]
  · have e2 : w.heap[a.block]? = none := Array.getElem?_eq_none (by omega)
    by_cases h' : a.block = w.heap.size
    · have e1 : (w.alloc o).heap[a.block]? = some o := by rw [h']; exact heap_alloc_new w o
      simp only [World.frozen?, e1, e2]
      cases o with
      | cells c t fr =>
        have : fr = (0, 0) := by simpa [thaw] using ho
        subst this
        simp
      | _ => rfl
    · have e1 : (w.alloc o).heap[a.block]? = none := Array.getElem?_eq_none (by simp; omega)
      simp only [World.frozen?, e1, e2]
theorem frozen_setRow (w : World) (k : Nat) (c : Array Value) (a : Addr) : (w.setRow k c).frozen? a = w.frozen? a := by
  simp only [World.frozen?, World.setRow, Array.getElem?_modify]
  by_cases e : k = a.block
  · rw [if_pos e]
    cases w.heap[a.block]? with
    | none => rfl
    | some o => cases o <;> rfl
  · rw [if_neg e]

/-- what a step leaves alone -/
structure Keep (F : FZ) (β : BM) (ρ : Roles) (w : World) (F' : FZ) (β' : BM) (ρ' : Roles) (w' : World) : Prop where
  fz : FLe F F'
  new : ∀ k o, F' k o ≠ none → F k o = none → w.heap.size ≤ k ∨ ρ k ≠ none
  bm : BLe β β'
  blk : ∀ k, k < w.heap.size → ρ k = none → w'.heap[k]? = w.heap[k]?
  size : w.heap.size ≤ w'.heap.size
  role : ∀ k, ρ' k ≠ none → k < w.heap.size → ρ k ≠ none
  os : w'.os = w.os
  tape : w'.tape = w.tape
  output : w'.output = w.output
  frz : ∀ a, w'.frozen? a = w.frozen? a

theorem Keep.refl (F : FZ) (β : BM) (ρ : Roles) (w : World) : Keep F β ρ w F β ρ w :=
  ⟨FLe.refl _, fun _ _ h h' => absurd h' h, BLe.refl _, fun _ _ _ => rfl, Nat.le_refl _, fun _ h _ => h, rfl, rfl, rfl, fun _ => rfl⟩
theorem Keep.trans {F F1 F2 : FZ} {β β1 β2 : BM} {ρ ρ1 ρ2 : Roles} {w w1 w2 : World} (h : Keep F β ρ w F1 β1 ρ1 w1) (h' : Keep F1 β1 ρ1 w1 F2 β2 ρ2 w2) : Keep F β ρ w F2 β2 ρ2 w2 where
  fz := h.fz.trans h'.fz
  new := by
    intro k o h2 h0
    by_cases h1 : F1 k o = none
    · rcases h'.new k o h2 h1 with hk | hk
      · exact .inl (Nat.le_trans h.size hk)
      · by_cases hlt : k < w.heap.size
        · exact .inr (h.role k hk hlt)
        · exact .inl (by omega)
    · exact h.new k o h1 h0
  bm := h.bm.trans h'.bm
  blk := by
    intro k hk hr
    have h1 : ρ1 k = none := by
      by_cases e : ρ1 k = none
      · exact e
      · exact absurd hr (h.role k e hk)
    rw [h'.blk k (Nat.lt_of_lt_of_le hk h.size) h1, h.blk k hk hr]
  size := Nat.le_trans h.size h'.size
  role := fun k h2 hk => h.role k (h'.role k h2 (Nat.lt_of_lt_of_le hk h.size)) hk
  os := h'.os.trans h.os
  tape := h'.tape.trans h.tape
  output := h'.output.trans h.output
  frz := fun a => (h'.frz a).trans (h.frz a)

/-- new frozen memory, draws: nothing else -/
structure Grow (F : FZ) (w : World) (F' : FZ) (w' : World) : Prop where
  fz : FLe F F'
  new : ∀ k o, F' k o ≠ none → F k o = none → w.heap.size ≤ k
  cells : ∀ k o x, F' k o = some x → F k o = none → w'.cell? ⟨k, o, none⟩ = some x
  blk : ∀ k, k < w.heap.size → w'.heap[k]? = w.heap[k]?
  size : w.heap.size ≤ w'.heap.size
  os : w'.os = w.os
  tape : w'.tape = w.tape
  output : w'.output = w.output
  frz : ∀ a, w'.frozen? a = w.frozen? a

theorem Grow.refl (F : FZ) (w : World) : Grow F w F w := ⟨FLe.refl _, fun _ _ h h' => absurd h' h, (fun _ _ _ h h' => by rw [h'] at h; cases h), fun _ _ => rfl, Nat.le_refl _, rfl, rfl, rfl, fun _ => rfl⟩
theorem Grow.drew (F : FZ) (w : World) : Grow F w F { w with drawn := w.drawn + 1 } := ⟨FLe.refl _, fun _ _ h h' => absurd h' h, (fun _ _ _ h h' => by rw [h'] at h; cases h), fun _ _ => rfl, Nat.le_refl _, rfl, rfl, rfl, fun _ => rfl⟩
theorem Grow.keep {F F' : FZ} {w w' : World} (h : Grow F w F' w') (β : BM) (ρ : Roles) : Keep F β ρ w F' β ρ w' :=
  ⟨h.fz, fun k o a b => .inl (h.new k o a b), BLe.refl _, fun k hk _ => h.blk k hk, h.size, fun _ h _ => h, h.os, h.tape, h.output, h.frz⟩

/-- new cells, frozen at once -/
def FZ.add (F : FZ) (k : Nat) (c : Array Value) : FZ := fun k' o => if k' = k then c[o]? else F k' o
theorem fz_lt {F : FZ} {w : World} (hF : ∀ k o x, F k o = some x → w.cell? ⟨k, o, none⟩ = some x) {k o : Nat} {x : Value} (h : F k o = some x) : k < w.heap.size :=
  World.block_lt_of_cell? w _ (hF k o x h)
theorem Grow.alloc {F : FZ} {w : World} (hF : ∀ k o x, F k o = some x → w.cell? ⟨k, o, none⟩ = some x) (c : Array Value) (ty : TypeId) :
    Grow F w (F.add w.heap.size c) (w.alloc (.cells c ty)) where
  fz := by
    intro k o x h
    have := fz_lt hF h
    simp only [FZ.add]
    rw [if_neg (by omega)]
    exact h
  new := by
    intro k o h h0
    simp only [FZ.add] at h
    by_cases e : k = w.heap.size
    · omega
    · rw [if_neg e] at h; exact absurd h0 h
  cells := by
    intro k o x h h0
    simp only [FZ.add] at h
    by_cases e : k = w.heap.size
    · rw [if_pos e] at h; subst e
      rw [World.cell?_alloc_new]; exact h
    · rw [if_neg e] at h; rw [h0] at h; cases h
  blk := fun k hk => heap_alloc_old w _ k hk
  size := by simp
  os := rfl
  tape := rfl
  output := rfl
  frz := frozen_alloc w _ rfl

variable {K}
variable {F F' : FZ} {β : BM} {ρ : Roles} {w w' : World}

theorem cell_same {k o : Nat} (h : w'.heap[k]? = w.heap[k]?) : w'.cell? ⟨k, o, none⟩ = w.cell? ⟨k, o, none⟩ := by simp [World.cell?, h]

/-- an owner's list lives on where its block does -/
theorem Own.keep {e : Ent} {sz n : Nat} {v : Value} {ρ' : Roles} (h : Own F ρ w e sz n v) (hb : ∀ g, ρ g = some (.ent e) → ρ' g = some (.ent e) ∧ w'.heap[g]? = w.heap[g]? ∧ (∀ o, F g o = none → F' g o = none)) : Own F' ρ' w' e sz n v := by
  rcases h with ⟨rfl, rfl⟩ | ⟨g, cap, cur, ty, rfl, hr, hg, h1, h2, h3, h4⟩
  · exact .inl ⟨rfl, rfl⟩
  · obtain ⟨a, b, c⟩ := hb g hr
    exact .inr ⟨g, cap, cur, ty, rfl, a, b.trans hg, h1, h2, h3, fun o ho => c o (h4 o ho)⟩

theorem BlkOk.keep {b g k : Nat} {x : Blk} {β' : BM} {ρ' : Roles} (h : BlkOk K F β ρ w b g k x) (hF : FLe F F') (hB : BLe β β') (hk : w'.heap[k]? = w.heap[k]?)
    (he : ∀ o g, ρ g = some (.ent (.h b o)) → ρ' g = some (.ent (.h b o)) ∧ w'.heap[g]? = w.heap[g]? ∧ (∀ i, F g i = none → F' g i = none)) : BlkOk K F' β' ρ' w' b g k x := by
  cases x with
  | cells n ag v os =>
    obtain ⟨hg, m, c, ty, h1, h2, h3, h4, h5⟩ := h
    refine ⟨hg, m, c, ty, h1.mono hF hB, h2, h3, hk.trans h4, fun o ho => ?_⟩
    obtain ⟨sz, xs, e, mo, hm, hown⟩ := h5 o ho
    exact ⟨sz, xs, e, mo, hm, hown.keep (fun g hg => he o g hg)⟩
  | arr g' sz cs =>
    obtain ⟨hg, c, ty, h1, h2, h3⟩ := h
    exact ⟨hg, c, ty, h1.mono hF hB, h2, hk.trans h3⟩
  | map es =>
    obtain ⟨hg, ms, clock, ⟨h1, h1'⟩, h2⟩ := h
    exact ⟨hg, ms, clock, ⟨h1.mono hF hB, h1'.mono hF hB⟩, hk.trans h2⟩

theorem HSim.grow {h : H} (hs : HSim K F β ρ h w) (g : Grow F w F' w') : HSim K F' β ρ h w' where
  glob := fun k o x h => g.fz _ _ _ (hs.glob k o x h)
  len := hs.len
  low := hs.low
  blk := by
    intro b x hx
    obtain ⟨gn, k, hb, hr, hok⟩ := hs.blk b x hx
    exact ⟨gn, k, hb, hr, hok.keep g.fz (BLe.refl _) (g.blk k (hs.role k _ hr)) (fun o k hr => ⟨hr, g.blk k (hs.role k _ hr), fun i hi => by
      have hk := hs.role k _ hr
      by_cases e : F' k i = none
      · exact e
      · have := g.new k i e hi; omega⟩)⟩
  fz := by
    intro k o x hx
    by_cases e : F k o = none
    · exact g.cells k o x hx e
    · obtain ⟨y, hy⟩ := Option.ne_none_iff_exists'.1 e
      have h1 := g.fz k o y hy
      rw [hx] at h1; injection h1 with h1; subst h1
      have hc := hs.fz k o x hy
      rw [cell_same (g.blk k (fz_lt hs.fz hy))]; exact hc
  free := by
    intro k b hr o
    by_cases e : F' k o = none
    · exact e
    · have := g.new k o e (hs.free k b hr o)
      have := hs.role k _ hr
      omega
  role := fun k r hr => Nat.lt_of_lt_of_le (hs.role k r hr) g.size
  ents := hs.ents
  heaps := hs.heaps

theorem FSim.grow {s : S} {a : Act} (hs : FSim K F β ρ s a w) (g : Grow F w F' w') : FSim K F' β ρ s a w' := by
  have fnone : ∀ k r, ρ k = some r → ∀ o, F k o = none → F' k o = none := by
    intro k r hr o ho
    by_cases e : F' k o = none
    · exact e
    · have := g.new k o e ho
      have := hs.heap.role k r hr
      omega
  have okeep : ∀ (e : Ent) g', ρ g' = some (.ent e) → ρ g' = some (.ent e) ∧ w'.heap[g']? = w.heap[g']? ∧ (∀ o, F g' o = none → F' g' o = none) :=
    fun e g' hr => ⟨hr, g.blk g' (hs.heap.role g' _ hr), fun o ho => fnone g' _ hr o ho⟩
  exact {
    heap := hs.heap.grow g
    env := fun t v h => ⟨(hs.env t v h).1, (hs.env t v h).2.mono g.fz (BLe.refl _)⟩
    lp := hs.lp
    loc := by
      intro l x hx
      obtain ⟨k, hr, m, ty, h1, h2, h3, h4⟩ := hs.loc l x hx
      refine ⟨k, hr, m, ty, h1.mono g.fz (BLe.refl _), h2, (g.blk k (hs.heap.role k _ hr)).trans h3, fun o ho => ?_⟩
      obtain ⟨sz, xs, e, mo, hm, hown⟩ := h4 o ho
      exact ⟨sz, xs, e, mo, hm, hown.keep (okeep _)⟩
    locs := fun k l hr => ⟨fun o => fnone k _ hr o ((hs.locs k l hr).1 o), (hs.locs k l hr).2⟩
    own := by
      intro t ht
      obtain ⟨sz, xs, e, hown⟩ := hs.own t ht
      exact ⟨sz, xs, e, hown.keep (okeep _)⟩
    defers := hs.defers }

/-! ### Lookups -/
theorem beq_true {a b : Nat} : Nat.beq a b = true ↔ a = b := by simp
theorem beq_false {a b : Nat} : Nat.beq a b = false ↔ a ≠ b := by
  constructor
  · intro h e; subst e; simp at h
  · intro h; cases hb : Nat.beq a b
    · rfl
    · exact absurd (beq_true.1 hb) h
theorem get_cons {α : Type} (k : Nat) (v : α) (r : List (Nat × α)) (n : Nat) : get ((k, v) :: r) n = if k = n then some v else get r n := by
  simp only [get]
  cases hb : Nat.beq k n
  · rw [if_neg (beq_false.1 hb)]
  · rw [if_pos (beq_true.1 hb)]
theorem get_del {α : Type} (l : List (Nat × α)) (d n : Nat) : get (del l d) n = if d = n then none else get l n := by
  induction l with
  | nil => simp [del, get]
  | cons x r ih =>
    obtain ⟨k, v⟩ := x
    simp only [del]
    cases hb : Nat.beq k d
    · rw [get_cons, ih, get_cons]
      have := beq_false.1 hb
      by_cases e : k = n
      · subst e; rw [if_pos rfl, if_pos rfl, if_neg (fun h => this h.symm)]
      · rw [if_neg e, if_neg e]
    · have := beq_true.1 hb
      subst this
      simp only [ih, get_cons]
      by_cases e : k = n
      · rw [if_pos e, if_pos e]
      · rw [if_neg e, if_neg e, if_neg e]
theorem get_delLp (l : List (Nat × (Nat × Nat))) (i n : Nat) (x : Nat × Nat) (h : get (delLp l i) n = some x) : get l n = some x ∧ x.1 ≠ i := by
  induction l with
  | nil => simp [delLp, get] at h
  | cons y r ih =>
    obtain ⟨t, l', o⟩ := y
    simp only [delLp] at h
    cases hb : Nat.beq l' i
    · rw [hb] at h
      simp only at h
      rw [get_cons] at h ⊢
      have hne := beq_false.1 hb
      by_cases e : t = n
      · rw [if_pos e] at h ⊢; injection h with h; subst h; exact ⟨rfl, hne⟩
      · rw [if_neg e] at h ⊢; exact ih h
    · rw [hb] at h
      simp only [get_del] at h
      rw [get_cons]
      by_cases e : t = n
      · rw [if_pos e] at h; cases h
      · rw [if_neg e] at h ⊢; exact ih h
theorem Ent.beq_iff (a b : Ent) : Ent.beq a b = true ↔ a = b := by
  cases a <;> cases b <;> simp [Ent.beq]
theorem hasE_cons (e x : Ent) (r : List Ent) : hasE (e :: r) x = true ↔ e = x ∨ hasE r x = true := by
  simp only [hasE]
  cases hb : Ent.beq e x
  · have : e ≠ x := fun h => by rw [(Ent.beq_iff e x).2 h] at hb; cases hb
    simp [this]
  · simp [(Ent.beq_iff e x).1 hb]
theorem hasE_delE (l : List Ent) (e x : Ent) : hasE (delE l e) x = true ↔ hasE l x = true ∧ x ≠ e := by
  induction l with
  | nil => simp [delE, hasE]
  | cons y r ih =>
    simp only [delE]
    cases hb : Ent.beq y e
    · have hne : y ≠ e := fun h => by rw [(Ent.beq_iff y e).2 h] at hb; cases hb
      simp only [hasE_cons, ih]
      constructor
      · rintro (rfl | ⟨h, h'⟩)
        · exact ⟨.inl rfl, hne⟩
        · exact ⟨.inr h, h'⟩
      · rintro ⟨rfl | h, h'⟩
        · exact .inl rfl
        · exact .inr ⟨h, h'⟩
    · have he := (Ent.beq_iff y e).1 hb
      subst he
      simp only [hasE_cons, ih]
      constructor
      · rintro ⟨h, h'⟩; exact ⟨.inr h, h'⟩
      · rintro ⟨rfl | h, h'⟩
        · exact absurd rfl h'
        · exact ⟨h, h'⟩
theorem hasE_delLoc (l : List Ent) (i : Nat) (x : Ent) : hasE (delLoc l i) x = true ↔ hasE l x = true ∧ ∀ o, x ≠ .l i o := by
  induction l with
  | nil => simp [delLoc, hasE]
  | cons y r ih =>
    cases y with
    | l a b =>
      simp only [delLoc]
      cases hb : Nat.beq a i
      · have hne := beq_false.1 hb
        simp only [hasE_cons, ih]
        constructor
        · rintro (rfl | ⟨h, h'⟩)
          · exact ⟨.inl rfl, fun o h => by injection h with h _; exact hne h⟩
          · exact ⟨.inr h, h'⟩
        · rintro ⟨rfl | h, h'⟩
          · exact .inl rfl
          · exact .inr ⟨h, h'⟩
      · have he := beq_true.1 hb
        subst he
        simp only [hasE_cons, ih]
        constructor
        · rintro ⟨h, h'⟩; exact ⟨.inr h, h'⟩
        · rintro ⟨rfl | h, h'⟩
          · exact absurd rfl (h' b)
          · exact ⟨h, h'⟩
    | _ =>
      simp only [delLoc, hasE_cons, ih]
      constructor
      · rintro (rfl | ⟨h, h'⟩)
        · exact ⟨.inl rfl, fun o h => by cases h⟩
        · exact ⟨.inr h, h'⟩
      · rintro ⟨rfl | h, h'⟩
        · exact .inl rfl
        · exact .inr ⟨h, h'⟩

/-! ### A temporary is written -/
theorem put_get (a : Act) (d t : Nat) (m : Value) (hd : d < a.tmps.size) : (a.put (some d) m).tmps.getD t undef = if d = t then m else a.tmps.getD t undef := by
  simp only [Act.put, Array.getD_eq_getD_getElem?, Array.getElem?_setIfInBounds]
  by_cases e : d = t
  · subst e; simp [hd]
  · simp [e]
theorem put_size (a : Act) (d : Option Nat) (m : Value) : (a.put d m).tmps.size = a.tmps.size := by
  cases d <;> simp [Act.put]
theorem put_defers (a : Act) (d : Option Nat) (m : Value) : (a.put d m).defers = a.defers := by cases d <;> rfl

theorem FSim.put {s : S} {a : Act} (hs : FSim K F β ρ s a w) (d : Nat) (v : AV) (m : Value) (hd : d < a.tmps.size) (h : Rel K F β v m) :
    FSim K F β ρ (s.put d v) (a.put (some d) m) w where
  heap := hs.heap
  env := by
    intro t x hx
    simp only [S.put, get_cons] at hx
    rw [put_size, put_get a d t m hd]
    by_cases e : d = t
    · rw [if_pos e] at hx ⊢; injection hx with hx; subst hx; exact ⟨e ▸ hd, h⟩
    · rw [if_neg e] at hx ⊢; exact hs.env t x hx
  lp := by
    intro t l o hx
    simp only [S.put, get_del] at hx
    by_cases e : d = t
    · rw [if_pos e] at hx; cases hx
    · rw [if_neg e] at hx
      rw [put_size, put_get a d t m hd, if_neg e]; exact hs.lp t l o hx
  loc := by
    intro l x hx
    obtain ⟨k, hr, m', ty, h1, h2, h3, h4⟩ := hs.loc l x hx
    exact ⟨k, hr, m', ty, h1, h2, h3, fun o ho => h4 o ((hasE_delE _ _ _).1 ho).1⟩
  locs := hs.locs
  own := by
    intro t ht
    obtain ⟨ht, hne⟩ := (hasE_delE _ _ _).1 ht
    have hne' : d ≠ t := fun e => hne (by rw [e])
    obtain ⟨sz, xs, e, hown⟩ := hs.own t ht
    refine ⟨sz, xs, ?_, ?_⟩
    · simp only [S.put, get_cons]; rw [if_neg hne']; exact e
    · rw [put_get a d t m hd, if_neg hne']; exact hown
  defers := by rw [put_defers]; exact hs.defers
theorem FSim.out {s : S} {a : Act} (hs : FSim K F β ρ s a w) (d : Option Nat) (v : AV) (m : Value) (hd : ∀ x, d = some x → x < a.tmps.size) (h : Rel K F β v m) :
    FSim K F β ρ (s.out d v) (a.put d m) w := by
  cases d with
  | none => exact hs
  | some d => exact hs.put d v m (hd d rfl) h
end Go.Abs
