/- Operations with an effect on a frame's state, and calls. -/
import Derived.Test.YtiefbkjoldcebaaDoorXxTouch
namespace Go.Abs
variable (K : Seat)

def Callable (f : Nat) : Prop := ∃ fn, K.P.funcs[K.φ f]? = some fn ∧ fn.body.isNone = false ∧ (fn.name == "runtime.NumGoroutine") = false
def onlyH (ρ : Roles) : Prop := ∀ k r, ρ k = some r → r.isH = true
/-- what the abstract calls say is so -/
def CallsOK (C : Call) : Prop := ∀ f args h v h', C f args h = some (v, h') → Callable K f ∧
  ∀ F β ρ w ms, HSim K F β ρ h w → onlyH ρ → RelL K F β args ms →
    Calls K.P (K.φ f) ms.toArray w fun e w' => ∃ m F' β' ρ', e = .returned m ∧ h'.floors = h.floors ∧ HSim K F' β' ρ' h' w' ∧ onlyH ρ' ∧ Rel K F' β' v m ∧ Keep F β ρ w F' β' ρ' w'

def zeroVal (t : TypeId) (v : AV) : Bool := match K.P.info? t with
  | some i => match i.zero with
    | some z => valOk K v z
    | none => false
  | none => false
def appOk (t u : TypeId) (sz bytes : Nat) : Bool := match K.P.underlying t with
  | some (.slice e) => match K.P.info? e with
    | some i => Nat.beq i.size sz && Nat.beq i.bytes bytes && !(Nat.beq sz 0) && (match i.zero with | some z => Nat.beq z.cells.size sz | none => false) && isSl K.P u
    | none => false
  | _ => false
def callOk (g : FuncId) : Bool := match K.P.funcs[g]? with
  | some fn => !fn.body.isNone && !(fn.name == "runtime.NumGoroutine")
  | none => false
def isTmp (x : Operand) (n : Nat) : Bool := match x with | .tmp m => Nat.beq m n | _ => false
def isNil (x : Operand) : Bool := match x with | .const (.slice none 0 0) => true | _ => false
def notD (d : Option Nat) (n : Nat) : Bool := match d with | some d => !(Nat.beq d n) | none => false
def checkX (io : IOp) (d : Option Nat) (o : Op) : Bool :=
  match io, o with
  | .p p xs, o => checkP K p xs o
  | .lnew _ n ag x _, .box t X => tyOk K.P t n ag && opdOk K x X && d.isSome
  | .lnew _ n ag (.c v) _, .alloc t => tyOk K.P t n ag && zeroVal K t v && d.isSome
  | .laddr src off, .fieldAddr t X i => isTmp X src && fieldOk K.P t i off && d.isSome
  | .lload src n ag, .load t X => isTmp X src && tyOk K.P t n ag
  | .lstore src n ag x _, .store t X Y => isTmp X src && tyOk K.P t n ag && opdOk K x Y && d.isNone
  | .onil _, .assign X => isNil X
  | .onil _, .move X => isNil X
  | .tmov src, .assign X => isTmp X src && notD d src
  | .tmov src, .move X => isTmp X src && notD d src
  | .take src, .load t X => isTmp X src && tyOk K.P t 1 false
  | .app sz bytes src y, .call { callee := .builtin .append, args := A, argTypes := T } => Nat.beq A.size 2 && Nat.beq T.size 2 && isTmp (A.getD 0 default) src && opdOk K y (A.getD 1 default) && appOk K (T.getD 0 0) (T.getD 1 0) sz bytes && notD d src
  | .give src x, .store t X Y => isTmp X src && isTmp Y x && tyOk K.P t 1 false && d.isNone
  | .hnew n ag x _, .box t X => tyOk K.P t n ag && opdOk K x X && d.isSome
  | .hnew n ag (.c v) _, .alloc t => tyOk K.P t n ag && zeroVal K t v && d.isSome
  | .hload n ag p, .load t X => opdOk K p X && tyOk K.P t n ag
  | .hstore n ag p x, .store t X Y => opdOk K p X && tyOk K.P t n ag && opdOk K x Y && d.isNone
  | .htake p, .load t X => opdOk K p X && tyOk K.P t 1 false && d.isSome
  | .hgive p x, .store t X Y => opdOk K p X && isTmp Y x && tyOk K.P t 1 false && d.isNone
  | .call f xs, .call { callee := .value (.func g), args := A, argTypes := _ } => K.φ f == g && opdsOk K xs A.toList
  | .callv x xs, .call { callee := .value X, args := A, argTypes := _ } => opdOk K x X && opdsOk K xs A.toList
  | _, _ => false

variable {K}
variable {F F' : FZ} {β : BM} {ρ : Roles} {w : World} {s : S} {a : Act}

/-- what a step must lead to -/
def Post (K : Seat) (F : FZ) (β : BM) (ρ : Roles) (w : World) (s : S) (a : Act) (k : S → R) (r : AV × H) (next : Act → World → Prop) : Prop :=
  ∀ s' F' β' ρ' a' w', FSim K F' β' ρ' s' a' w' → a'.tmps.size = a.tmps.size → Keep F β ρ w F' β' ρ' w' → s'.h.floors = s.h.floors → k s' = some r → next a' w'

theorem wp_value {o : Oper} {m : Value} {w' : World} {next : Act → World → Prop} {Q : Exit → Act → World → Prop} (h : (execOp a.eval o).run K.P w = .ok (.value m) w') (hn : next (a.put o.dst m) w') : o.wp K.P a w next Q := by
  unfold Oper.wp; rw [h]; exact hn
theorem wp_skip' {o : Oper} {w' : World} {next : Act → World → Prop} {Q : Exit → Act → World → Prop} (h : (execOp a.eval o).run K.P w = .ok .skip w') (hn : next (a.put o.dst undef) w') : o.wp K.P a w next Q := by
  unfold Oper.wp; rw [h]; exact hn

theorem isTmp_eq {x : Operand} {n : Nat} (h : isTmp x n = true) : x = .tmp n := by
  unfold isTmp at h; split at h
  · rw [beq_true.1 h]
  · cases h
theorem isNil_eq {x : Operand} (h : isNil x = true) : x = .const (.slice none 0 0) := by
  unfold isNil at h; split at h
  · rfl
  · cases h

theorem floors_out (s : S) (d : Option Nat) (v : AV) : (s.out d v).h = s.h := by cases d <;> rfl
theorem dst_lt {d : Option Nat} {N : Nat} (h : ∀ x, d = some x → x < N) : ∀ x, d = some x → x < N := h

theorem s_pure (hs : FSim K F β ρ s a w) {p : POp} {xs : List Opd} {o : Oper} {C : Call} {k : S → R} {r : AV × H} {next : Act → World → Prop} {Q : Exit → Act → World → Prop}
    (h : checkP K p xs o.op = true) (hd : ∀ x, o.dst = some x → x < a.tmps.size) (e : xOp C (.p p xs) o.dst s k = some r) (hp : Post K F β ρ w s a k r next) : o.wp K.P a w next Q := by
  simp only [xOp] at e
  cases hv : vals s xs with
  | none => rw [hv] at e; cases e
  | some vs =>
    rw [hv] at e
    simp only [Option.bind_eq_some_iff] at e
    obtain ⟨v, hv2, e⟩ := e
    obtain ⟨m, w', F', hrun, hg, hr⟩ := pure_ok hs h hv hv2
    exact wp_value hrun (hp _ F' β ρ _ w' ((hs.grow hg).out o.dst v m hd hr) (put_size _ _ _) (hg.keep β ρ) (by rw [floors_out]) e)

def Ent.isFrame : Ent → Bool
  | .h _ _ => false
  | _ => true
theorem hasE_step {own : List Ent} {d : Nat} {e x : Ent} (h : hasE (.t d :: delE (delE own (.t d)) e) x = true) : x = .t d ∨ hasE own x = true ∧ x ≠ .t d ∧ x ≠ e := by
  rcases (hasE_cons _ _ _).1 h with h | h
  · exact .inl h.symm
  · obtain ⟨h, h2⟩ := (hasE_delE _ _ _).1 h
    obtain ⟨h, h1⟩ := (hasE_delE _ _ _).1 h
    exact .inr ⟨h, h1, h2⟩
/-- a list comes to be owned by temporary d; entity e, if it owned it, doesn't any more -/
theorem FSim.ownMove (hs : FSim K F β ρ s a w) {w' : World} {ρ' : Roles} {kk d : Nat} {e : Ent} {nl : Bool} {sz : Nat} {xs : List AV} {m : Value} (t : Touch F w F' w' kk) (hkk : w.heap.size ≤ kk ∨ ρ kk = some (.ent e)) (he : e.isFrame = true)
    (hd : d < a.tmps.size) (hρ : ∀ k r, r ≠ .ent (.t d) → r ≠ .ent e → (ρ' k = some r ↔ ρ k = some r)) (hρe : e = .t d ∨ ∀ k, ρ' k ≠ some (.ent e)) (hrole : ∀ j r, ρ' j = some r → j < w'.heap.size)
    (hnl : nl = false) (hv : Rel K F' β (.list nl sz xs) m) (hown : Own F' ρ' w' (.t d) sz xs.length m) :
    FSim K F' β ρ' { env := (d, .list nl sz xs) :: s.env, lp := del s.lp d, loc := s.loc, own := .t d :: delE (delE s.own (.t d)) e, h := s.h } (a.put (some d) m) w' := by
  have notk : ∀ j r, ρ j = some r → r ≠ .ent e → j ≠ kk := by
    intro j r hr hne hj
    subst hj
    rcases hkk with h | h
    · have := hs.heap.role j r hr; omega
    · rw [h] at hr; injection hr with hr; exact hne hr.symm
  have keepE : ∀ (x : Ent), x ≠ .t d → x ≠ e → ∀ j, ρ j = some (.ent x) → j < w.heap.size ∧ ρ' j = some (.ent x) := by
    intro x h1 h2 j hj
    exact ⟨hs.heap.role j _ hj, (hρ j _ (fun h => h1 (by injection h)) (fun h => h2 (by injection h))).2 hj⟩
  have notE : ∀ (x : Ent), x ≠ e → ρ kk ≠ some (.ent x) := by
    intro x hx h
    exact notk kk _ h (fun h => hx (by injection h)) rfl
  exact {
    heap := by
      refine hs.heap.touch t (fun r hr => ?_) (fun j r hr => hρ j r (fun h => by subst h; simp [Role.isH] at hr) (fun h => by subst h; cases e <;> simp [Role.isH, Ent.isFrame] at hr he)) hrole
      rcases hkk with h | h
      · have := hs.heap.role kk r hr; omega
      · rw [h] at hr; injection hr with hr; subst hr; cases e <;> first | rfl | (simp [Ent.isFrame] at he)
    env := by
      intro i v hx
      simp only [get_cons] at hx
      rw [put_size, put_get a d i m hd]
      by_cases hi : d = i
      · rw [if_pos hi] at hx ⊢; injection hx with hx; subst hx; exact ⟨hi ▸ hd, hv⟩
      · rw [if_neg hi] at hx ⊢; exact ⟨(hs.env i v hx).1, (hs.env i v hx).2.mono t.fz (BLe.refl _)⟩
    lp := by
      intro i l o hx
      simp only [get_del] at hx
      by_cases hi : d = i
      · rw [if_pos hi] at hx; cases hx
      · rw [if_neg hi] at hx
        rw [put_size, put_get a d i m hd, if_neg hi]
        obtain ⟨h1, k, h2, h3⟩ := hs.lp i l o hx
        exact ⟨h1, k, (hρ k _ (by simp) (by simp)).2 h2, h3⟩
    loc := by
      intro l x hx
      obtain ⟨k, hr, m', ty, h1, h2, h3, h4⟩ := hs.loc l x hx
      have hk := notk k _ hr (by simp)
      refine ⟨k, (hρ k _ (by simp) (by simp)).2 hr, m', ty, h1.mono t.fz (BLe.refl _), h2, (t.blk k hk (hs.heap.role k _ hr)).trans h3, fun o ho => ?_⟩
      rcases hasE_step ho with h | ⟨h, h', h''⟩
      · cases h
      · obtain ⟨sz', ys, e1, mo, hm, ho'⟩ := h4 o h
        exact ⟨sz', ys, e1, mo, hm, ho'.touch t (notE _ h'') (keepE _ h' h'')⟩
    locs := by
      intro k l hr
      have h0 := (hρ k _ (by simp) (by simp)).1 hr
      have hk := notk k _ h0 (by simp)
      exact ⟨fun o => by rw [t.other k hk]; exact (hs.locs k l h0).1 o, fun k' hk' => (hs.locs k l h0).2 k' ((hρ k' _ (by simp) (by simp)).1 hk')⟩
    own := by
      intro i hi
      rcases hasE_step hi with h | ⟨h, h', h''⟩
      · injection h with h
        subst h
        refine ⟨sz, xs, by simp [get_cons, hnl], ?_⟩
        rw [put_get a i i m hd, if_pos rfl]; exact hown
      · have hne : d ≠ i := fun e => h' (by rw [e])
        obtain ⟨sz', ys, e1, ho'⟩ := hs.own i h
        refine ⟨sz', ys, ?_, ?_⟩
        · simp only [get_cons]; rw [if_neg hne]; exact e1
        · rw [put_get a d i m hd, if_neg hne]; exact ho'.touch t (notE _ h'') (keepE _ h' h'')
    defers := by rw [put_defers]; exact hs.defers }

/-- the roles when e's block becomes d's -/
def Roles.swap (ρ : Roles) (e : Ent) (d : Nat) : Roles := fun k => if ρ k = some (.ent e) then some (.ent (.t d)) else if ρ k = some (.ent (.t d)) then none else ρ k
theorem swap_iff {e : Ent} {d : Nat} {k : Nat} {r : Role} (h1 : r ≠ .ent (.t d)) (h2 : r ≠ .ent e) : ρ.swap e d k = some r ↔ ρ k = some r := by
  unfold Roles.swap
  split
  · rename_i h; rw [h]; constructor
    · intro h'; injection h' with h'; exact absurd h'.symm h1
    · intro h'; injection h' with h'; exact absurd h'.symm h2
  · split
    · rename_i h; rw [h]; constructor
      · intro h'; cases h'
      · intro h'; injection h' with h'; exact absurd h'.symm h1
    · exact Iff.rfl
theorem swap_ne {e : Ent} {d : Nat} (h : e ≠ .t d) (k : Nat) : ρ.swap e d k ≠ some (.ent e) := by
  unfold Roles.swap
  split
  · intro h'; injection h' with h'; injection h' with h'; exact h h'.symm
  · rename_i h1
    split
    · simp
    · exact h1
theorem swap_some {e : Ent} {d k : Nat} {r : Role} (h : ρ.swap e d k = some r) : ∃ r', ρ k = some r' := by
  unfold Roles.swap at h
  split at h
  · exact ⟨_, by assumption⟩
  · split at h
    · cases h
    · exact ⟨r, h⟩
theorem Touch.self {h : H} (hs : HSim K F β ρ h w) : Touch F w F w w.heap.size :=
  ⟨fun _ _ _ => rfl, Nat.le_refl _, FLe.refl _, fun _ _ _ => rfl, fun o x hx => by have := fz_lt hs.fz hx; omega, rfl, rfl, rfl, fun _ => rfl⟩
theorem Own.swap {e : Ent} {d sz n : Nat} {v : Value} (h : Own F ρ w e sz n v) : Own F (ρ.swap e d) w (.t d) sz n v := by
  rcases h with h | ⟨g, cap, cur, ty, rfl, hr, rest⟩
  · exact .inl h
  · exact .inr ⟨g, cap, cur, ty, rfl, by simp [Roles.swap, hr], rest⟩
/-- ownership goes over to a temporary: nothing else turns -/
theorem FSim.ownTake (hs : FSim K F β ρ s a w) {d : Nat} {e : Ent} {sz : Nat} {xs : List AV} {m : Value} (he : e.isFrame = true) (hne : e ≠ .t d) (hd : d < a.tmps.size) (hv : Rel K F β (.list false sz xs) m) (hown : Own F ρ w e sz xs.length m) :
    FSim K F β (ρ.swap e d) { env := (d, .list false sz xs) :: s.env, lp := del s.lp d, loc := s.loc, own := .t d :: delE (delE s.own (.t d)) e, h := s.h } (a.put (some d) m) w ∧ Keep F β ρ w F β (ρ.swap e d) w :=
  ⟨hs.ownMove (Touch.self hs.heap) (.inl (Nat.le_refl _)) he hd (fun k r h1 h2 => swap_iff h1 h2) (.inr (swap_ne hne)) (fun j r hr => by obtain ⟨r', h⟩ := swap_some hr; exact hs.heap.role j r' h) rfl hv hown.swap,
   (Touch.self hs.heap).keep (.inl (Nat.le_refl _)) (fun j hj _ => by
     obtain ⟨r, hr⟩ := Option.ne_none_iff_exists'.1 hj
     obtain ⟨r', h⟩ := swap_some hr
     rw [h]; simp)⟩

theorem s_tmov (hs : FSim K F β ρ s a w) {src : Nat} {o : Oper} {C : Call} {k : S → R} {r : AV × H} {next : Act → World → Prop} {Q : Exit → Act → World → Prop}
    (h : o.op = .move (.tmp src) ∨ o.op = .assign (.tmp src)) (hnd : notD o.dst src = true) (hd : ∀ x, o.dst = some x → x < a.tmps.size) (e : xOp C (.tmov src) o.dst s k = some r) (hp : Post K F β ρ w s a k r next) : o.wp K.P a w next Q := by
  simp only [xOp] at e
  split at e <;> try (cases e; done)
  rename_i v d hv hown hdst
  have hd := hd d hdst
  obtain ⟨hlt, hrel⟩ := hs.env src v hv
  have hrun : (execOp a.eval o).run K.P w = .ok (.value (a.tmps.getD src undef)) w := by
    rcases h with h | h <;> simp only [execOp, h, Sem.run_pure, Act.eval]
  have hne : d ≠ src := by
    intro e1; rw [hdst, e1] at hnd; simp [notD] at hnd
  obtain ⟨sz, xs, e1, ho⟩ := hs.own src hown
  rw [hv] at e1
  injection e1 with e1
  subst e1
  obtain ⟨h1, h2⟩ := hs.ownTake (d := d) rfl (fun h => hne (by injection h with h; exact h.symm)) hd hrel ho
  refine wp_value hrun ?_
  rw [hdst]
  exact hp _ F β _ _ w h1 (put_size _ _ _) h2 rfl e
theorem s_onil (hs : FSim K F β ρ s a w) {sz : Nat} {o : Oper} {C : Call} {k : S → R} {r : AV × H} {next : Act → World → Prop} {Q : Exit → Act → World → Prop}
    (h : o.op = .move (.const (.slice none 0 0)) ∨ o.op = .assign (.const (.slice none 0 0))) (hd : ∀ x, o.dst = some x → x < a.tmps.size) (e : xOp C (.onil sz) o.dst s k = some r) (hp : Post K F β ρ w s a k r next) : o.wp K.P a w next Q := by
  simp only [xOp] at e
  split at e <;> try (cases e; done)
  rename_i d hdst
  have hd := hd d hdst
  have hrun : (execOp a.eval o).run K.P w = .ok (.value (.slice none 0 0)) w := by
    rcases h with h | h <;> simp only [execOp, h, Sem.run_pure, Act.eval]
  refine wp_value hrun ?_
  rw [hdst]
  have h1 := hs.ownMove (F' := F) (w' := w) (ρ' := ρ) (e := .t d) (sz := sz) (xs := []) (m := .slice none 0 0) (Touch.self hs.heap) (.inl (Nat.le_refl _)) rfl hd (fun _ _ _ _ => Iff.rfl) (.inl rfl) hs.heap.role rfl (.l0 _ _ _) (.inl ⟨rfl, rfl⟩)
  refine hp { env := (d, .list false sz []) :: s.env, lp := del s.lp d, loc := s.loc, own := .t d :: delE s.own (.t d), h := s.h } F β ρ _ w ?_ (put_size _ _ _) (Keep.refl _ _ _ _) rfl e
  exact { h1 with
    own := by
      intro i hi
      refine h1.own i ?_
      rcases (hasE_cons _ _ _).1 hi with h | h
      · exact (hasE_cons _ _ _).2 (.inl h)
      · obtain ⟨h, h'⟩ := (hasE_delE _ _ _).1 h
        exact (hasE_cons _ _ _).2 (.inr ((hasE_delE _ _ _).2 ⟨(hasE_delE _ _ _).2 ⟨h, h'⟩, h'⟩))
    loc := by
      intro l x hx
      obtain ⟨k, hr, m, ty, a1, a2, a3, a4⟩ := h1.loc l x hx
      refine ⟨k, hr, m, ty, a1, a2, a3, fun o ho => a4 o ?_⟩
      rcases (hasE_cons _ _ _).1 ho with h | h
      · cases h
      · obtain ⟨h, _⟩ := (hasE_delE _ _ _).1 h
        exact (hasE_cons _ _ _).2 (.inr ((hasE_delE _ _ _).2 ⟨(hasE_delE _ _ _).2 ⟨h, by simp⟩, by simp⟩)) }

/-! ### Locals -/
theorem hasE_append (x y : List Ent) (e : Ent) : hasE (x ++ y) e = true ↔ hasE x e = true ∨ hasE y e = true := by
  induction x with
  | nil => simp [hasE]
  | cons z x ih => rw [List.cons_append, hasE_cons, hasE_cons, ih, or_assoc]
theorem hasE_ownersOf (l : Nat) (os : List Nat) (e : Ent) : hasE (ownersOf l os) e = true ↔ ∃ o ∈ os, e = .l l o := by
  induction os with
  | nil => simp [ownersOf, hasE]
  | cons o os ih =>
    rw [ownersOf, hasE_cons, ih]
    constructor
    · rintro (rfl | ⟨o', h, h'⟩)
      · exact ⟨o, by simp, rfl⟩
      · exact ⟨o', by simp [h], h'⟩
    · rintro ⟨o', h, h'⟩
      simp only [List.mem_cons] at h
      rcases h with rfl | h
      · exact .inl h'.symm
      · exact .inr ⟨o', h, h'⟩
/-- the roles when local l begins anew -/
def Roles.fresh (ρ : Roles) (l n : Nat) : Roles := fun k => if k = n then some (.loc l) else match ρ k with
  | some (.loc i) => if i = l then none else some (.loc i)
  | some (.ent (.l i o)) => if i = l then none else some (.ent (.l i o))
  | r => r
theorem fresh_iff {l n k : Nat} {r : Role} (hk : k ≠ n) (h1 : r ≠ .loc l) (h2 : ∀ o, r ≠ .ent (.l l o)) : ρ.fresh l n k = some r ↔ ρ k = some r := by
  unfold Roles.fresh
  rw [if_neg hk]
  cases hr : ρ k with
  | none => simp
  | some q =>
    cases q with
    | loc i =>
      simp only
      by_cases hi : i = l
      · subst hi
        rw [if_pos rfl]
        constructor
        · intro h; cases h
        · intro h; injection h with h; exact absurd h.symm h1
      · rw [if_neg hi]
    | heap b => exact Iff.rfl
    | ent e =>
      cases e with
      | l i o =>
        simp only
        by_cases hi : i = l
        · subst hi
          rw [if_pos rfl]
          constructor
          · intro h; cases h
          · intro h; injection h with h; exact absurd h.symm (h2 o)
        · rw [if_neg hi]
      | _ => exact Iff.rfl
theorem fresh_some {l n k : Nat} {r : Role} (h : ρ.fresh l n k = some r) : k = n ∧ r = .loc l ∨ k ≠ n ∧ ρ k = some r ∧ r ≠ .loc l ∧ ∀ o, r ≠ .ent (.l l o) := by
  unfold Roles.fresh at h
  by_cases hk : k = n
  · rw [if_pos hk] at h; injection h with h; exact .inl ⟨hk, h.symm⟩
  · rw [if_neg hk] at h
    refine .inr ⟨hk, ?_⟩
    cases hr : ρ k with
    | none => rw [hr] at h; cases h
    | some q =>
      rw [hr] at h
      cases q with
      | loc i =>
        simp only at h
        by_cases hi : i = l
        · rw [if_pos hi] at h; cases h
        · rw [if_neg hi] at h; injection h with h; subst h; exact ⟨rfl, fun h => hi (by injection h), by simp⟩
      | heap b => injection h with h; subst h; exact ⟨rfl, by simp, by simp⟩
      | ent e =>
        cases e with
        | l i o =>
          simp only at h
          by_cases hi : i = l
          · rw [if_pos hi] at h; cases h
          · rw [if_neg hi] at h; injection h with h; subst h; exact ⟨rfl, by simp, fun o h => hi (by injection h with h; injection h)⟩
        | _ => injection h with h; subst h; exact ⟨rfl, by simp, by simp⟩

theorem FSim.lnew (hs : FSim K F β ρ s a w) {l n d : Nat} {ag : Bool} {v : AV} {os : List Nat} {m : Value} {ty : TypeId} (hd : d < a.tmps.size) (hv : Rel K F β v m) (hsh : shape n ag v = some v)
    (hos : ∀ o ∈ os, ∃ sz, slotOf ag v o = some (.list false sz []) ∧ m.cells[o]? = some (.slice none 0 0)) :
    FSim K F β (ρ.fresh l w.heap.size) { env := del s.env d, lp := (d, (l, 0)) :: del (delLp s.lp l) d, loc := (l, ⟨n, ag, v⟩) :: s.loc, own := ownersOf l os ++ delLoc (delE s.own (.t d)) l, h := s.h }
      (a.put (some d) (.pointer (some ⟨w.heap.size, 0, none⟩))) (w.alloc (.cells m.cells ty)) ∧ Keep F β ρ w F β (ρ.fresh l w.heap.size) (w.alloc (.cells m.cells ty)) := by
  have t := alloc_touch (F := F) (w := w) (.cells m.cells ty) rfl hs.heap.fz
  have nsz : ∀ j r, ρ j = some r → j ≠ w.heap.size := fun j r hr h => by have := hs.heap.role j r hr; omega
  have none_new : ρ w.heap.size = none := by
    cases h : ρ w.heap.size with
    | none => rfl
    | some r => exact absurd rfl (nsz _ r h)
  have hown : ∀ x, hasE (ownersOf l os ++ delLoc (delE s.own (.t d)) l) x = true → (∃ o ∈ os, x = .l l o) ∨ (hasE s.own x = true ∧ x ≠ .t d ∧ ∀ o, x ≠ .l l o) := by
    intro x hx
    rcases (hasE_append _ _ _).1 hx with h | h
    · exact .inl ((hasE_ownersOf _ _ _).1 h)
    · obtain ⟨h, h'⟩ := (hasE_delLoc _ _ _).1 h
      obtain ⟨h, h''⟩ := (hasE_delE _ _ _).1 h
      exact .inr ⟨h, h'', h'⟩
  have kE : ∀ (x : Ent), (∀ o, x ≠ .l l o) → ∀ j, ρ j = some (.ent x) → j < w.heap.size ∧ ρ.fresh l w.heap.size j = some (.ent x) := by
    intro x hx j hj
    exact ⟨hs.heap.role j _ hj, (fresh_iff (nsz j _ hj) (by simp) (fun o h => hx o (by injection h))).2 hj⟩
  refine ⟨?_, t.keep (.inl (Nat.le_refl _)) (fun j hj hlt => ?_)⟩
  · exact {
      heap := by
        refine hs.heap.touch t (fun r hr => by rw [none_new] at hr; cases hr) (fun j r hr => ?_) (fun j r hr => ?_)
        · by_cases hj : j = w.heap.size
          · subst hj
            rw [none_new]
            constructor
            · intro h
              rcases fresh_some h with ⟨_, h⟩ | ⟨h, _⟩
              · subst h; simp [Role.isH] at hr
              · exact absurd rfl h
            · intro h; cases h
          · exact fresh_iff hj (fun h => by subst h; simp [Role.isH] at hr) (fun o h => by subst h; simp [Role.isH] at hr)
        · rcases fresh_some hr with ⟨h, _⟩ | ⟨_, h, _⟩
          · simp [h]
          · have := hs.heap.role j r h; simp; omega
      env := by
        intro i x hx
        simp only [get_del] at hx
        by_cases hi : d = i
        · rw [if_pos hi] at hx; cases hx
        · rw [if_neg hi] at hx
          rw [put_size, put_get a d i _ hd, if_neg hi]; exact hs.env i x hx
      lp := by
        intro i l' o hx
        simp only [get_cons] at hx
        rw [put_size, put_get a d i _ hd]
        by_cases hi : d = i
        · rw [if_pos hi] at hx ⊢
          injection hx with hx; injection hx with h1 h2; subst h1; subst h2
          exact ⟨hi ▸ hd, w.heap.size, by simp [Roles.fresh], rfl⟩
        · rw [if_neg hi] at hx ⊢
          rw [get_del, if_neg hi] at hx
          have hg := get_delLp _ _ _ _ hx
          obtain ⟨h1, k, h2, h3⟩ := hs.lp i l' o hg.1
          exact ⟨h1, k, (fresh_iff (nsz k _ h2) (fun h => hg.2 (by injection h)) (by simp)).2 h2, h3⟩
      loc := by
        intro l' x hx
        simp only [get_cons] at hx
        by_cases hl : l = l'
        · subst hl
          rw [if_pos rfl] at hx
          injection hx with hx; subst hx
          refine ⟨w.heap.size, by simp [Roles.fresh], m, ty, hv, hsh, heap_alloc_new w _, fun o ho => ?_⟩
          rcases hown _ ho with ⟨o', ho', h⟩ | ⟨_, _, h⟩
          · injection h with _ h; subst h
            obtain ⟨sz, h1, h2⟩ := hos o ho'
            exact ⟨sz, [], h1, _, h2, .inl ⟨rfl, rfl⟩⟩
          · exact absurd rfl (h o)
        · rw [if_neg hl] at hx
          obtain ⟨k, hr, m', ty', h1, h2, h3, h4⟩ := hs.loc l' x hx
          refine ⟨k, (fresh_iff (nsz k _ hr) (fun h => hl (by injection h with h; exact h.symm)) (by simp)).2 hr, m', ty', h1, h2, (t.blk k (nsz k _ hr) (hs.heap.role k _ hr)).trans h3, fun o ho => ?_⟩
          rcases hown _ ho with ⟨o', ho', h⟩ | ⟨h, _, h'⟩
          · injection h with h _; exact absurd h.symm hl
          · obtain ⟨sz, xs, e1, mo, hm, ho'⟩ := h4 o h
            exact ⟨sz, xs, e1, mo, hm, ho'.touch t (fun h => nsz _ _ h rfl) (kE _ h')⟩
      locs := by
        intro k l' hr
        rcases fresh_some hr with ⟨h, h'⟩ | ⟨hk, h, h', _⟩
        · injection h' with h'; subst h'
          refine ⟨fun o => ?_, fun k' hk' => ?_⟩
          · cases hF : F k o with
            | none => rfl
            | some x => have := fz_lt hs.heap.fz hF; omega
          · rcases fresh_some hk' with ⟨h1, _⟩ | ⟨_, _, h1, _⟩
            · rw [h, h1]
            · exact absurd rfl h1
        · refine ⟨(hs.locs k l' h).1, fun k' hk' => ?_⟩
          rcases fresh_some hk' with ⟨_, h1⟩ | ⟨_, h1, _⟩
          · exact absurd h1 h'
          · exact (hs.locs k l' h).2 k' h1
      own := by
        intro i hi
        rcases hown _ hi with ⟨o', _, h⟩ | ⟨h, h', h''⟩
        · cases h
        · have hne : d ≠ i := fun e => h' (by rw [e])
          obtain ⟨sz, xs, e1, ho'⟩ := hs.own i h
          refine ⟨sz, xs, ?_, ?_⟩
          · simp only [get_del]; rw [if_neg hne]; exact e1
          · rw [put_get a d i _ hd, if_neg hne]; exact ho'.touch t (fun h => nsz _ _ h rfl) (kE _ h'')
      defers := by rw [put_defers]; exact hs.defers }
  · obtain ⟨r, hr⟩ := Option.ne_none_iff_exists'.1 hj
    rcases fresh_some hr with ⟨h, _⟩ | ⟨_, h, _⟩
    · omega
    · rw [h]; simp
theorem s_lnew (hs : FSim K F β ρ s a w) {l n : Nat} {ag : Bool} {x : Opd} {os : List Nat} {o : Oper} {C : Call} {k : S → R} {r : AV × H} {next : Act → World → Prop} {Q : Exit → Act → World → Prop} {ty : TypeId}
    (h : (∃ X, o.op = .box ty X ∧ opdOk K x X = true) ∨ (∃ v, x = .c v ∧ o.op = .alloc ty ∧ zeroVal K ty v = true)) (hd : ∀ x, o.dst = some x → x < a.tmps.size) (e : xOp C (.lnew l n ag x os) o.dst s k = some r) (hp : Post K F β ρ w s a k r next) : o.wp K.P a w next Q := by
  simp only [xOp] at e
  split at e <;> try (cases e; done)
  rename_i v d hv hdst
  have hd := hd d hdst
  simp only [Option.bind_eq_some_iff] at e
  obtain ⟨u, hu, v', hcl, e⟩ := e
  have := shape_eq hu
  subst this
  have key : ∀ m, Rel K F β u m → (execOp a.eval o).run K.P w = .ok (.value (.pointer (some ⟨w.heap.size, 0, none⟩))) (w.alloc (.cells m.cells ty)) → o.wp K.P a w next Q := by
    intro m hr hrun
    obtain ⟨r1, r2, r3, _⟩ := claim_rel hcl hu hr
    obtain ⟨h1, h2⟩ := hs.lnew (l := l) (d := d) (os := os) (ty := ty) hd r1 r2 r3
    refine wp_value hrun ?_
    rw [hdst]
    exact hp _ F β _ _ _ h1 (put_size _ _ _) h2 rfl e
  rcases h with ⟨X, ho, hx⟩ | ⟨c, rfl, ho, hz⟩
  · refine key (a.eval X) (opd_rel hs hx hv) ?_
    simp [execOp, ho, Instr.box, newVar, newRow]
  · simp only [Opd.val] at hv
    injection hv with hv
    subst hv
    unfold zeroVal at hz
    split at hz <;> try (cases hz; done)
    rename_i inf hi
    split at hz <;> try (cases hz; done)
    rename_i z hzv
    refine key z (valOk_rel F β _ _ hz) ?_
    simp [execOp, ho, Instr.alloc, newVar, newRow, zeroValue, typeInfo, hi, hzv]

theorem s_laddr (hs : FSim K F β ρ s a w) {src off i : Nat} {t : TypeId} {o : Oper} {C : Call} {k : S → R} {r : AV × H} {next : Act → World → Prop} {Q : Exit → Act → World → Prop}
    (h : o.op = .fieldAddr t (.tmp src) i) (hk : fieldOk K.P t i off = true) (hd : ∀ x, o.dst = some x → x < a.tmps.size) (e : xOp C (.laddr src off) o.dst s k = some r) (hp : Post K F β ρ w s a k r next) : o.wp K.P a w next Q := by
  simp only [xOp] at e
  split at e <;> try (cases e; done)
  rename_i l o0 d hl hdst
  have hd := hd d hdst
  obtain ⟨hlt, kk, hr, hm⟩ := hs.lp src l o0 hl
  have hrun : (execOp a.eval o).run K.P w = .ok (.value (.pointer (some ⟨kk, o0 + off, none⟩))) w := by
    unfold fieldOk at hk
    split at hk <;> try (cases hk; done)
    rename_i fs hu
    split at hk <;> try (cases hk; done)
    rename_i fd hfi
    simp only [Bool.and_eq_true] at hk
    obtain ⟨h1, h2⟩ := hk
    have h1 := beq_true.1 h1
    split at h2 <;> try (cases h2; done)
    rename_i inf hinf
    have hsz : inf.size ≠ 0 := by
      intro h0; rw [h0] at h2; cases h2
    have hX : a.eval (.tmp src) = .pointer (some ⟨kk, o0, none⟩) := hm
    simp [execOp, h, hX, Instr.fieldAt, run_underlying hu, hfi, Instr.sureAddr, fieldPlace, sizeOf, typeInfo, hinf, hsz, h1, addr_add]
  refine wp_value hrun ?_
  rw [hdst]
  refine hp { env := del s.env d, lp := (d, (l, o0 + off)) :: s.lp, loc := s.loc, own := delE s.own (.t d), h := s.h } F β ρ _ w ?_ (put_size _ _ _) (Keep.refl _ _ _ _) rfl e
  exact {
    heap := hs.heap
    env := by
      intro j v hx
      simp only [get_del] at hx
      by_cases hi : d = j
      · rw [if_pos hi] at hx; cases hx
      · rw [if_neg hi] at hx
        rw [put_size, put_get a d j _ hd, if_neg hi]; exact hs.env j v hx
    lp := by
      intro j l' o' hx
      simp only [get_cons] at hx
      rw [put_size, put_get a d j _ hd]
      by_cases hi : d = j
      · rw [if_pos hi] at hx ⊢
        injection hx with hx; injection hx with h1 h2; subst h1; subst h2
        exact ⟨hi ▸ hd, kk, hr, rfl⟩
      · rw [if_neg hi] at hx ⊢; exact hs.lp j l' o' hx
    loc := by
      intro l' x hx
      obtain ⟨k', hr', m, ty, h1, h2, h3, h4⟩ := hs.loc l' x hx
      exact ⟨k', hr', m, ty, h1, h2, h3, fun o ho => h4 o ((hasE_delE _ _ _).1 ho).1⟩
    locs := hs.locs
    own := by
      intro j hj
      obtain ⟨h1, h2⟩ := (hasE_delE _ _ _).1 hj
      have hne : d ≠ j := fun e => h2 (by rw [e])
      obtain ⟨sz, xs, e1, ho'⟩ := hs.own j h1
      refine ⟨sz, xs, ?_, ?_⟩
      · simp only [get_del]; rw [if_neg hne]; exact e1
      · rw [put_get a d j _ hd, if_neg hne]; exact ho'
    defers := by rw [put_defers]; exact hs.defers }

/-- a variable's cells, read -/
theorem run_load_cells {t : TypeId} {n : Nat} {ag : Bool} (ht : tyOk K.P t n ag = true) {kk : Nat} {c : Array Value} {ty : TypeId} {fr : Nat × Nat} (hb : w.heap[kk]? = some (.cells c ty fr)) (off : Nat) (hle : off + n ≤ c.size) :
    (loadVar t ⟨kk, off, none⟩).run K.P w = .ok (partM ((c.toList.drop off).take n) 0 n ag) w := by
  refine run_loadVar ht w kk off ((c.toList.drop off).take n) (by simp; omega) (fun j v hj => ?_)
  rw [List.getElem?_take] at hj
  split at hj
  · rw [List.getElem?_drop] at hj
    simp [World.cell?, hb]
    simpa using hj
  · cases hj
theorem agg_eq {x y : Bool} (h : (match x, y with | true, true => true | false, false => true | _, _ => false) = true) : x = y := by cases x <;> cases y <;> first | rfl | (cases h)
theorem Rel.part2 {v x : AV} {m : Value} {off n : Nat} {ag : Bool} (h : Rel K F β v m) (hn : ag = false → n = 1) (e : Abs.part v off n ag = some x) :
    Rel K F β x (partM ((m.cells.toList.drop off).take n) 0 n ag) ∧ off + n ≤ m.cells.size := by
  obtain ⟨h1, h2⟩ := h.part e
  cases ag with
  | true =>
    refine ⟨?_, by simpa using h2⟩
    simp only [partM, if_true, List.drop_zero, List.take_take, Nat.min_self] at h1 ⊢
    exact h1
  | false =>
    have := hn rfl
    subst this
    simp only [Bool.false_eq_true, if_false] at h2
    refine ⟨?_, by omega⟩
    simp only [partM, Bool.false_eq_true, if_false] at h1 ⊢
    have e1 : ((m.cells.toList.drop off).take 1).getD 0 undef = m.cells.toList.getD off undef := by
      simp [List.getD_eq_getElem?_getD, List.getElem?_drop]
    rw [e1]; exact h1
theorem Rel.whole2 {v : AV} {m : Value} {n : Nat} {ag : Bool} (h : Rel K F β v m) (hn : ag = false → n = 1) (e : shape n ag v = some v) :
    Rel K F β v (partM ((m.cells.toList.drop 0).take n) 0 n ag) ∧ 0 + n ≤ m.cells.size := by
  obtain ⟨h1, h2, _⟩ := h.whole e hn
  refine ⟨?_, by omega⟩
  rw [List.drop_zero, List.take_of_length_le (by simp; omega), ← h1]
  exact h
theorem s_lload (hs : FSim K F β ρ s a w) {src n : Nat} {ag : Bool} {t : TypeId} {o : Oper} {C : Call} {k : S → R} {r : AV × H} {next : Act → World → Prop} {Q : Exit → Act → World → Prop}
    (h : o.op = .load t (.tmp src)) (ht : tyOk K.P t n ag = true) (hd : ∀ x, o.dst = some x → x < a.tmps.size) (e : xOp C (.lload src n ag) o.dst s k = some r) (hp : Post K F β ρ w s a k r next) : o.wp K.P a w next Q := by
  simp only [xOp] at e
  split at e <;> try (cases e; done)
  rename_i l o0 hl
  split at e <;> try (cases e; done)
  rename_i x hx
  obtain ⟨hlt, kk, hr, hm⟩ := hs.lp src l o0 hl
  obtain ⟨kk', hr', m, ty, h1, h2, h3, _⟩ := hs.loc l x hx
  have := (hs.locs kk l hr).2 kk' hr'
  subst this
  have key : ∀ v, Rel K F β v (partM ((m.cells.toList.drop o0).take n) 0 n ag) ∧ o0 + n ≤ m.cells.size → k (s.out o.dst v) = some r → o.wp K.P a w next Q := by
    intro v hv hk
    obtain ⟨hrel, hle⟩ := hv
    have hrun := run_load_cells (K := K) ht h3 o0 hle
    have hX : a.eval (.tmp src) = .pointer (some ⟨kk, o0, none⟩) := hm
    refine wp_value (m := partM ((m.cells.toList.drop o0).take n) 0 n ag) (w' := w) ?_ (hp (s.out o.dst v) F β ρ _ w (hs.out o.dst v _ hd hrel) (put_size _ _ _) (Keep.refl _ _ _ _) (by rw [floors_out]) hk)
    simp only [execOp, h, hX, Instr.loadAt, Instr.sureAddr, Sem.run_bind, Sem.run_pure, Result.andThen_ok, hrun]
  have hn : ag = false → n = 1 := fun h => tyOk_one (h ▸ ht)
  split at e
  · rename_i hb hag
    have hb := beq_true.1 hb
    have hag := agg_eq hag
    refine key x.v ?_ e
    rw [hb, hag] at h2
    exact h1.whole2 hn h2
  · simp only [Option.bind_eq_some_iff] at e
    obtain ⟨v, hv, e⟩ := e
    exact key v (h1.part2 hn hv) e
end Go.Abs
