/- The heap's blocks: new ones, loads, stores, lists that they own. -/
import Derived.Test.YtiefbkjoldcebaaDoorXxApp
namespace Go.Abs
variable {K : Seat} {F F' : FZ} {β β' : BM} {ρ ρ' : Roles} {w w' : World} {s : S} {a : Act}

/-- the heap has changed, the frame has not -/
theorem FSim.step (hs : FSim K F β ρ s a w) (own' : List Ent) (h' : H) (hh : HSim K F' β' ρ' h' w') (hF : FLe F F') (hB : BLe β β')
    (hloc : ∀ k l, ρ' k = some (.loc l) ↔ ρ k = some (.loc l)) (hlb : ∀ k l, ρ k = some (.loc l) → w'.heap[k]? = w.heap[k]? ∧ ∀ o, F k o = none → F' k o = none)
    (hown : ∀ e, hasE own' e = true → hasE s.own e = true ∧ (e.isFrame = true → ∀ g, ρ g = some (.ent e) → ρ' g = some (.ent e) ∧ w'.heap[g]? = w.heap[g]? ∧ ∀ o, F g o = none → F' g o = none)) :
    FSim K F' β' ρ' { s with own := own', h := h' } a w' where
  heap := hh
  env := fun t v h => ⟨(hs.env t v h).1, (hs.env t v h).2.mono hF hB⟩
  lp := by
    intro i l o hx
    obtain ⟨h1, k, h2, h3⟩ := hs.lp i l o hx
    exact ⟨h1, k, (hloc k l).2 h2, h3⟩
  loc := by
    intro l x hx
    obtain ⟨k, hr, m', ty, h1, h2, h3, h4⟩ := hs.loc l x hx
    refine ⟨k, (hloc k l).2 hr, m', ty, h1.mono hF hB, h2, (hlb k l hr).1.trans h3, fun o ho => ?_⟩
    obtain ⟨ho1, ho2⟩ := hown _ ho
    obtain ⟨sz', ys, e1, mo, hm, ho'⟩ := h4 o ho1
    exact ⟨sz', ys, e1, mo, hm, ho'.keep (ho2 rfl)⟩
  locs := by
    intro k l hr
    have h0 := (hloc k l).1 hr
    exact ⟨fun o => (hlb k l h0).2 o ((hs.locs k l h0).1 o), fun k' hk' => (hs.locs k l h0).2 k' ((hloc k' l).1 hk')⟩
  own := by
    intro i hi
    obtain ⟨ho1, ho2⟩ := hown _ hi
    obtain ⟨sz', ys, e1, ho'⟩ := hs.own i ho1
    exact ⟨sz', ys, e1, ho'.keep (ho2 rfl)⟩
  defers := hs.defers

/-- a temporary's list is its own -/
theorem FSim.giveT (hs : FSim K F β ρ s a w) {d sz : Nat} {xs : List AV} (own' : List Ent) (hg : get s.env d = some (.list false sz xs)) (ho : Own F ρ w (.t d) sz xs.length (a.tmps.getD d undef)) (h : ∀ e, hasE own' e = true → e = .t d ∨ hasE s.own e = true) :
    FSim K F β ρ { s with own := own' } a w where
  heap := hs.heap
  env := hs.env
  lp := hs.lp
  loc := by
    intro l x hx
    obtain ⟨k, hr, m', ty, h1, h2, h3, h4⟩ := hs.loc l x hx
    refine ⟨k, hr, m', ty, h1, h2, h3, fun o ho => ?_⟩
    rcases h _ ho with h | h
    · cases h
    · exact h4 o h
  locs := hs.locs
  own := by
    intro i hi
    rcases h _ hi with h | h
    · injection h with h; subst h; exact ⟨sz, xs, hg, ho⟩
    · exact hs.own i h
  defers := hs.defers

theorem Touch.none {h : H} (hs : HSim K F β ρ h w) (k : Nat) : Touch F w F w k :=
  ⟨fun _ _ _ => rfl, Nat.le_refl _, FLe.refl _, fun _ _ _ => rfl, fun o x hx => hs.fz k o x hx, rfl, rfl, rfl, fun _ => rfl⟩

/-! ### New blocks -/
theorem thaw_of {o : Obj} {b : Nat} {x : Blk} (hx : BlkOk K F β ρ (w.alloc o) b 0 w.heap.size x) : thaw o = true := by
  have e : (w.alloc o).heap[w.heap.size]? = some o := heap_alloc_new w o
  cases x with
  | cells n ag v os =>
    obtain ⟨_, m, c, ty, _, _, _, h4, _⟩ := hx
    rw [e] at h4; injection h4 with h4; subst h4; rfl
  | arr g' sz cs =>
    obtain ⟨_, c, ty, _, _, h3⟩ := hx
    rw [e] at h3; injection h3 with h3; subst h3; rfl
  | map es =>
    obtain ⟨_, ms, clock, _, h2⟩ := hx
    rw [e] at h2; injection h2 with h2; subst h2; rfl
def Roles.new (ρ : Roles) (n b : Nat) : Roles := fun k => if k = n then some (.heap b) else ρ k
theorem BLe.push (β : BM) (x : Nat × Nat) : BLe β (β ++ [x]) := fun b g k h => ⟨g, k, by rw [List.getElem?_append_left (List.getElem?_eq_some_iff.1 h).1]; exact h, Nat.le_refl _, fun _ => rfl⟩
theorem HSim.push {h : H} {x : Blk} {o : Obj} (hs : HSim K F β ρ h w) (hx : BlkOk K F (β ++ [(0, w.heap.size)]) (ρ.new w.heap.size h.size) (w.alloc o) h.size 0 w.heap.size x) :
    HSim K F (β ++ [(0, w.heap.size)]) (ρ.new w.heap.size h.size) (h.push x) (w.alloc o) where
  glob := hs.glob
  len := by simp [H.push, hs.len]
  low := by
    intro fl hfl
    obtain ⟨h1, h2⟩ := hs.low fl hfl
    refine ⟨by simp [H.push]; omega, fun b y hb hy => ?_⟩
    simp only [H.push] at hy
    rw [List.getElem?_append_left (by omega)] at hy
    exact h2 b y hb hy
  blk := by
    intro b y hy
    simp only [H.push] at hy
    rw [List.getElem?_append] at hy
    split at hy
    · rename_i hlt
      obtain ⟨g, k, hb, hr, hok⟩ := hs.blk b y hy
      have hk := hs.role k _ hr
      refine ⟨g, k, by rw [List.getElem?_append_left (by rw [hs.len]; exact hlt)]; exact hb, by simp only [Roles.new]; rw [if_neg (by omega)]; exact hr, hok.keep (FLe.refl _) (BLe.push _ _) (heap_alloc_old w o k hk) (fun o' i hi => ?_)⟩
      have hi' := hs.role i _ hi
      exact ⟨by simp only [Roles.new]; rw [if_neg (by omega)]; exact hi, heap_alloc_old w o i hi', fun _ h => h⟩
    · rename_i hlt
      have : b = h.blks.length := by
        have := (List.getElem?_eq_some_iff.1 hy).1
        simp at this; omega
      subst this
      simp at hy
      subst hy
      exact ⟨0, w.heap.size, by rw [List.getElem?_append_right (by rw [hs.len]; omega), hs.len]; simp, by simp [Roles.new, H.size], hx⟩
  fz := by
    intro k i x hx
    rw [cell_same (heap_alloc_old w o k (fz_lt hs.fz hx))]; exact hs.fz k i x hx
  free := by
    intro k b hr i
    simp only [Roles.new] at hr
    split at hr
    · rename_i hk; subst hk
      cases hF : F w.heap.size i with
      | none => rfl
      | some x => have := fz_lt hs.fz hF; omega
    · exact hs.free k b hr i
  role := by
    intro k r hr
    simp only [Roles.new] at hr
    split at hr
    · simp; omega
    · have := hs.role k r hr; simp; omega
  ents := by
    intro k b i hr
    simp only [Roles.new] at hr
    split at hr
    · injection hr with hr; cases hr
    · have := hs.ents k b i hr; simp [H.push]; omega
  heaps := by
    intro k b hr
    simp only [Roles.new] at hr
    split at hr
    · rename_i hk; subst hk
      injection hr with hr; injection hr with hr; subst hr
      exact ⟨0, by rw [List.getElem?_append_right (by rw [hs.len]; exact Nat.le_refl _), hs.len]; simp [H.size]⟩
    · obtain ⟨g, hg⟩ := hs.heaps k b hr
      exact ⟨g, by rw [List.getElem?_append_left (List.getElem?_eq_some_iff.1 hg).1]; exact hg⟩
/-- a frame when a block is new -/
theorem FSim.push {x : Blk} {o : Obj} (hs : FSim K F β ρ s a w) {d : Nat} {v : AV} {m : Value} (hd : d < a.tmps.size) (hx : BlkOk K F (β ++ [(0, w.heap.size)]) (ρ.new w.heap.size s.h.size) (w.alloc o) s.h.size 0 w.heap.size x) (hv : Rel K F (β ++ [(0, w.heap.size)]) v m) :
    FSim K F (β ++ [(0, w.heap.size)]) (ρ.new w.heap.size s.h.size) { s.put d v with h := s.h.push x } (a.put (some d) m) (w.alloc o) ∧ Keep F β ρ w F (β ++ [(0, w.heap.size)]) (ρ.new w.heap.size s.h.size) (w.alloc o) := by
  have old : ∀ k r, ρ k = some r → k ≠ w.heap.size := fun k r hr => by have := hs.heap.role k r hr; omega
  have h1 := hs.step (F' := F) s.own (s.h.push x) (hs.heap.push hx) (FLe.refl _) (BLe.push _ _) (fun k l => by
    simp only [Roles.new]
    split
    · rename_i hk; subst hk
      constructor
      · intro h; cases h
      · intro h; exact absurd rfl (old _ _ h)
    · exact Iff.rfl) (fun k l hr => ⟨heap_alloc_old w o k (hs.heap.role k _ hr), fun _ h => h⟩) (fun e he => ⟨he, fun _ g hg => ⟨by simp only [Roles.new]; rw [if_neg (old g _ hg)]; exact hg, heap_alloc_old w o g (hs.heap.role g _ hg), fun _ h => h⟩⟩)
  refine ⟨h1.put d v m hd hv, ?_⟩
  exact {
    fz := FLe.refl _
    new := fun _ _ h h' => absurd h' h
    bm := BLe.push _ _
    blk := fun k hk _ => heap_alloc_old w o k hk
    size := by simp
    role := by
      intro k hk hlt
      simp only [Roles.new] at hk
      rw [if_neg (by omega)] at hk; exact hk
    os := rfl
    tape := rfl
    output := rfl
    frz := frozen_alloc w o (thaw_of hx) }
theorem slot_of_claim {ag : Bool} {v : AV} {o : Nat} {x : AV} (h : slotOf ag v o = some x) : (if ag then v.cells[o]? else if o = 0 then some v else none) = some x := h
theorem s_hnew (hs : FSim K F β ρ s a w) {n : Nat} {ag : Bool} {x : Opd} {os : List Nat} {o : Oper} {C : Call} {k : S → R} {r : AV × H} {next : Act → World → Prop} {Q : Exit → Act → World → Prop} {ty : TypeId}
    (h : (∃ X, o.op = .box ty X ∧ opdOk K x X = true) ∨ (∃ v, x = .c v ∧ o.op = .alloc ty ∧ zeroVal K ty v = true)) (hd : ∀ x, o.dst = some x → x < a.tmps.size) (e : xOp C (.hnew n ag x os) o.dst s k = some r) (hp : Post K F β ρ w s a k r next) : o.wp K.P a w next Q := by
  simp only [xOp] at e
  split at e <;> try (cases e; done)
  rename_i v d hv hdst
  have hd := hd d hdst
  simp only [Option.bind_eq_some_iff] at e
  obtain ⟨u, hu, v', hcl, e⟩ := e
  have := shape_eq hu
  subst this
  have key : ∀ m, Rel K F β u m → (execOp a.eval o).run K.P w = .ok (.value (.pointer (some ⟨w.heap.size, 0, none⟩))) (w.alloc (.cells m.cells ty)) → o.wp K.P a w next Q := by
    intro m hr hrun
    obtain ⟨r1, r2, r3, _⟩ := claim_rel hcl hu hr
    have hb : (β ++ [(0, w.heap.size)])[s.h.size]? = some (0, w.heap.size) := by
      rw [List.getElem?_append_right (by rw [hs.heap.len]; exact Nat.le_refl _), hs.heap.len]; simp [H.size]
    obtain ⟨g1, g2⟩ := hs.push (o := .cells m.cells ty) (x := .cells n ag v' os) (v := .ptr s.h.size 0 0) (m := .pointer (some ⟨w.heap.size, 0, none⟩)) hd
      ⟨rfl, m, m.cells, ty, r1.mono (FLe.refl _) (BLe.push _ _), r2, rfl, heap_alloc_new w _, fun i hi => by
        obtain ⟨sz, q1, q2⟩ := r3 i hi
        exact ⟨sz, [], q1, _, q2, .inl ⟨rfl, rfl⟩⟩⟩ (.ptr _ _ _ 0 w.heap.size w.heap.size hb (Nat.le_refl _) (fun _ => rfl))
    refine wp_value hrun ?_
    rw [hdst]
    exact hp _ F _ _ _ _ g1 (put_size _ _ _) g2 rfl e
  rcases h with ⟨X, ho, hx⟩ | ⟨c, rfl, ho, hz⟩
  · refine key (a.eval X) (opd_rel hs hx hv) ?_
    simp [execOp, ho, Instr.box, newVar, newRow]
  · simp only [Opd.val] at hv
    injection hv with hv
    subst hv
    unfold zeroVal at hz
    split at hz <;> try (cases hz; done)
    rename_i inf hi
    split at hz <;> try (cases hz; done)
    rename_i z hzv
    refine key z (valOk_rel F β _ _ hz) ?_
    simp [execOp, ho, Instr.alloc, newVar, newRow, zeroValue, typeInfo, hi, hzv]

/-! ### Loads -/
/-- a pointer's block -/
theorem ptr_blk {h : H} (hs : HSim K F β ρ h w) {b g off : Nat} {m : Value} {x : Blk} (hp : Rel K F β (.ptr b g off) m) (hb : h.get b = some x) :
    ∃ g0 k0 k, β[b]? = some (g0, k0) ∧ ρ k0 = some (.heap b) ∧ BlkOk K F β ρ w b g0 k0 x ∧ m = .pointer (some ⟨k, off, none⟩) ∧ (g = g0 → k = k0) := by
  cases hp with
  | ptr _ _ _ g0 k0 k hb' hg hm =>
    obtain ⟨g1, k1, e1, e2, e3⟩ := hs.blk b x hb
    rw [hb'] at e1
    injection e1 with e1; injection e1 with e1 e4
    subst e1; subst e4
    exact ⟨g0, k0, k, hb', e2, e3, rfl, hm⟩
theorem hload_ok {h : H} (hs : HSim K F β ρ h w) {p v : AV} {m : Value} {n : Nat} {ag : Bool} {t : TypeId} (hp : Rel K F β p m) (ht : tyOk K.P t n ag = true) (e : hload h p n ag = some v) :
    ∃ mv, (Instr.loadAt t m).run K.P w = .ok mv w ∧ Rel K F β v mv := by
  have hn : ag = false → n = 1 := fun h => tyOk_one (h ▸ ht)
  have key : ∀ (kk off : Nat) (mm : Value) (ty : TypeId), m = .pointer (some ⟨kk, off, none⟩) → w.heap[kk]? = some (.cells mm.cells ty (0, 0)) → Rel K F β v (partM ((mm.cells.toList.drop off).take n) 0 n ag) ∧ off + n ≤ mm.cells.size → ∃ mv, (Instr.loadAt t m).run K.P w = .ok mv w ∧ Rel K F β v mv := by
    intro kk off mm ty hm hb ⟨hr, hle⟩
    refine ⟨_, ?_, hr⟩
    have hrun := run_load_cells (K := K) ht hb off hle
    subst hm
    simp only [Instr.loadAt, Instr.sureAddr, Sem.run_bind, Sem.run_pure, Result.andThen_ok, hrun]
  unfold hload at e
  split at e <;> try (cases e; done)
  · rename_i b g off
    split at e <;> try (cases e; done)
    · rename_i m' mag v' os hb
      obtain ⟨g0, k0, k, hb1, hr1, ⟨hg, mm, c, ty, h1, h2, h3, h4, h5⟩, hm, hk⟩ := ptr_blk hs hp hb
      split at e
      · have := hk hg.symm
        subst this
        subst h3
        split at e
        · rename_i hc
          injection e with e; subst e
          rw [hc.1, hc.2] at h2
          exact key k 0 mm ty hm h4 (h1.whole2 hn h2)
        · exact key k 0 mm ty hm h4 (h1.part2 hn e)
      · have := hk hg.symm
        subst this
        subst h3
        exact key k off mm ty hm h4 (h1.part2 hn e)
      · cases e
    · rename_i g' sz cs hb
      obtain ⟨g0, k0, k, hb1, hr1, ⟨hg, c, ty, h1, h2, h3⟩, hm, hk⟩ := ptr_blk hs hp hb
      split at e <;> try (cases e; done)
      rename_i hgg
      have := hk (hgg.trans hg.symm)
      subst this
      have hrel : Rel K F β (.agg cs) (.agg c) := by
        have := Rel.agg (K := K) cs c.toList h1 h2
        simpa using this
      exact key k off (.agg c) ty hm (by simpa [Value.cells] using h3) (hrel.part2 hn e)
  · rename_i v' off
    cases hp with
    | ro _ _ mv k base hv hc =>
      obtain ⟨h1, h2⟩ := hv.view hn e
      refine ⟨_, ?_, h1⟩
      have := run_loadVar ht w k (base + off) ((mv.cells.toList.drop off).take n) (by simp; omega) (fun j c hj => by
        have := cells_part hj
        rw [Nat.add_assoc]
        exact hs.fz _ _ _ (hc _ _ this))
      simp [Instr.loadAt, Instr.sureAddr, this]
theorem s_hload (hs : FSim K F β ρ s a w) {n : Nat} {ag : Bool} {p : Opd} {X : Operand} {t : TypeId} {o : Oper} {C : Call} {k : S → R} {r : AV × H} {next : Act → World → Prop} {Q : Exit → Act → World → Prop}
    (h : o.op = .load t X) (hX : opdOk K p X = true) (ht : tyOk K.P t n ag = true) (hd : ∀ x, o.dst = some x → x < a.tmps.size) (e : xOp C (.hload n ag p) o.dst s k = some r) (hp : Post K F β ρ w s a k r next) : o.wp K.P a w next Q := by
  simp only [xOp] at e
  split at e <;> try (cases e; done)
  rename_i p' hv
  simp only [Option.bind_eq_some_iff] at e
  obtain ⟨v, hv2, e⟩ := e
  obtain ⟨mv, hrun, hr⟩ := hload_ok hs.heap (opd_rel hs hX hv) ht hv2
  refine wp_value (m := mv) (w' := w) ?_ (hp (s.out o.dst v) F β ρ _ w (hs.out o.dst v mv hd hr) (put_size _ _ _) (Keep.refl _ _ _ _) (by rw [floors_out]) e)
  simp only [execOp, h, Sem.run_bind, hrun, Result.andThen_ok, Sem.run_pure]

/-! ### Stores -/
theorem underL_append {n : Nat} {xs ys : List AV} : AV.underL n (xs ++ ys) = (AV.underL n xs && AV.underL n ys) := by
  induction xs with
  | nil => simp [AV.underL]
  | cons x xs ih => simp [AV.underL, ih, Bool.and_assoc]
theorem underL_all {n : Nat} {xs : List AV} : AV.underL n xs = true ↔ ∀ x ∈ xs, x.under n = true := by
  induction xs with
  | nil => simp [AV.underL]
  | cons x xs ih => simp [AV.underL, ih]
theorem under_cells {n : Nat} {x : AV} (h : x.under n = true) (ht : ∀ vs, x ≠ .tuple vs) : AV.underL n x.cells = true := by
  cases x with
  | agg cs => simpa [AV.cells, AV.under] using h
  | tuple vs => exact absurd rfl (ht vs)
  | _ => simp only [AV.cells, AV.underL, h, Bool.and_self]
theorem under_splice {fl off n : Nat} {cs : List AV} {x : AV} (h : AV.under fl (.agg cs) = true) (hx : x.under fl = true) (ht : ∀ vs, x ≠ .tuple vs) : AV.under fl (.agg (cs.take off ++ x.cells ++ cs.drop (off + n))) = true := by
  simp only [AV.under] at h ⊢
  rw [underL_append, underL_append]
  simp only [Bool.and_eq_true]
  refine ⟨⟨underL_all.2 fun y hy => underL_all.1 h y (List.mem_of_mem_take hy), under_cells hx ht⟩, underL_all.2 fun y hy => underL_all.1 h y (List.mem_of_mem_drop hy)⟩

theorem blk_set {h : H} {b : Nat} {x : Blk} (i : Nat) : (h.set b x).blks[i]? = if b = i ∧ b < h.blks.length then some x else h.blks[i]? := by
  simp only [H.set, List.getElem?_set]
  by_cases e : b = i
  · subst e
    by_cases hl : b < h.blks.length
    · simp [hl]
    · simp [hl]
  · simp [e]
/-- one block of the heap changes -/
theorem HSim.setBlk {h : H} {b g k : Nat} {x x' : Blk} (hs : HSim K F β ρ h w) (hb : β[b]? = some (g, k)) (hx : h.get b = some x) (t : Touch F w F w' k)
    (hρ : ∀ j r, r.isH = true → (∀ o, r ≠ .ent (.h b o)) → (ρ' j = some r ↔ ρ j = some r)) (hrole : ∀ j r, ρ' j = some r → j < w'.heap.size) (hok : BlkOk K F β ρ' w' b g k x') (hu : ∀ fl ∈ h.floors, b < fl → x'.under fl = true)
    (hk : ρ k = some (.heap b)) : HSim K F β ρ' (h.set b x') w' where
  glob := hs.glob
  len := by simp [H.set, hs.len]
  low := by
    intro fl hfl
    obtain ⟨h1, h2⟩ := hs.low fl hfl
    refine ⟨by simp [H.set]; exact h1, fun i y hi hy => ?_⟩
    rw [blk_set] at hy
    split at hy
    · rename_i hc
      injection hy with hy; subst hy
      exact hu fl hfl (by omega)
    · exact h2 i y hi hy
  blk := by
    intro i y hy
    rw [blk_set] at hy
    split at hy
    · rename_i hc
      injection hy with hy; subst hy
      have := hc.1
      subst this
      exact ⟨g, k, hb, (hρ k _ rfl (by simp)).2 hk, hok⟩
    · rename_i hc
      have hlt := (List.getElem?_eq_some_iff.1 hx).1
      have hne : i ≠ b := fun e => hc ⟨e.symm, hlt⟩
      obtain ⟨g', j, e1, e2, e3⟩ := hs.blk i y hy
      have hjk : j ≠ k := by
        intro e; subst e; rw [hk] at e2; injection e2 with e2; injection e2 with e2; exact hne e2.symm
      refine ⟨g', j, e1, (hρ j _ rfl (by simp)).2 e2, e3.keep (FLe.refl _) (BLe.refl _) (t.blk j hjk (hs.role j _ e2)) (fun o q hq => ?_)⟩
      have hqk : q ≠ k := by intro e; subst e; rw [hk] at hq; cases hq
      exact ⟨(hρ q _ rfl (fun o' h => by injection h with h; injection h with h; exact hne h)).2 hq, t.blk q hqk (hs.role q _ hq), fun _ h => h⟩
  fz := by
    intro j o y hy
    by_cases e : j = k
    · subst e; exact t.cells o y hy
    · rw [cell_same (t.blk j e (fz_lt hs.fz hy))]; exact hs.fz j o y hy
  free := fun j i hr => hs.free j i ((hρ j _ rfl (by simp)).1 hr)
  role := hrole
  ents := by
    intro j i o hr
    by_cases hi : i = b
    · subst hi
      have := (List.getElem?_eq_some_iff.1 hx).1
      simpa [H.set] using this
    · have := hs.ents j i o ((hρ j _ rfl (fun o' h => by injection h with h; injection h with h; exact hi h)).1 hr)
      simpa [H.set] using this
  heaps := fun j i hr => hs.heaps j i ((hρ j _ rfl (by simp)).1 hr)

theorem mem_keepOwn {os : List Nat} {off n o : Nat} (h : o ∈ keepOwn os off n) : o ∈ os ∧ ¬ (off ≤ o ∧ o < off + n) := by
  simp only [keepOwn, List.mem_filter] at h
  refine ⟨h.1, fun hc => ?_⟩
  have := h.2
  simp [hc.1, hc.2] at this
theorem low_get {h : H} (hs : HSim K F β ρ h w) {b : Nat} {x : Blk} (hx : h.get b = some x) : ∀ fl ∈ h.floors, b < fl → x.under fl = true := fun fl hfl hb => (hs.low fl hfl).2 b x hb hx
theorem mayStore_under {h : H} {b : Nat} {v : AV} (hm : mayStore h b v = true) : ∀ fl ∈ h.floors, b < fl → v.under fl = true := by
  intro fl hfl hb
  have := List.all_eq_true.1 hm fl hfl
  rw [blt_iff.2 hb] at this
  simpa using this
theorem claim_nil {v v' : AV} {ag : Bool} (h : claim v ag [] = some v') : v' = v := by simp only [claim] at h; injection h with h; exact h.symm

theorem hstore_ok {h h' : H} (hs : HSim K F β ρ h w) {p x : AV} {m mx : Value} {n : Nat} {ag : Bool} {t : TypeId} (hp : Rel K F β p m) (hx : Rel K F β x mx) (ht : tyOk K.P t n ag = true) (e : hstore h p x n ag = some h') :
    ∃ w' kk b c, (Instr.storeAt t m mx).run K.P w = .ok () w' ∧ w' = w.setRow kk c ∧ ρ kk = some (.heap b) ∧ HSim K F β ρ h' w' ∧ h'.floors = h.floors ∧ Touch F w F w' kk := by
  have hn : ag = false → n = 1 := fun h => tyOk_one (h ▸ ht)
  have run : ∀ (kk off : Nat) (cur : Array Value) (ty : TypeId), m = .pointer (some ⟨kk, off, none⟩) → w.heap[kk]? = some (.cells cur ty (0, 0)) → mx.cells.size = n → off + n ≤ cur.size → (∀ c ∈ mx.cells.toList, c.oneCell' = true) →
      (Instr.storeAt t m mx).run K.P w = .ok () (w.setRow kk (cur.toList.take off ++ mx.cells.toList ++ cur.toList.drop (off + n)).toArray) := by
    intro kk off cur ty hm hb h1 h2 h3
    have := run_store (K := K) ht hb h1 h2 h3
    subst hm
    simp only [Instr.storeAt, Instr.sureAddr, Sem.run_bind, Sem.run_pure, Result.andThen_ok, this]
  unfold hstore at e
  split at e <;> try (cases e; done)
  rename_i b g off
  split at e <;> try (cases e; done)
  · rename_i m' mag v os hb hmay
    obtain ⟨g0, k0, k, hb1, hr1, ⟨hg, mm, c, ty, h1, h2, h3, h4, h5⟩, hm, hk⟩ := ptr_blk hs hp hb
    subst h3
    split at e <;> try (cases e; done)
    have := hk hg.symm
    subst this
    subst hg
    have fin : ∀ (v' : AV) (mm' : Value) (os' : List Nat), Rel K F β v' mm' → shape m' mag v' = some v' → h' = h.set b (.cells m' mag v' os') → (∀ fl ∈ h.floors, b < fl → v'.under fl = true) →
        (∀ o ∈ os', o ∈ os ∧ slotOf mag v' o = slotOf mag v o ∧ mm'.cells[o]? = mm.cells[o]?) → (Instr.storeAt t m mx).run K.P w = .ok () (w.setRow k mm'.cells) →
        ∃ w' kk b c, (Instr.storeAt t m mx).run K.P w = .ok () w' ∧ w' = w.setRow kk c ∧ ρ kk = some (.heap b) ∧ HSim K F β ρ h' w' ∧ h'.floors = h.floors ∧ Touch F w F w' kk := by
      intro v' mm' os' q1 q2 q3 q4 q5 hrun
      have tt := setRow_touch (F := F) (c := mm'.cells) h4 (hs.free k b hr1)
      refine ⟨_, k, b, mm'.cells, hrun, rfl, hr1, ?_, by rw [q3]; rfl, tt⟩
      rw [q3]
      refine hs.setBlk hb1 hb tt (fun _ _ _ _ => Iff.rfl) (fun j r hj => by have := hs.role j r hj; have := tt.size; omega) ?_ q4 hr1
      refine ⟨rfl, mm', mm'.cells, ty, q1, q2, rfl, by rw [setRow_get w k k mm'.cells mm.cells ty _ h4, if_pos rfl], fun o ho => ?_⟩
      obtain ⟨p1, p2, p3⟩ := q5 o ho
      obtain ⟨sz, xs, e1, mo, hmo, hown⟩ := h5 o p1
      refine ⟨sz, xs, p2.trans e1, mo, p3.trans hmo, hown.touch tt (fun h => by rw [hr1] at h; cases h) (fun j hj => ⟨hs.role j _ hj, hj⟩)⟩
    split at e
    · rename_i hc
      split at e <;> try (cases e; done)
      rename_i x' hsh
      injection e with e
      have := shape_eq hsh
      subst this
      obtain ⟨hc0, hc1, hc2⟩ := hc
      subst hc0
      obtain ⟨_, hsz, hall⟩ := hx.whole hsh hn
      have hmsz : mm.cells.size = n := by
        rw [hc1, hc2] at h2
        exact (h1.whole h2 hn).2.1
      have hrun := run k 0 mm.cells ty hm h4 hsz (by omega) hall
      have hcells : (mm.cells.toList.take 0 ++ mx.cells.toList ++ mm.cells.toList.drop (0 + n)).toArray = mx.cells := by
        rw [List.drop_eq_nil_of_le (by simp; omega)]; simp
      rw [hcells] at hrun
      exact fin x' mx [] hx (by rw [hc1, hc2]; exact hsh) e.symm (mayStore_under hmay) (by simp) hrun
    · split at e <;> try (cases e; done)
      rename_i v' hset
      injection e with e
      obtain ⟨cs, hcs, hv', hshx, hxl, hle, hsz, hmle, hall, mm', hr2, hm'⟩ := setPart_rel h1 hx hn hset
      have hrun := run k off mm.cells ty hm h4 hsz hmle hall
      rw [← hm'] at hrun
      have hagt : mag = true := by
        rw [hcs] at h2
        cases mag with
        | true => rfl
        | false => simp [shape] at h2
      refine fin v' mm' _ hr2 (by rw [hv']; rw [hcs] at h2; exact setPart_shape h2 hxl hle) e.symm (fun fl hfl hbf => ?_) (fun o ho => ?_) hrun
      · rw [hv']
        have := low_get hs hb fl hfl hbf
        rw [hcs] at this
        exact under_splice this (mayStore_under hmay fl hfl hbf) (shape_tuple hshx)
      · obtain ⟨p1, p2⟩ := mem_keepOwn ho
        refine ⟨p1, ?_, ?_⟩
        · simp only [slotOf, hagt, if_true, hv', hcs, agg_cells]
          rw [splice_get cs x.cells off n o hxl hle p2]
        · rw [hm']
          simp only [List.getElem?_toArray]
          rw [splice_get mm.cells.toList mx.cells.toList off n o (by simpa using hsz) (by simpa using hmle) p2]
          simp
  · rename_i g' sz cs hb hmay
    obtain ⟨g0, k0, k, hb1, hr1, ⟨hg, c, ty, h1, h2, h3⟩, hm, hk⟩ := ptr_blk hs hp hb
    split at e <;> try (cases e; done)
    rename_i hgg
    have := hk (hgg.trans hg.symm)
    subst this
    split at e <;> try (cases e; done)
    rename_i ds hset
    injection e with e
    have hrel : Rel K F β (.agg cs) (.agg c) := by
      have := Rel.agg (K := K) cs c.toList h1 h2
      simpa using this
    obtain ⟨cs', hcs, hv', hshx, hxl, hle, hsz, hmle, hall, mm', hr2, hm'⟩ := setPart_rel hrel hx hn hset
    injection hcs with hcs
    subst hcs
    have hmle' : off + n ≤ c.size := by simpa [Value.cells] using hmle
    have hrun := run k off c ty hm h3 hsz hmle' hall
    have hm'' : mm'.cells = (c.toList.take off ++ mx.cells.toList ++ c.toList.drop (off + n)).toArray := by rw [hm']; simp [Value.cells]
    rw [← hm''] at hrun
    have tt := setRow_touch (F := F) (c := mm'.cells) h3 (hs.free k b hr1)
    refine ⟨_, k, b, mm'.cells, hrun, rfl, hr1, ?_, by rw [← e]; rfl, tt⟩
    rw [← e]
    refine hs.setBlk hb1 hb tt (fun _ _ _ _ => Iff.rfl) (fun j r hj => by have := hs.role j r hj; have := tt.size; omega) ?_ (fun fl hfl hbf => ?_) hr1
    · refine ⟨hgg.trans hg.symm ▸ rfl, mm'.cells, ty, ?_, hr2.cells_one' (by simp), by rw [setRow_get w k k mm'.cells c ty _ h3, if_pos rfl]⟩
      exact hr2.cells (by simp)
    · have := low_get hs hb fl hfl hbf
      have hd : ds = cs.take off ++ x.cells ++ cs.drop (off + n) := by injection hv'
      have := under_splice (off := off) (n := n) (cs := cs) (x := x) (fl := fl) this (mayStore_under hmay fl hfl hbf) (shape_tuple hshx)
      rw [hd]; exact this
theorem FSim.heapSet {h' : H} {kk b : Nat} (hs : FSim K F β ρ s a w) (hh : HSim K F β ρ h' w') (hr : ρ kk = some (.heap b)) (t : Touch F w F w' kk) : FSim K F β ρ { s with h := h' } a w' ∧ Keep F β ρ w F β ρ w' :=
  ⟨hs.step (F' := F) s.own h' hh (FLe.refl _) (BLe.refl _) (fun _ _ => Iff.rfl) (fun k l hk => ⟨t.blk k (fun e => by subst e; rw [hr] at hk; cases hk) (hs.heap.role k _ hk), fun _ h => h⟩)
    (fun e he => ⟨he, fun hf g hg => ⟨hg, t.blk g (fun e => by subst e; rw [hr] at hg; cases hg) (hs.heap.role g _ hg), fun _ h => h⟩⟩), t.keep (.inr (by rw [hr]; simp)) (fun j hj _ => hj)⟩
theorem s_hstore (hs : FSim K F β ρ s a w) {n : Nat} {ag : Bool} {p x : Opd} {X Y : Operand} {t : TypeId} {o : Oper} {C : Call} {k : S → R} {r : AV × H} {next : Act → World → Prop} {Q : Exit → Act → World → Prop}
    (h : o.op = .store t X Y) (hX : opdOk K p X = true) (hY : opdOk K x Y = true) (ht : tyOk K.P t n ag = true) (hd : o.dst = none) (e : xOp C (.hstore n ag p x) o.dst s k = some r) (hp : Post K F β ρ w s a k r next) : o.wp K.P a w next Q := by
  simp only [xOp] at e
  split at e <;> try (cases e; done)
  rename_i p' x' hv hv'
  simp only [Option.bind_eq_some_iff] at e
  obtain ⟨h', hst, e⟩ := e
  obtain ⟨w', kk, b, c, hrun, _, hr, hh, hfl, t⟩ := hstore_ok hs.heap (opd_rel hs hX hv) (opd_rel hs hY hv') ht hst
  obtain ⟨g1, g2⟩ := hs.heapSet hh hr t
  refine wp_skip' (w' := w') ?_ ?_
  · simp only [execOp, h, Sem.run_bind, hrun, Result.andThen_ok, Sem.run_pure]
  · rw [hd]
    exact hp { s with h := h' } F β ρ _ w' g1 rfl g2 hfl e
end Go.Abs
