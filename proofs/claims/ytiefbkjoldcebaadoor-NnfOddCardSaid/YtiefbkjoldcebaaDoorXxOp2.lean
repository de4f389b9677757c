/- Stores into locals; lists that are owned. -/
import Derived.Test.YtiefbkjoldcebaaDoorXxOp
namespace Go.Abs
variable {K : Seat} {F F' : FZ} {β : BM} {ρ : Roles} {w : World} {s : S} {a : Act}

theorem agg_cells (cs : List AV) : (AV.agg cs).cells = cs := rfl
theorem splice_get {α : Type} (cs xs : List α) (off n i : Nat) (hl : xs.length = n) (hle : off + n ≤ cs.length) (hi : ¬ (off ≤ i ∧ i < off + n)) : (cs.take off ++ xs ++ cs.drop (off + n))[i]? = cs[i]? := by
  have hlt : (cs.take off).length = off := by simp; omega
  rw [List.append_assoc, List.getElem?_append, hlt]
  by_cases h1 : i < off
  · rw [if_pos h1, List.getElem?_take, if_pos h1]
  · rw [if_neg h1, List.getElem?_append_right (by omega), List.getElem?_drop]
    congr 1; omega
theorem splice_at {α : Type} (cs xs : List α) (off n i : Nat) (hle : off + n ≤ cs.length) (hi : i < xs.length) : (cs.take off ++ xs ++ cs.drop (off + n))[off + i]? = xs[i]? := by
  have hlt : (cs.take off).length = off := by simp; omega
  rw [List.append_assoc, List.getElem?_append_right (by omega), hlt, List.getElem?_append_left (by omega)]
  congr 1; omega
theorem setPart_rel {v x v' : AV} {m mx : Value} {off n : Nat} {ag : Bool} (h : Rel K F β v m) (hx : Rel K F β x mx) (hn : ag = false → n = 1) (e : setPart v off x n ag = some v') :
    ∃ cs, v = .agg cs ∧ v' = .agg (cs.take off ++ x.cells ++ cs.drop (off + n)) ∧ shape n ag x = some x ∧ x.cells.length = n ∧ off + n ≤ cs.length ∧ mx.cells.size = n ∧ off + n ≤ m.cells.size ∧ (∀ c ∈ mx.cells.toList, c.oneCell' = true) ∧
      ∃ m', Rel K F β v' m' ∧ m'.cells = (m.cells.toList.take off ++ mx.cells.toList ++ m.cells.toList.drop (off + n)).toArray := by
  unfold setPart at e
  split at e <;> try (cases e; done)
  rename_i cs x' hsh
  split at e <;> try (cases e; done)
  rename_i hle
  injection e with e
  have := shape_eq hsh
  subst this
  obtain ⟨_, hsz, hall⟩ := hx.whole hsh hn
  have hle := Nat.le_of_ble_eq_true hle
  have hxl : x'.cells.length = n := by rw [← hx.size (shape_tuple hsh)]; exact hsz
  cases h with
  | agg _ ms hl h1 =>
    have hlen := hl.length
    refine ⟨cs, rfl, e.symm, hsh, hxl, hle, hsz, by simp [Value.cells]; omega, hall, .agg (ms.take off ++ mx.cells.toList ++ ms.drop (off + n)).toArray, ?_, by simp [Value.cells]⟩
    rw [← e]
    refine .agg _ _ (((hl.take off).append (hx.cells (shape_tuple hsh))).append (hl.drop _)) ?_
    intro c hc
    simp only [List.mem_append] at hc
    rcases hc with (hc | hc) | hc
    · exact h1 c (List.mem_of_mem_take hc)
    · exact hall c hc
    · exact h1 c (List.mem_of_mem_drop hc)
theorem setPart_shape {cs : List AV} {x : AV} {off n N : Nat} {AG : Bool} (h : shape N AG (.agg cs) = some (.agg cs)) (hxl : x.cells.length = n) (hle : off + n ≤ cs.length) :
    shape N AG (.agg (cs.take off ++ x.cells ++ cs.drop (off + n))) = some (.agg (cs.take off ++ x.cells ++ cs.drop (off + n))) := by
  cases AG with
  | false => simp [shape] at h
  | true =>
    simp only [shape] at h ⊢
    have : (cs.take off ++ x.cells ++ cs.drop (off + n)).length = cs.length := by simp; omega
    rw [this]
    split at h
    · rfl
    · cases h

theorem run_store {t : TypeId} {n : Nat} {ag : Bool} (ht : tyOk K.P t n ag = true) {kk off : Nat} {cur : Array Value} {ty : TypeId} {v : Value} (hb : w.heap[kk]? = some (.cells cur ty (0, 0))) (hv : v.cells.size = n) (hle : off + n ≤ cur.size) (h1 : ∀ c ∈ v.cells.toList, c.oneCell' = true) :
    (storeVar t ⟨kk, off, none⟩ v).run K.P w = .ok () (w.setRow kk (cur.toList.take off ++ v.cells.toList ++ cur.toList.drop (off + n)).toArray) := by
  have hst := run_storeCells_at K.P kk off ty v.cells.toList 0 cur w hb (by simp [hv]; omega) h1
  simp only [Nat.add_zero, Array.length_toList, hv] at hst
  simp only [storeVar, Sem.run_bind, tyOk_size ht, Result.andThen_ok, Sem.run_ite]
  rw [if_neg (by simp [hv])]
  exact hst

theorem FSim.lset (hs : FSim K F β ρ s a w) {l kk n : Nat} {ag : Bool} {v : AV} {m : Value} {cur : Array Value} {ty : TypeId} {own : List Ent} (hr : ρ kk = some (.loc l)) (hb : w.heap[kk]? = some (.cells cur ty (0, 0)))
    (hv : Rel K F β v m) (hsh : shape n ag v = some v) (h1 : ∀ x, hasE own x = true → hasE s.own x = true ∨ ∃ o, x = .l l o)
    (h2 : ∀ o, hasE own (.l l o) = true → ∃ sz xs, slotOf ag v o = some (.list false sz xs) ∧ ∃ mo, m.cells[o]? = some mo ∧ Own F ρ w (.l l o) sz xs.length mo) :
    FSim K F β ρ { s with loc := (l, ⟨n, ag, v⟩) :: s.loc, own := own } a (w.setRow kk m.cells) ∧ Keep F β ρ w F β ρ (w.setRow kk m.cells) := by
  have t := setRow_touch (F := F) (c := m.cells) hb (hs.locs kk l hr).1
  have kE : ∀ (x : Ent) j, ρ j = some (.ent x) → j < w.heap.size ∧ ρ j = some (.ent x) := fun x j hj => ⟨hs.heap.role j _ hj, hj⟩
  have nE : ∀ x : Ent, ρ kk ≠ some (.ent x) := fun x h => by rw [hr] at h; cases h
  refine ⟨?_, t.keep (.inr (by rw [hr]; simp)) (fun j hj _ => hj)⟩
  exact {
    heap := hs.heap.touch t (fun r h => by rw [hr] at h; injection h with h; subst h; rfl) (fun _ _ _ => Iff.rfl) (fun j r hj => by have := hs.heap.role j r hj; have := t.size; omega)
    env := hs.env
    lp := hs.lp
    loc := by
      intro l' x hx
      simp only [get_cons] at hx
      by_cases hl : l = l'
      · subst hl
        rw [if_pos rfl] at hx
        injection hx with hx; subst hx
        refine ⟨kk, hr, m, ty, hv, hsh, by rw [setRow_get w kk kk m.cells cur ty _ hb, if_pos rfl], fun o ho => ?_⟩
        obtain ⟨sz, xs, e1, mo, hm, ho'⟩ := h2 o ho
        exact ⟨sz, xs, e1, mo, hm, ho'.touch t (nE _) (kE _)⟩
      · rw [if_neg hl] at hx
        obtain ⟨k, hrk, m', ty', a1, a2, a3, a4⟩ := hs.loc l' x hx
        have hne : k ≠ kk := fun e => by subst e; rw [hr] at hrk; injection hrk with hrk; injection hrk with hrk; exact hl hrk
        refine ⟨k, hrk, m', ty', a1, a2, (t.blk k hne (hs.heap.role k _ hrk)).trans a3, fun o ho => ?_⟩
        rcases h1 _ ho with h | ⟨o', h⟩
        · obtain ⟨sz, xs, e1, mo, hm, ho'⟩ := a4 o h
          exact ⟨sz, xs, e1, mo, hm, ho'.touch t (nE _) (kE _)⟩
        · injection h with h _; exact absurd h.symm hl
    locs := hs.locs
    own := by
      intro i hi
      rcases h1 _ hi with h | ⟨o', h⟩
      · obtain ⟨sz, xs, e1, ho'⟩ := hs.own i h
        exact ⟨sz, xs, e1, ho'.touch t (nE _) (kE _)⟩
      · cases h
    defers := hs.defers }
theorem hasE_dropRange (own : List Ent) (l o n : Nat) (x : Ent) : hasE (xOp.dropRange own l o n) x = true → hasE own x = true ∧ ∀ i, x = .l l i → ¬ (o ≤ i ∧ i < o + n) := by
  induction own with
  | nil => intro h; simp [xOp.dropRange, hasE] at h
  | cons y r ih =>
    intro h
    cases y with
    | l p q =>
      simp only [xOp.dropRange] at h
      split at h
      · obtain ⟨h1, h2⟩ := ih h
        exact ⟨(hasE_cons _ _ _).2 (.inr h1), h2⟩
      · rename_i hb
        rcases (hasE_cons _ _ _).1 h with h | h
        · subst h
          refine ⟨(hasE_cons _ _ _).2 (.inl rfl), fun i hi hc => ?_⟩
          injection hi with h1 h2
          subst h1; subst h2
          have : (Nat.beq p p && Nat.ble o q && Nat.blt q (o + n)) = true := by
            simp only [Bool.and_eq_true, blt_iff]
            exact ⟨⟨by simp, Nat.ble_eq_true_of_le hc.1⟩, hc.2⟩
          rw [this] at hb; cases hb
        · obtain ⟨h1, h2⟩ := ih h
          exact ⟨(hasE_cons _ _ _).2 (.inr h1), h2⟩
    | _ =>
      simp only [xOp.dropRange] at h
      rcases (hasE_cons _ _ _).1 h with h | h
      · subst h; exact ⟨(hasE_cons _ _ _).2 (.inl rfl), fun i hi => by cases hi⟩
      · obtain ⟨h1, h2⟩ := ih h
        exact ⟨(hasE_cons _ _ _).2 (.inr h1), h2⟩
theorem s_lstore (hs : FSim K F β ρ s a w) {src n : Nat} {ag : Bool} {x : Opd} {os : List Nat} {X : Operand} {t : TypeId} {o : Oper} {C : Call} {k : S → R} {r : AV × H} {next : Act → World → Prop} {Q : Exit → Act → World → Prop}
    (h : o.op = .store t (.tmp src) X) (ht : tyOk K.P t n ag = true) (hX : opdOk K x X = true) (hd : o.dst = none) (e : xOp C (.lstore src n ag x os) o.dst s k = some r) (hp : Post K F β ρ w s a k r next) : o.wp K.P a w next Q := by
  simp only [xOp] at e
  split at e <;> try (cases e; done)
  rename_i l o0 v hl hv
  split at e <;> try (cases e; done)
  rename_i y hy
  obtain ⟨hlt, kk, hr, hm⟩ := hs.lp src l o0 hl
  obtain ⟨kk', hr', m, ty, h1, h2, h3, h4⟩ := hs.loc l y hy
  have := (hs.locs kk l hr).2 kk' hr'
  subst this
  have hrv := opd_rel hs hX hv
  have hn : ag = false → n = 1 := fun h => tyOk_one (h ▸ ht)
  have run : ∀ w', (storeVar t ⟨kk, o0, none⟩ (a.eval X)).run K.P w = .ok () w' → (execOp a.eval o).run K.P w = .ok .skip w' := by
    intro w' hw'
    have hA : a.eval (.tmp src) = .pointer (some ⟨kk, o0, none⟩) := hm
    simp only [execOp, h, hA, Instr.storeAt, Instr.sureAddr, Sem.run_bind, Sem.run_pure, Result.andThen_ok, hw']
  split at e
  · rename_i hb hag
    have hb := beq_true.1 hb
    have hag := agg_eq hag
    simp only [Option.bind_eq_some_iff] at e
    obtain ⟨u, hu, v', hcl, e⟩ := e
    have := shape_eq hu
    subst this
    obtain ⟨_, hsz, hall⟩ := hrv.whole hu hn
    obtain ⟨r1, r2, r3, _⟩ := claim_rel hcl hu hrv
    have hmsz : m.cells.size = n := by
      rw [hb, hag] at h2
      exact (h1.whole h2 hn).2.1
    have hst := run_store (K := K) (off := 0) (v := a.eval X) ht h3 hsz (by omega) hall
    have hcells : (m.cells.toList.take 0 ++ (a.eval X).cells.toList ++ m.cells.toList.drop (0 + n)).toArray = (a.eval X).cells := by
      rw [List.drop_eq_nil_of_le (by simp; omega)]; simp
    rw [hcells] at hst
    obtain ⟨g1, g2⟩ := hs.lset (own := ownersOf l os ++ delLoc s.own l) hr h3 r1 r2 (fun x hx => by
      rcases (hasE_append _ _ _).1 hx with h | h
      · obtain ⟨o, _, h⟩ := (hasE_ownersOf _ _ _).1 h; exact .inr ⟨o, h⟩
      · exact .inl ((hasE_delLoc _ _ _).1 h).1) (fun o ho => by
      rcases (hasE_append _ _ _).1 ho with h | h
      · obtain ⟨o', ho', h⟩ := (hasE_ownersOf _ _ _).1 h
        injection h with _ h; subst h
        obtain ⟨sz, e1, e2⟩ := r3 o ho'
        exact ⟨sz, [], e1, _, e2, .inl ⟨rfl, rfl⟩⟩
      · exact absurd rfl (((hasE_delLoc _ _ _).1 h).2 o))
    refine wp_skip' (run _ hst) ?_
    rw [hd]
    exact hp _ F β ρ _ _ g1 rfl g2 rfl e
  · rename_i o0 _ _ _ _
    simp only [Option.bind_eq_some_iff] at e
    obtain ⟨v', hset, e⟩ := e
    obtain ⟨cs, hcs, hv', hshx, hxl, hle, hsz, hmle, hall, m', hr2, hm'⟩ := setPart_rel h1 hrv hn hset
    have hst := run_store (K := K) (off := o0) (v := a.eval X) ht h3 hsz hmle hall
    rw [← hm'] at hst
    have hsh' : shape y.n y.agg v' = some v' := by
      rw [hv']; rw [hcs] at h2; exact setPart_shape h2 hxl hle
    have hagt : y.agg = true := by
      rw [hcs] at h2
      cases hya : y.agg with
      | true => rfl
      | false => rw [hya] at h2; simp [shape] at h2
    obtain ⟨g1, g2⟩ := hs.lset (own := xOp.dropRange s.own l o0 n) hr h3 hr2 hsh' (fun x hx => .inl (hasE_dropRange _ _ _ _ _ hx).1) (fun o ho => by
      obtain ⟨ho1, ho2⟩ := hasE_dropRange _ _ _ _ _ ho
      have hout := ho2 o rfl
      obtain ⟨sz, xs, e1, mo, hmo, hown⟩ := h4 o ho1
      refine ⟨sz, xs, ?_, mo, ?_, hown⟩
      · simp only [slotOf, hagt, if_true, hcs, agg_cells] at e1
        simp only [slotOf, hagt, if_true, hv', agg_cells]
        rw [splice_get cs v.cells o0 n o hxl hle hout]; exact e1
      · rw [hm']
        simp only [List.getElem?_toArray]
        rw [splice_get m.cells.toList (a.eval X).cells.toList o0 n o (by simpa using hsz) (by simpa using hmle) hout]
        simpa using hmo)
    refine wp_skip' (run _ hst) ?_
    rw [hd]
    exact hp _ F β ρ _ _ g1 rfl g2 rfl e
/-- what owner cell o holds is what the load takes out -/
theorem slot_part {v x : AV} {ag : Bool} {o : Nat} (h : (match ag, o with | true, o => Abs.part v o 1 false | false, 0 => some v | _, _ => none) = some x) : slotOf ag v o = some x := by
  cases ag with
  | true =>
    simp only at h
    unfold Abs.part at h
    split at h <;> try (cases h; done)
    rename_i cs
    simp only at h
    split at h <;> try (cases h; done)
    rename_i c hc
    injection h with h; subst h
    simp [slotOf, agg_cells, hc]
  | false =>
    cases o with
    | zero => simp only at h; injection h with h; subst h; simp [slotOf]
    | succ o => cases h
theorem s_take (hs : FSim K F β ρ s a w) {src : Nat} {t : TypeId} {o : Oper} {C : Call} {k : S → R} {r : AV × H} {next : Act → World → Prop} {Q : Exit → Act → World → Prop}
    (h : o.op = .load t (.tmp src)) (ht : tyOk K.P t 1 false = true) (hd : ∀ x, o.dst = some x → x < a.tmps.size) (e : xOp C (.take src) o.dst s k = some r) (hp : Post K F β ρ w s a k r next) : o.wp K.P a w next Q := by
  simp only [xOp] at e
  split at e <;> try (cases e; done)
  rename_i l o0 d hl hdst
  have hd := hd d hdst
  split at e <;> try (cases e; done)
  rename_i x hx hown
  simp only [Option.bind_eq_some_iff] at e
  obtain ⟨v, hv, e⟩ := e
  obtain ⟨hlt, kk, hr, hm⟩ := hs.lp src l o0 hl
  obtain ⟨kk', hr', m, ty, h1, h2, h3, h4⟩ := hs.loc l x hx
  have := (hs.locs kk l hr).2 kk' hr'
  subst this
  obtain ⟨sz, xs, e1, mo, hmo, ho⟩ := h4 o0 hown
  rw [slot_part hv] at e1
  injection e1 with e1
  subst e1
  have hle : o0 < m.cells.size := (Array.getElem?_eq_some_iff.1 hmo).1
  have hrun := run_load_cells (K := K) ht h3 o0 (by omega)
  have hval : partM ((m.cells.toList.drop o0).take 1) 0 1 false = mo := by
    simp [partM, List.getD_eq_getElem?_getD, List.getElem?_drop, hmo]
  rw [hval] at hrun
  have hrel : Rel K F β (.list false sz xs) mo := by
    cases hag : x.agg with
    | true =>
      rw [hag] at hv
      obtain ⟨q1, _⟩ := h1.part2 (fun _ => rfl) hv
      rw [hval] at q1; exact q1
    | false =>
      rw [hag] at hv
      cases o0 with
      | zero =>
        simp only at hv
        injection hv with hv
        rw [hv] at h1
        have : m.cells = #[m] := cells_one (h1.one rfl)
        rw [this] at hmo
        simp at hmo
        rw [← hmo]; exact h1
      | succ _ => cases hv
  obtain ⟨g1, g2⟩ := hs.ownTake (d := d) (e := .l l o0) rfl (by simp) hd hrel ho
  refine wp_value (m := mo) (w' := w) ?_ ?_
  · have hA : a.eval (.tmp src) = .pointer (some ⟨kk, o0, none⟩) := hm
    simp only [execOp, h, hA, Instr.loadAt, Instr.sureAddr, Sem.run_bind, Sem.run_pure, Result.andThen_ok, hrun]
  · rw [hdst]
    exact hp _ F β _ _ w g1 (put_size _ _ _) g2 rfl e
/-- a list's owner changes its name -/
def Roles.mv (ρ : Roles) (e e' : Ent) : Roles := fun k => if ρ k = some (.ent e) then some (.ent e') else if ρ k = some (.ent e') then none else ρ k
theorem mv_iff {e e' : Ent} {k : Nat} {r : Role} (h1 : r ≠ .ent e) (h2 : r ≠ .ent e') : ρ.mv e e' k = some r ↔ ρ k = some r := by
  unfold Roles.mv
  split
  · rename_i h; rw [h]; constructor
    · intro h'; injection h' with h'; exact absurd h'.symm h2
    · intro h'; injection h' with h'; exact absurd h'.symm h1
  · split
    · rename_i h; rw [h]; constructor
      · intro h'; cases h'
      · intro h'; injection h' with h'; exact absurd h'.symm h2
    · exact Iff.rfl
theorem mv_some {e e' : Ent} {k : Nat} {r : Role} (h : ρ.mv e e' k = some r) : ∃ r', ρ k = some r' := by
  unfold Roles.mv at h
  split at h
  · exact ⟨_, by assumption⟩
  · split at h
    · cases h
    · exact ⟨r, h⟩
theorem Own.mv {e e' : Ent} {sz n : Nat} {v : Value} (h : Own F ρ w e sz n v) : Own F (ρ.mv e e') w e' sz n v := by
  rcases h with h | ⟨g, cap, cur, ty, rfl, hr, rest⟩
  · exact .inl h
  · exact .inr ⟨g, cap, cur, ty, rfl, by simp [Roles.mv, hr], rest⟩
theorem FSim.renames (hs : FSim K F β ρ s a w) {e e' : Ent} (he : e.isFrame = true) (he' : e'.isFrame = true) :
    FSim K F β (ρ.mv e e') { s with own := delE (delE s.own e') e } a w ∧ Keep F β ρ w F β (ρ.mv e e') w := by
  have t := Touch.self hs.heap
  have nsz : ∀ j r, ρ j = some r → j ≠ w.heap.size := fun j r hr h => by have := hs.heap.role j r hr; omega
  have hE : ∀ x, hasE (delE (delE s.own e') e) x = true → hasE s.own x = true ∧ x ≠ e ∧ x ≠ e' := by
    intro x hx
    obtain ⟨h1, h2⟩ := (hasE_delE _ _ _).1 hx
    obtain ⟨h1, h3⟩ := (hasE_delE _ _ _).1 h1
    exact ⟨h1, h2, h3⟩
  have kE : ∀ (x : Ent), x ≠ e → x ≠ e' → ∀ j, ρ j = some (.ent x) → j < w.heap.size ∧ ρ.mv e e' j = some (.ent x) :=
    fun x h1 h2 j hj => ⟨hs.heap.role j _ hj, (mv_iff (fun h => h1 (by injection h)) (fun h => h2 (by injection h))).2 hj⟩
  refine ⟨?_, t.keep (.inl (Nat.le_refl _)) (fun j hj _ => ?_)⟩
  · exact {
      heap := hs.heap.touch t (fun r hr => absurd rfl (nsz _ r hr)) (fun j r hr => mv_iff (fun h => by subst h; cases e <;> simp [Role.isH, Ent.isFrame] at hr he) (fun h => by subst h; cases e' <;> simp [Role.isH, Ent.isFrame] at hr he')) (fun j r hr => by obtain ⟨r', h⟩ := mv_some hr; exact hs.heap.role j r' h)
      env := hs.env
      lp := by
        intro i l o hx
        obtain ⟨h1, k, h2, h3⟩ := hs.lp i l o hx
        exact ⟨h1, k, (mv_iff (by simp) (by simp)).2 h2, h3⟩
      loc := by
        intro l x hx
        obtain ⟨k, hr, m', ty, h1, h2, h3, h4⟩ := hs.loc l x hx
        refine ⟨k, (mv_iff (by simp) (by simp)).2 hr, m', ty, h1, h2, h3, fun o ho => ?_⟩
        obtain ⟨ho1, ho2, ho3⟩ := hE _ ho
        obtain ⟨sz', ys, e1, mo, hm, ho'⟩ := h4 o ho1
        exact ⟨sz', ys, e1, mo, hm, ho'.touch t (fun h => nsz _ _ h rfl) (kE _ ho2 ho3)⟩
      locs := by
        intro k l hr
        have h0 := (mv_iff (by simp) (by simp)).1 hr
        exact ⟨(hs.locs k l h0).1, fun k' hk' => (hs.locs k l h0).2 k' ((mv_iff (by simp) (by simp)).1 hk')⟩
      own := by
        intro i hi
        obtain ⟨ho1, ho2, ho3⟩ := hE _ hi
        obtain ⟨sz', ys, e1, ho'⟩ := hs.own i ho1
        exact ⟨sz', ys, e1, ho'.touch t (fun h => nsz _ _ h rfl) (kE _ ho2 ho3)⟩
      defers := hs.defers }
  · obtain ⟨r, hr⟩ := Option.ne_none_iff_exists'.1 hj
    obtain ⟨r', h⟩ := mv_some hr
    rw [h]; simp
theorem s_give (hs : FSim K F β ρ s a w) {src x : Nat} {t : TypeId} {o : Oper} {C : Call} {k : S → R} {r : AV × H} {next : Act → World → Prop} {Q : Exit → Act → World → Prop}
    (h : o.op = .store t (.tmp src) (.tmp x)) (ht : tyOk K.P t 1 false = true) (hd : o.dst = none) (e : xOp C (.give src x) o.dst s k = some r) (hp : Post K F β ρ w s a k r next) : o.wp K.P a w next Q := by
  simp only [xOp] at e
  split at e <;> try (cases e; done)
  rename_i l o0 v hl hv hown
  split at e <;> try (cases e; done)
  rename_i y hy
  simp only [Option.bind_eq_some_iff] at e
  obtain ⟨v', hset, e⟩ := e
  obtain ⟨sz, xs, e1, ho⟩ := hs.own x hown
  rw [hv] at e1
  injection e1 with e1
  subst e1
  obtain ⟨g1, g2⟩ := hs.renames (e := .t x) (e' := .l l o0) rfl rfl
  have ho := ho.mv (e' := .l l o0)
  have hs' := g1
  obtain ⟨hlt, kk, hr, hm⟩ := g1.lp src l o0 hl
  obtain ⟨kk', hr', m, ty, h1, h2, h3, h4⟩ := g1.loc l y hy
  have := (g1.locs kk l hr).2 kk' hr'
  subst this
  obtain ⟨hxlt, hrv⟩ := g1.env x _ hv
  generalize hmx : a.tmps.getD x undef = mx at *
  have hX : a.eval (.tmp x) = mx := hmx
  have run : ∀ w', (storeVar t ⟨kk, o0, none⟩ mx).run K.P w = .ok () w' → (execOp a.eval o).run K.P w = .ok .skip w' := by
    intro w' hw'
    have hA : a.eval (.tmp src) = .pointer (some ⟨kk, o0, none⟩) := hm
    simp only [execOp, h, hA, hX, Instr.storeAt, Instr.sureAddr, Sem.run_bind, Sem.run_pure, Result.andThen_ok, hw']
  have hone : mx.oneCell' = true := hrv.one rfl
  have hcm : mx.cells = #[mx] := cells_one hone
  have hEown : ∀ z, hasE (.l l o0 :: delE (delE s.own (.l l o0)) (.t x)) z = true → z = .l l o0 ∨ hasE (delE (delE s.own (.l l o0)) (.t x)) z = true := by
    intro z hz
    rcases (hasE_cons _ _ _).1 hz with h | h
    · exact .inl h.symm
    · exact .inr h
  have fin : ∀ (m' : Value), Rel K F β v' m' → shape y.n y.agg v' = some v' → slotOf y.agg v' o0 = some (.list false sz xs) → m'.cells[o0]? = some mx → (∀ i, i ≠ o0 → slotOf y.agg v' i = slotOf y.agg y.v i ∧ m'.cells[i]? = m.cells[i]?) →
      (storeVar t ⟨kk, o0, none⟩ mx).run K.P w = .ok () (w.setRow kk m'.cells) → o.wp K.P a w next Q := by
    intro m' q1 q2 q3 q4 q5 hst
    obtain ⟨f1, f2⟩ := g1.lset (own := .l l o0 :: delE (delE s.own (.l l o0)) (.t x)) hr h3 q1 q2 (fun z hz => by
      rcases hEown z hz with h | h
      · exact .inr ⟨o0, h⟩
      · exact .inl h) (fun i hi => by
      rcases hEown _ hi with h | h
      · injection h with _ h; subst h
        exact ⟨sz, xs, q3, mx, q4, ho⟩
      · have hne : i ≠ o0 := by
          intro e; subst e
          obtain ⟨h5, _⟩ := (hasE_delE _ _ _).1 h
          exact ((hasE_delE _ _ _).1 h5).2 rfl
        obtain ⟨sz', ys, e1, mo, hmo, ho'⟩ := h4 i h
        exact ⟨sz', ys, (q5 i hne).1.trans e1, mo, (q5 i hne).2.trans hmo, ho'⟩)
    refine wp_skip' (run _ hst) ?_
    rw [hd]
    exact hp _ F β _ _ _ f1 rfl (g2.trans f2) rfl e
  cases hag : y.agg with
  | true =>
    rw [hag] at hset
    simp only at hset
    obtain ⟨cs, hcs, hv', hshx, hxl, hle, hsz, hmle, hall, m', hr2, hm'⟩ := setPart_rel h1 hrv (fun _ => rfl) hset
    have hst := run_store (K := K) (off := o0) (v := mx) ht h3 hsz hmle hall
    rw [← hm'] at hst
    refine fin m' hr2 (by rw [hv']; rw [hcs] at h2; exact setPart_shape h2 hxl hle) ?_ ?_ (fun i hi => ?_) hst
    · have := splice_at cs (AV.list false sz xs).cells o0 1 0 hle (by simp [AV.cells])
      simp only [slotOf, hag, if_true, hv', agg_cells]
      simpa [AV.cells] using this
    · rw [hm']
      simp only [List.getElem?_toArray]
      have := splice_at m.cells.toList mx.cells.toList o0 1 0 (by simpa using hmle) (by simp [hcm])
      simpa [hcm] using this
    · constructor
      · simp only [slotOf, hag, if_true, hv', hcs, agg_cells]
        rw [splice_get cs _ o0 1 i hxl hle (by omega)]
      · rw [hm']
        simp only [List.getElem?_toArray]
        rw [splice_get m.cells.toList mx.cells.toList o0 1 i (by simp [hcm]) (by simpa using hmle) (by omega)]
        simp
  | false =>
    rw [hag] at hset
    cases o0 with
    | succ _ => cases hset
    | zero =>
      simp only at hset
      have hv2 := shape_eq hset
      subst hv2
      have hms : m.cells.size = 1 := by
        rw [hag] at h2
        have hc : y.v.isCell = true := by
          cases hyv : y.v <;> first | rfl | (rw [hyv] at h2; cases h2)
        rw [cells_one (h1.one hc)]; rfl
      have hst := run_store (K := K) (off := 0) (v := mx) ht h3 (by simp [hcm]) (by omega) (by simp [hcm, hone])
      have hcells : (m.cells.toList.take 0 ++ mx.cells.toList ++ m.cells.toList.drop (0 + 1)).toArray = mx.cells := by
        rw [List.drop_eq_nil_of_le (by simp [hms])]; simp
      rw [hcells] at hst
      refine fin mx hrv (by rw [hag]; rfl) (by simp [slotOf, hag]) (by simp [hcm]) (fun i hi => ?_) hst
      constructor
      · simp [slotOf, hag, hi]
      · rw [hcm, Array.getElem?_eq_none (by simp; omega), Array.getElem?_eq_none (by omega)]
end Go.Abs
