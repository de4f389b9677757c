/- Lists that blocks of the heap own. -/
import Derived.Test.YtiefbkjoldcebaaDoorXxHeap
namespace Go.Abs
variable {K : Seat} {F F' : FZ} {β β' : BM} {ρ ρ' : Roles} {w w' : World} {s : S} {a : Act}

theorem whole_slot {v : AV} {ag : Bool} {off n : Nat} {m : Value} {mo : Value} {sz : Nat} {xs : List AV} (hr : Rel K F β v m) (hs : slotOf ag v off = some (.list false sz xs)) (hsh : shape n ag v = some v) (hm : m.cells[off]? = some mo) : Rel K F β (.list false sz xs) mo := by
  have hl := hr.cells (shape_tuple hsh)
  cases ag with
  | true =>
    simp only [slotOf, if_true] at hs
    obtain ⟨y, hy, hr'⟩ := hl.get off _ hs
    simp only [Array.getElem?_toList] at hy
    rw [hm] at hy; injection hy with hy; subst hy; exact hr'
  | false =>
    simp only [slotOf, Bool.false_eq_true, if_false] at hs
    split at hs
    · rename_i h0
      subst h0
      injection hs with hs; subst hs
      have hc : m.cells = #[m] := cells_one (hr.one rfl)
      rw [hc] at hm; simp at hm; subst hm; exact hr
    · cases hs

theorem s_htake (hs : FSim K F β ρ s a w) {p : Opd} {X : Operand} {t : TypeId} {o : Oper} {C : Call} {k : S → R} {r : AV × H} {next : Act → World → Prop} {Q : Exit → Act → World → Prop}
    (h : o.op = .load t X) (hX : opdOk K p X = true) (ht : tyOk K.P t 1 false = true) (hd : ∀ x, o.dst = some x → x < a.tmps.size) (e : xOp C (.htake p) o.dst s k = some r) (hp : Post K F β ρ w s a k r next) : o.wp K.P a w next Q := by
  simp only [xOp] at e
  split at e <;> try (cases e; done)
  rename_i p' d hv hdst
  have hd := hd d hdst
  simp only [Option.bind_eq_some_iff] at e
  obtain ⟨⟨v, h'⟩, hv2, e⟩ := e
  unfold xOp.hTake at hv2
  split at hv2 <;> try (cases hv2; done)
  rename_i b off
  split at hv2 <;> try (cases hv2; done)
  rename_i n ag bv os hb
  split at hv2 <;> try (cases hv2; done)
  rename_i hmem
  have hrp := opd_rel hs hX hv
  generalize hmp : a.eval X = mp at *
  obtain ⟨g0, k0, kk, hb1, hr1, ⟨hg, mm, c, ty, h1, h2, h3, h4, h5⟩, hm, hk⟩ := ptr_blk hs.heap hrp hb
  have := hk hg.symm
  subst this
  subst hg
  subst h3
  obtain ⟨sz, xs, e1, mo, hmo, hown⟩ := h5 off hmem
  have e1 : slotOf ag bv off = some (.list false sz xs) := e1
  have hrel := whole_slot h1 e1 h2 hmo
  have hle : off < mm.cells.size := (Array.getElem?_eq_some_iff.1 hmo).1
  have hrun := run_load_cells (K := K) ht h4 off (by omega)
  have hval : partM ((mm.cells.toList.drop off).take 1) 0 1 false = mo := by
    simp [partM, List.getD_eq_getElem?_getD, List.getElem?_drop, hmo]
  rw [hval] at hrun
  have hρ : ∀ j q, q ≠ .ent (.h b off) → q ≠ .ent (.t d) → (ρ.swap (.h b off) d j = some q ↔ ρ j = some q) := fun j q h1 h2 => swap_iff h2 h1
  have fin : ∀ os', (∀ o ∈ os', o ∈ os ∧ o ≠ off) → v = .list false sz xs → h' = s.h.set b (.cells n ag bv os') → o.wp K.P a w next Q := by
    intro os' q1 q2 q3
    have hh : HSim K F β (ρ.swap (.h b off) d) (s.h.set b (.cells n ag bv os')) w := by
      refine hs.heap.setBlk hb1 hb (Touch.none hs.heap kk) (fun j q hq hn => hρ j q (hn off) (fun h => by subst h; simp [Role.isH] at hq)) (fun j q hj => by obtain ⟨r', h⟩ := swap_some hj; exact hs.heap.role j r' h) ?_ (fun fl hfl hbf => by have := low_get hs.heap hb fl hfl hbf; simpa only [Blk.under] using this) hr1
      refine ⟨rfl, mm, mm.cells, ty, h1, h2, rfl, h4, fun o ho => ?_⟩
      obtain ⟨p1, p2⟩ := q1 o ho
      obtain ⟨sz', ys, e1, mo', hmo', hown'⟩ := h5 o p1
      exact ⟨sz', ys, e1, mo', hmo', hown'.keep (fun g hg => ⟨(hρ g _ (fun h => p2 (by injection h with h; injection h)) (by simp)).2 hg, rfl, fun _ h => h⟩)⟩
    have hst := hs.step (F' := F) (delE s.own (.t d)) (s.h.set b (.cells n ag bv os')) hh (FLe.refl _) (BLe.refl _) (fun j l => hρ j _ (by simp) (by simp)) (fun _ _ _ => ⟨rfl, fun _ h => h⟩)
      (fun e he => by
        obtain ⟨p1, p2⟩ := (hasE_delE _ _ _).1 he
        exact ⟨p1, fun hf g hg => ⟨(hρ g _ (fun h => by injection h with h; subst h; simp [Ent.isFrame] at hf) (fun h => p2 (by injection h))).2 hg, rfl, fun _ h => h⟩⟩)
    have hput := hst.put d (.list false sz xs) mo hd hrel
    have hgv := hput.giveT (d := d) (sz := sz) (xs := xs) (.t d :: delE s.own (.t d)) (by simp [S.put, get_cons]) (by rw [put_get a d d mo hd, if_pos rfl]; exact hown.swap) (fun e he => by
      rcases (hasE_cons _ _ _).1 he with h | h
      · exact .inl h.symm
      · obtain ⟨p1, p2⟩ := (hasE_delE _ _ _).1 h
        exact .inr ((hasE_delE _ _ _).2 ⟨(hasE_delE _ _ _).2 ⟨p1, p2⟩, p2⟩))
    refine wp_value (m := mo) (w' := w) ?_ ?_
    · simp only [execOp, h, hmp, hm, Instr.loadAt, Instr.sureAddr, Sem.run_bind, Sem.run_pure, Result.andThen_ok, hrun]
    · rw [hdst]
      refine hp _ F β (ρ.swap (.h b off) d) _ w hgv (put_size _ _ _) ((Touch.self hs.heap).keep (.inl (Nat.le_refl _)) (fun j hj _ => ?_)) rfl (by rw [q2, q3] at e; exact e)
      obtain ⟨r, hr⟩ := Option.ne_none_iff_exists'.1 hj
      obtain ⟨r', h⟩ := swap_some hr
      rw [h]; simp
  cases ag with
  | true =>
    simp only [Option.map_eq_some_iff] at hv2
    obtain ⟨x, hx, hv2⟩ := hv2
    injection hv2 with hv2 hv3
    subst hv2
    refine fin _ (fun o ho => ?_) ?_ hv3.symm
    · simp only [List.mem_filter, bne_iff_ne, ne_eq] at ho; exact ho
    · have := slot_part (ag := true) (v := bv) (o := off) (x := x) hx
      rw [e1] at this; injection this with this; exact this.symm
  | false =>
    cases off with
    | zero =>
      simp only [Option.some.injEq, Prod.mk.injEq] at hv2
      refine fin [] (by simp) ?_ hv2.2.symm
      simp only [slotOf, Bool.false_eq_true, if_false, if_true, Option.some.injEq] at e1
      rw [← hv2.1, e1]
    | succ _ => cases hv2

theorem s_hgive (hs : FSim K F β ρ s a w) {p : Opd} {x : Nat} {X : Operand} {t : TypeId} {o : Oper} {C : Call} {k : S → R} {r : AV × H} {next : Act → World → Prop} {Q : Exit → Act → World → Prop}
    (h : o.op = .store t X (.tmp x)) (hX : opdOk K p X = true) (ht : tyOk K.P t 1 false = true) (hd : o.dst = none) (e : xOp C (.hgive p x) o.dst s k = some r) (hp : Post K F β ρ w s a k r next) : o.wp K.P a w next Q := by
  simp only [xOp] at e
  split at e <;> try (cases e; done)
  rename_i p' v hv hvx hownx
  simp only [Option.bind_eq_some_iff] at e
  obtain ⟨h', hv2, e⟩ := e
  unfold xOp.hGive at hv2
  split at hv2 <;> try (cases hv2; done)
  rename_i b off
  split at hv2 <;> try (cases hv2; done)
  rename_i n ag bv os hb hmay
  have hrp := opd_rel hs hX hv
  generalize hmp : a.eval X = mp at *
  obtain ⟨g0, k0, kk, hb1, hr1, ⟨hg, mm, c, ty, h1, h2, h3, h4, h5⟩, hm, hk⟩ := ptr_blk hs.heap hrp hb
  have := hk hg.symm
  subst this
  subst hg
  subst h3
  obtain ⟨sz, xs, e1, ho⟩ := hs.own x hownx
  rw [hvx] at e1
  injection e1 with e1
  subst e1
  have hrv := (hs.env x _ hvx).2
  generalize hmx : a.tmps.getD x undef = mx at *
  have hXv : a.eval (.tmp x) = mx := hmx
  have hone : mx.oneCell' = true := hrv.one rfl
  have hcm : mx.cells = #[mx] := cells_one hone
  have hρ : ∀ j q, q ≠ .ent (.t x) → q ≠ .ent (.h b off) → (ρ.mv (.t x) (.h b off) j = some q ↔ ρ j = some q) := fun j q h1 h2 => mv_iff h1 h2
  have fin : ∀ (v' : AV) (m' : Value) (os' : List Nat), Rel K F β v' m' → shape n ag v' = some v' → slotOf ag v' off = some (.list false sz xs) → m'.cells[off]? = some mx → (∀ i, i ≠ off → slotOf ag v' i = slotOf ag bv i ∧ m'.cells[i]? = mm.cells[i]?) →
      (∀ o ∈ os', o ≠ off → o ∈ os) → (∀ fl ∈ s.h.floors, b < fl → v'.under fl = true) → h' = s.h.set b (.cells n ag v' os') → (storeVar t ⟨kk, off, none⟩ mx).run K.P w = .ok () (w.setRow kk m'.cells) → o.wp K.P a w next Q := by
    intro v' m' os' q1 q2 q3 q4 q5 q6 q7 q8 hrun
    have tt := setRow_touch (F := F) (c := m'.cells) h4 (hs.heap.free kk b hr1)
    have nE : ∀ e : Ent, ρ kk ≠ some (.ent e) := fun e h => by rw [hr1] at h; cases h
    have hh : HSim K F β (ρ.mv (.t x) (.h b off)) (s.h.set b (.cells n ag v' os')) (w.setRow kk m'.cells) := by
      refine hs.heap.setBlk hb1 hb tt (fun j q hq hn => hρ j q (fun h => by subst h; simp [Role.isH] at hq) (hn off)) (fun j q hj => by obtain ⟨r', h⟩ := mv_some hj; have := hs.heap.role j r' h; have := tt.size; omega) ?_ q7 hr1
      refine ⟨rfl, m', m'.cells, ty, q1, q2, rfl, by rw [setRow_get w kk kk m'.cells mm.cells ty _ h4, if_pos rfl], fun i hi => ?_⟩
      by_cases hio : i = off
      · subst hio
        refine ⟨sz, xs, q3, mx, q4, ?_⟩
        rcases ho with h | ⟨g, cap, cur, ty', e0, hr, hg, rest⟩
        · exact .inl h
        · have hgk : g ≠ kk := fun e => nE (.t x) (e ▸ hr)
          exact .inr ⟨g, cap, cur, ty', e0, by simp [Roles.mv, hr], (tt.blk g hgk (hs.heap.role g _ hr)).trans hg, rest⟩
      · obtain ⟨sz', ys, e1, mo', hmo', hown'⟩ := h5 i (q6 i hi hio)
        exact ⟨sz', ys, (q5 i hio).1.trans e1, mo', (q5 i hio).2.trans hmo', hown'.touch tt (nE _) (fun j hj => ⟨hs.heap.role j _ hj, (hρ j _ (by simp) (fun h => hio (by injection h with h; injection h))).2 hj⟩)⟩
    have hst := hs.step (F' := F) (delE s.own (.t x)) (s.h.set b (.cells n ag v' os')) hh (FLe.refl _) (BLe.refl _) (fun j l => hρ j _ (by simp) (by simp)) (fun j l hj => ⟨tt.blk j (fun e => by subst e; rw [hr1] at hj; cases hj) (hs.heap.role j _ hj), fun _ h => h⟩)
      (fun e he => by
        obtain ⟨p1, p2⟩ := (hasE_delE _ _ _).1 he
        exact ⟨p1, fun hf g hg => ⟨(hρ g _ (fun h => p2 (by injection h)) (fun h => by injection h with h; subst h; simp [Ent.isFrame] at hf)).2 hg, tt.blk g (fun e' => nE e (e' ▸ hg)) (hs.heap.role g _ hg), fun _ h => h⟩⟩)
    refine wp_skip' (w' := w.setRow kk m'.cells) ?_ ?_
    · simp only [execOp, h, hmp, hm, hXv, Instr.storeAt, Instr.sureAddr, Sem.run_bind, Sem.run_pure, Result.andThen_ok, hrun]
    · rw [hd]
      refine hp { s with own := delE s.own (.t x), h := s.h.set b (.cells n ag v' os') } F β (ρ.mv (.t x) (.h b off)) _ _ hst rfl (tt.keep (.inr (by rw [hr1]; simp)) (fun j hj _ => ?_)) rfl (by rw [q8] at e; exact e)
      obtain ⟨r, hr⟩ := Option.ne_none_iff_exists'.1 hj
      obtain ⟨r', h⟩ := mv_some hr
      rw [h]; simp
  cases ag with
  | true =>
    simp only [Option.map_eq_some_iff] at hv2
    obtain ⟨v', hset, hv3⟩ := hv2
    obtain ⟨cs, hcs, hv', hshx, hxl, hle, hsz, hmle, hall, m', hr2, hm'⟩ := setPart_rel h1 hrv (fun _ => rfl) hset
    have hst := run_store (K := K) (off := off) (v := mx) ht h4 hsz hmle hall
    rw [← hm'] at hst
    refine fin v' m' _ hr2 (by rw [hv']; rw [hcs] at h2; exact setPart_shape h2 hxl hle) ?_ ?_ (fun i hi => ?_) (fun o ho hne => ?_) (fun fl hfl hbf => ?_) hv3.symm hst
    · have := splice_at cs (AV.list false sz xs).cells off 1 0 hle (by simp [AV.cells])
      simp only [slotOf, if_true, hv', agg_cells]
      simpa [AV.cells] using this
    · rw [hm']
      simp only [List.getElem?_toArray]
      have := splice_at mm.cells.toList mx.cells.toList off 1 0 (by simpa using hmle) (by simp [hcm])
      simpa [hcm] using this
    · constructor
      · simp only [slotOf, if_true, hv', hcs, agg_cells]
        rw [splice_get cs _ off 1 i hxl hle (by omega)]
      · rw [hm']
        simp only [List.getElem?_toArray]
        rw [splice_get mm.cells.toList mx.cells.toList off 1 i (by simp [hcm]) (by simpa using hmle) (by omega)]
        simp
    · rcases List.mem_cons.1 ho with h | h
      · exact absurd h hne
      · exact (List.mem_filter.1 h).1
    · rw [hv']
      have := low_get hs.heap hb fl hfl hbf
      rw [hcs] at this
      exact under_splice this (mayStore_under hmay fl hfl hbf) (shape_tuple hshx)
  | false =>
    cases off with
    | succ _ => cases hv2
    | zero =>
      simp only [Option.map_eq_some_iff] at hv2
      obtain ⟨v', hsh, hv3⟩ := hv2
      have hv4 := shape_eq hsh
      subst hv4
      have hms : mm.cells.size = 1 := by
        have hc : bv.isCell = true := by
          cases hyv : bv <;> first | rfl | (rw [hyv] at h2; cases h2)
        rw [cells_one (h1.one hc)]; rfl
      have hst := run_store (K := K) (off := 0) (v := mx) ht h4 (by simp [hcm]) (by omega) (by simp [hcm, hone])
      have hcells : (mm.cells.toList.take 0 ++ mx.cells.toList ++ mm.cells.toList.drop (0 + 1)).toArray = mx.cells := by
        rw [List.drop_eq_nil_of_le (by simp [hms])]; simp
      rw [hcells] at hst
      have hn1 : n = 1 ∨ True := .inr trivial
      refine fin (.list false sz xs) mx [0] hrv (by simp [shape]) (by simp [slotOf]) (by simp [hcm]) (fun i hi => ?_) (fun o ho hne => absurd (by simpa using ho) hne) (fun fl hfl hbf => mayStore_under hmay fl hfl hbf) hv3.symm hst
      constructor
      · simp [slotOf, hi]
      · rw [hcm, Array.getElem?_eq_none (by simp; omega), Array.getElem?_eq_none (by omega)]
end Go.Abs
