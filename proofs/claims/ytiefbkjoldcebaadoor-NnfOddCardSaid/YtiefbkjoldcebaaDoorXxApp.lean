/- append: the list is owned, what is appended is any list. -/
import Derived.Test.YtiefbkjoldcebaaDoorXxOp2
import Derived.Deep.AppendSrc
namespace Go.Abs
variable {K : Seat} {F F' : FZ} {β : BM} {ρ : Roles} {w : World} {s : S} {a : Act}

/-- the cells behind a frozen list -/
theorem RelE.flat {sz k off : Nat} {xs : List AV} (h : RelE K F β sz k off xs) : ∃ cs : List Value, cs.length = xs.length * sz ∧ (∀ j u, cs[j]? = some u → F k (off + j) = some u) ∧ (∀ c ∈ cs, c.oneCell' = true) := by
  induction xs generalizing off with
  | nil => exact ⟨[], by simp, by simp, by simp⟩
  | cons x xs ih =>
    cases h with
    | cons _ _ _ _ _ m hx hs h1 hc hr =>
      obtain ⟨cs, h2, h3, h4⟩ := ih hr
      have hl : m.cells.toList.length = sz := by simpa using hs
      refine ⟨m.cells.toList ++ cs, by rw [List.length_append, hl, h2]; simp [Nat.add_mul]; omega, fun j u hj => ?_, fun c hc' => ?_⟩
      · rw [List.getElem?_append, hl] at hj
        split at hj
        · exact hc j u (by simpa using hj)
        · have := h3 _ u hj
          rw [show off + sz + (j - sz) = off + j from by omega] at this; exact this
      · rcases List.mem_append.1 hc' with h | h
        · exact h1 c h
        · exact h4 c h
/-- a list frozen again elsewhere -/
theorem RelE.copy {F' : FZ} {β' : BM} {sz k off k' off' : Nat} {xs : List AV} (h : RelE K F β sz k off xs) (hF : FLe F F') (hB : BLe β β') (hc : ∀ j u, j < xs.length * sz → F k (off + j) = some u → F' k' (off' + j) = some u) : RelE K F' β' sz k' off' xs := by
  induction xs generalizing off off' with
  | nil => exact .nil _ _ _
  | cons x xs ih =>
    cases h with
    | cons _ _ _ _ _ m hx hs h1 hc' hr =>
      refine .cons _ _ _ _ _ m (hx.mono hF hB) hs h1 (fun j c hj => ?_) (ih hr (fun j u hj hu => ?_))
      · refine hc j c ?_ (hc' j c hj)
        have hlt := (Array.getElem?_eq_some_iff.1 hj).1
        simp only [List.length_cons, Nat.add_mul]; omega
      · rw [Nat.add_assoc] at hu
        have := hc (sz + j) u (by simp only [List.length_cons, Nat.add_mul]; omega) hu
        rw [← Nat.add_assoc] at this; exact this
theorem RelE.append {sz k off : Nat} {xs ys : List AV} (h : RelE K F β sz k off xs) (h' : RelE K F β sz k (off + xs.length * sz) ys) : RelE K F β sz k off (xs ++ ys) := by
  induction xs generalizing off with
  | nil => simpa using h'
  | cons x xs ih =>
    cases h with
    | cons _ _ _ _ _ m hx hs h1 hc hr =>
      exact .cons _ _ _ _ _ m hx hs h1 hc (ih hr (by simpa [Nat.add_mul, Nat.add_assoc, Nat.add_comm, Nat.add_left_comm] using h'))

/-- a list's cells, as the source of an append -/
theorem Rel.src {sz : Nat} {nl : Bool} {ys : List AV} {m : Value} {u e' : TypeId} (h : Rel K F β (.list nl sz ys) m) (hF : ∀ k o x, F k o = some x → w.cell? ⟨k, o, none⟩ = some x) (hu : K.P.underlying u = some (.slice e')) :
    ∃ news, Src K.P sz u m ys.length news w ∧ (∀ F' β' k' off', FLe F F' → BLe β β' → (∀ j c, news[j]? = some c → F' k' (off' + j) = some c) → RelE K F' β' sz k' off' ys) := by
  cases h with
  | lnil => exact ⟨[], Src.ofNil w hu 0, fun _ _ _ _ _ _ _ => .nil _ _ _⟩
  | l0 _ b cap =>
    refine ⟨[], ?_, fun _ _ _ _ _ _ _ => .nil _ _ _⟩
    cases b with
    | none => exact Src.ofNil w hu cap
    | some b => exact Src.ofSlice w hu b 0 cap [] (by simp) (by simp) (by simp)
  | list _ x xs k off cap hcap he =>
    obtain ⟨cs, h1, h2, h3⟩ := he.flat
    refine ⟨cs, Src.ofSlice w hu ⟨k, off, none⟩ (xs.length + 1) cap cs (by simpa using h1) (fun j c hj => ?_) h3, fun F' β' k' off' hF' hB hc => he.copy hF' hB (fun j c hj hcj => ?_)⟩
    · have := hF k (off + j) c (h2 j c hj)
      simpa [Addr.add_lit] using this
    · have hj2 : j < cs.length := by rw [h1]; exact hj
      have e := h2 j cs[j] (List.getElem?_eq_getElem hj2)
      rw [hcj] at e; injection e with e; subst e
      exact hc j _ (List.getElem?_eq_getElem hj2)

theorem run_append_room' {t tx ty e : TypeId} {i : TypeInfo} (ht : K.P.underlying t = some (.slice e)) (hi : K.P.info? e = some i) {g sLen sCap : Nat} {cur : Array Value} {tc : TypeId} (hg : w.heap[g]? = some (.cells cur tc (0, 0)))
    {x : Value} {m : Nat} {news : List Value} (hs : Src K.P i.size tx x m news w) (hroom : sLen + m ≤ sCap) (hfit : sLen * i.size + news.length ≤ cur.size) :
    (Builtin.append_ #[t, tx] ty #[.slice (some ⟨g, 0, none⟩) sLen sCap, x]).run K.P w =
      .ok (.slice (some ⟨g, 0, none⟩) (sLen + m) sCap) (w.setRow g (cur.toList.take (sLen * i.size) ++ news ++ cur.toList.drop (sLen * i.size + news.length)).toArray) := by
  have hst := run_storeCells_at K.P g (sLen * i.size) tc news 0 cur w hg (by simpa using hfit) hs.one
  simp only [Nat.add_zero] at hst
  rcases hs.kind with ⟨e', hk⟩ | hk <;> simp [Builtin.append_, run_underlying ht, run_underlying hk, sizeOf, typeInfo, hi, hs.len, hroom, hs.cells, Addr.add_lit, hst]
theorem run_append_none {t tx ty e : TypeId} {i : TypeInfo} (ht : K.P.underlying t = some (.slice e)) (hi : K.P.info? e = some i) {x : Value} (hs : Src K.P i.size tx x 0 [] w) :
    (Builtin.append_ #[t, tx] ty #[.slice none 0 0, x]).run K.P w = .ok (.slice none 0 0) w := by
  rcases hs.kind with ⟨e', hk⟩ | hk <;> simp [Builtin.append_, run_underlying ht, run_underlying hk, sizeOf, typeInfo, hi, hs.len, hs.cells]

/-- the roles when d's list lies in a new block -/
def Roles.grown (ρ : Roles) (n : Nat) (e : Ent) (d : Nat) : Roles := fun k => if k = n then some (.ent (.t d)) else if ρ k = some (.ent e) ∨ ρ k = some (.ent (.t d)) then none else ρ k

theorem wrapL {sz : Nat} {zs : List AV} {k off cap : Nat} (h : RelE K F β sz k off zs) (hc : zs.length ≤ cap) : Rel K F β (.list false sz zs) (.slice (some ⟨k, off, none⟩) zs.length cap) := by
  cases zs with
  | nil => exact .l0 _ _ _
  | cons x xs => exact .list _ _ _ _ _ _ (by simpa using hc) h

theorem s_app (hs : FSim K F β ρ s a w) {sz bytes src : Nat} {y : Opd} {o : Oper} {C : Call} {k : S → R} {r : AV × H} {next : Act → World → Prop} {Q : Exit → Act → World → Prop} {Y : Operand} {t u : TypeId}
    (h : o.op = .call { callee := .builtin .append, args := #[.tmp src, Y], argTypes := #[t, u] }) (hy : opdOk K y Y = true) (ht : appOk K t u sz bytes = true) (hnd : notD o.dst src = true)
    (hd : ∀ x, o.dst = some x → x < a.tmps.size) (e : xOp C (.app sz bytes src y) o.dst s k = some r) (hp : Post K F β ρ w s a k r next) : o.wp K.P a w next Q := by
  simp only [xOp] at e
  split at e <;> try (cases e; done)
  rename_i x yv d hx hown hyv hdst
  have hd := hd d hdst
  have hne : d ≠ src := by
    intro e1; rw [hdst, e1] at hnd; simp [notD] at hnd
  have hne' : Ent.t src ≠ .t d := fun h => hne (by injection h with h; exact h.symm)
  simp only [Option.bind_eq_some_iff] at e
  obtain ⟨v, hv, e⟩ := e
  unfold xOp.appList at hv
  split at hv <;> try (cases hv; done)
  rename_i nl0 s0 xs nl t0 ys
  split at hv <;> try (cases hv; done)
  rename_i hcond
  obtain ⟨e1, e2, hbytes, hmax⟩ := hcond
  subst e1; subst e2
  injection hv with hv
  subst hv
  obtain ⟨sz', xs', e1, ho⟩ := hs.own src hown
  rw [hx] at e1
  injection e1 with e1
  injection e1 with e1 e2 e3
  subst e1; subst e2; subst e3
  have hrx := (hs.env src _ hx).2
  have hry := opd_rel hs hy hyv
  unfold appOk at ht
  split at ht <;> try (cases ht; done)
  rename_i el hu
  split at ht <;> try (cases ht; done)
  rename_i inf hinf
  simp only [Bool.and_eq_true] at ht
  obtain ⟨⟨⟨⟨q1, q2⟩, q3⟩, q4⟩, q5⟩ := ht
  have q1 := beq_true.1 q1
  have q2 := beq_true.1 q2
  split at q4 <;> try (cases q4; done)
  rename_i z hz
  have q4 := beq_true.1 q4
  obtain ⟨el', hu'⟩ := isSl_u q5
  subst q1; subst q2
  generalize hmy : a.eval Y = my at *
  generalize hmx : a.tmps.getD src undef = mx at *
  have hX : a.eval (.tmp src) = mx := hmx
  obtain ⟨news, hsrc, hback⟩ := hry.src hs.heap.fz hu'
  have run : ∀ m w', (Builtin.append_ #[t, u] o.type #[mx, my]).run K.P w = .ok m w' → (execOp a.eval o).run K.P w = .ok (.value m) w' := by
    intro m w' hr
    unfold execOp
    simp only [h, resolve, invoke, builtin, Sem.run_bind, Sem.run_pure, Result.andThen_ok, List.map_toArray, List.map_cons, List.map_nil, hX, hmy, hr]
  have hnl := hsrc.newsLen
  -- a new block
  have grow : ∀ (old : Nat) (olds : List Value) (base : Option Addr), mx = .slice base xs.length old → olds.length = xs.length * inf.size → (Builtin.firstCells inf.size xs.length (.slice base xs.length old)).run K.P w.drew = .ok olds.toArray w.drew →
      (∀ F' β' k' off', FLe F F' → BLe β β' → (∀ j c, olds[j]? = some c → F' k' (off' + j) = some c) → RelE K F' β' inf.size k' off' xs) → old < xs.length + ys.length → o.wp K.P a w next Q := by
    intro old olds base hmx' hol hfirst hbx hlt
    have hrun := run_append_grow_src (P := K.P) w t u o.type el inf z hu hinf hz base xs.length old olds hfirst my ys.length news hsrc hlt (by simp only [maxInt] at hmax; omega) (growslice_fits (by omega) hbytes)
    rw [← hmx'] at hrun
    refine wp_value (run _ _ hrun) ?_
    rw [hdst]
    generalize hcap : grownCap w (xs.length + ys.length) old el = cap at *
    have hge : xs.length + ys.length ≤ cap := by rw [← hcap]; exact grownCap_ge w _ _ _
    have hcm : cap ≤ maxInt := by rw [← hcap]; exact grownCap_le_maxLen w _ _ _ (by simp only [maxInt] at hmax; simpa [maxLen] using hmax)
    generalize hcur : ((olds ++ news).toArray ++ Builtin.zeroCells z.cells (cap - (xs.length + ys.length))) = cur
    have hlen : (olds ++ news).length = (xs.length + ys.length) * inf.size := by rw [List.length_append, hol, hnl, Nat.add_mul]
    have hcs : cur.size = cap * inf.size := by
      rw [← hcur]
      simp only [Array.size_append, List.size_toArray, size_zeroCells, q4, hlen, ← Nat.add_mul]
      congr 1; omega
    have hget : ∀ (j : Nat) (c : Value), (olds ++ news)[j]? = some c → cur[j]? = some c := by
      intro j c hj
      rw [← hcur, Array.getElem?_append_left (by simpa using (List.getElem?_eq_some_iff.1 hj).1)]
      simpa using hj
    let F' : FZ := F.add w.heap.size (olds ++ news).toArray
    have t1 : Touch F w F' (w.drew.alloc (.cells cur el)) w.heap.size := {
      blk := fun j _ hj => heap_alloc_old w.drew _ j hj
      size := by simp
      fz := by
        intro k o x h
        have := fz_lt hs.heap.fz h
        show FZ.add F _ _ k o = some x
        simp only [FZ.add]; rw [if_neg (by omega)]; exact h
      other := by
        intro j hj o
        show FZ.add F _ _ j o = F j o
        simp only [FZ.add]; rw [if_neg hj]
      cells := by
        intro o x hx
        have hx : FZ.add F w.heap.size (olds ++ news).toArray w.heap.size o = some x := hx
        simp only [FZ.add, if_true] at hx
        have h1 := World.cell?_alloc_new w.drew cur el o
        have h2 := hget o x (by simpa using hx)
        exact h1.trans h2
      os := rfl
      tape := rfl
      output := rfl
      frz := fun a => frozen_alloc w.drew _ rfl a }
    have nsz : ∀ j r, ρ j = some r → j ≠ w.heap.size := fun j r hr h => by have := hs.heap.role j r hr; omega
    have hFnew : ∀ (j : Nat) (c : Value), (olds ++ news)[j]? = some c → F' w.heap.size (0 + j) = some c := by
      intro j c hj
      show FZ.add F _ _ _ _ = _
      simp only [FZ.add, if_true, Nat.zero_add]; simpa using hj
    have hE1 : RelE K F' β inf.size w.heap.size 0 xs := hbx F' β _ 0 t1.fz (BLe.refl _) (fun j c hj => hFnew j c (by rw [List.getElem?_append_left (List.getElem?_eq_some_iff.1 hj).1]; exact hj))
    have hE2 : RelE K F' β inf.size w.heap.size (0 + xs.length * inf.size) ys := hback F' β _ _ t1.fz (BLe.refl _) (fun j c hj => by
      have := hFnew (olds.length + j) c (by rw [List.getElem?_append_right (by omega)]; rw [show olds.length + j - olds.length = j from by omega]; exact hj)
      rw [hol] at this
      rw [Nat.add_assoc]; exact this)
    have hrel : Rel K F' β (.list false inf.size (xs ++ ys)) (.slice (some ⟨w.heap.size, 0, none⟩) (xs.length + ys.length) cap) := by
      have := wrapL (hE1.append hE2) (cap := cap) (by simpa using hge)
      simpa using this
    refine hp _ F' β (ρ.grown w.heap.size (.t src) d) _ _ (hs.ownMove (ρ' := ρ.grown w.heap.size (.t src) d) (e := .t src) (sz := inf.size) (xs := xs ++ ys) t1 (.inl (Nat.le_refl _)) rfl hd (fun j r h1 h2 => ?_) (.inr fun j hj => ?_) (fun j r hr => ?_) rfl hrel ?_) (put_size _ _ _) (t1.keep (.inl (Nat.le_refl _)) (fun j hj hlt => ?_)) rfl e
    · unfold Roles.grown
      by_cases hj : j = w.heap.size
      · rw [if_pos hj]
        constructor
        · intro h; injection h with h; exact absurd h.symm h1
        · intro h; exact absurd hj (nsz j _ h)
      · rw [if_neg hj]
        split
        · rename_i hor
          constructor
          · intro h; cases h
          · intro h; rcases hor with h' | h'
            · rw [h] at h'; injection h' with h'; exact absurd h' h2
            · rw [h] at h'; injection h' with h'; exact absurd h' h1
        · exact Iff.rfl
    · unfold Roles.grown at hj
      split at hj
      · injection hj with hj; injection hj with hj; exact hne' hj.symm
      · split at hj
        · cases hj
        · rename_i h'; exact h' (.inl hj)
    · unfold Roles.grown at hr
      split at hr
      · simp; omega
      · split at hr
        · cases hr
        · have := hs.heap.role j r hr; simp; omega
    · refine .inr ⟨w.heap.size, cap, cur, el, by simp, by simp [Roles.grown], heap_alloc_new w.drew _, by simpa using hge, hcm, hcs, fun i hi => ?_⟩
      show FZ.add F _ _ _ _ = none
      simp only [FZ.add, if_true]
      simp only [List.length_append] at hi
      rw [Array.getElem?_eq_none (by simp only [List.size_toArray]; omega)]
    · unfold Roles.grown at hj
      rw [if_neg (by omega)] at hj
      split at hj
      · exact absurd rfl hj
      · exact hj
  rcases ho with ⟨rfl, hx0⟩ | ⟨g, cap, cur, ty, rfl, hr, hg, h1, h2, h3, h4⟩
  · have hx0 := List.eq_nil_of_length_eq_zero hx0
    subst hx0
    by_cases hy0 : ys.length = 0
    · have hy0' := List.eq_nil_of_length_eq_zero hy0
      subst hy0'
      have hn0 : news = [] := List.eq_nil_of_length_eq_zero (by simpa using hnl)
      subst hn0
      have hrun := run_append_none (K := K) (ty := o.type) (x := my) hu hinf hsrc
      refine wp_value (run _ _ hrun) ?_
      rw [hdst]
      obtain ⟨g1, g2⟩ := hs.ownTake (d := d) (e := .t src) (sz := inf.size) (xs := []) rfl hne' hd (.l0 _ _ _) (.inl ⟨rfl, rfl⟩)
      exact hp _ F β _ _ w g1 (put_size _ _ _) g2 rfl e
    · exact grow 0 [] none rfl (by simp) (by simp [Builtin.firstCells]) (fun _ _ _ _ _ _ _ => .nil _ _ _) (by simp; omega)
  · by_cases hroom : xs.length + ys.length ≤ cap
    · have hfit : xs.length * inf.size + news.length ≤ cur.size := by rw [hnl, h3, ← Nat.add_mul]; exact Nat.mul_le_mul_right _ hroom
      have hrun := run_append_room' (K := K) (ty := o.type) (x := my) hu hinf hg hsrc hroom hfit
      refine wp_value (run _ _ hrun) ?_
      rw [hdst]
      generalize hcur' : (cur.toList.take (xs.length * inf.size) ++ news ++ cur.toList.drop (xs.length * inf.size + news.length)).toArray = cur'
      have hat : ∀ (j : Nat) (c : Value), news[j]? = some c → cur'[xs.length * inf.size + j]? = some c := by
        intro j c hj
        rw [← hcur']
        have := splice_at cur.toList news (xs.length * inf.size) news.length j (by simpa using hfit) (List.getElem?_eq_some_iff.1 hj).1
        simp only [List.getElem?_toArray]; rw [this]; exact hj
      have hold : ∀ j : Nat, j < xs.length * inf.size → cur'[j]? = cur[j]? := by
        intro j hj
        rw [← hcur']
        have := splice_get cur.toList news (xs.length * inf.size) news.length j rfl (by simpa using hfit) (by omega)
        simp only [List.getElem?_toArray]; rw [this]; simp
      let F' : FZ := fun k o => if k = g then (if o < xs.length * inf.size then F g o else news[o - xs.length * inf.size]?) else F k o
      have hset := setRow_get w g g cur' cur ty (0, 0) hg
      rw [if_pos rfl] at hset
      have t1 : Touch F w F' (w.setRow g cur') g := {
        blk := fun j hj _ => by rw [setRow_get w g j cur' cur ty _ hg, if_neg (fun e => hj e.symm)]
        size := by simp [World.setRow]
        fz := by
          intro k o x h
          show (if k = g then (if o < xs.length * inf.size then F g o else news[o - xs.length * inf.size]?) else F k o) = some x
          split
          · rename_i hk; subst hk
            split
            · exact h
            · rw [h4 o (by omega)] at h; cases h
          · exact h
        other := by
          intro j hj o
          show (if j = g then (if o < xs.length * inf.size then F g o else news[o - xs.length * inf.size]?) else F j o) = _
          rw [if_neg hj]
        cells := by
          intro o x hx
          have hx : (if g = g then (if o < xs.length * inf.size then F g o else news[o - xs.length * inf.size]?) else F g o) = some x := hx
          rw [if_pos rfl] at hx
          simp only [World.cell?, hset]
          split at hx
          · rename_i hlt
            have := hs.heap.fz g o x hx
            simp only [World.cell?, hg] at this
            rw [hold o hlt]; exact this
          · rename_i hlt
            have := hat _ x hx
            rw [show xs.length * inf.size + (o - xs.length * inf.size) = o from by omega] at this
            exact this
        os := rfl
        tape := rfl
        output := rfl
        frz := frozen_setRow w g cur' }
      have hFnew : ∀ (j : Nat) (c : Value), news[j]? = some c → F' g (0 + xs.length * inf.size + j) = some c := by
        intro j c hj
        show (if g = g then (if 0 + xs.length * inf.size + j < xs.length * inf.size then F g (0 + xs.length * inf.size + j) else news[0 + xs.length * inf.size + j - xs.length * inf.size]?) else F g _) = some c
        rw [if_pos rfl, if_neg (by omega), show 0 + xs.length * inf.size + j - xs.length * inf.size = j from by omega]; exact hj
      have hE1 : RelE K F' β inf.size g 0 xs := by
        cases hrx with
        | l0 => exact .nil _ _ _
        | list _ _ _ _ _ _ _ he => exact he.mono t1.fz (BLe.refl _)
      have hE2 : RelE K F' β inf.size g (0 + xs.length * inf.size) ys := hback F' β _ _ t1.fz (BLe.refl _) hFnew
      have hrel : Rel K F' β (.list false inf.size (xs ++ ys)) (.slice (some ⟨g, 0, none⟩) (xs.length + ys.length) cap) := by
        have := wrapL (hE1.append hE2) (cap := cap) (by simpa using hroom)
        simpa using this
      have hsz' : cur'.size = cap * inf.size := by
        rw [← hcur', ← h3]
        simp only [List.size_toArray, List.length_append, List.length_take, List.length_drop, Array.length_toList]
        omega
      refine hp _ F' β (ρ.swap (.t src) d) _ _ (hs.ownMove (e := .t src) (sz := inf.size) (xs := xs ++ ys) t1 (.inr hr) rfl hd (fun j r h1 h2 => swap_iff h1 h2) (.inr (swap_ne hne')) (fun j r hr => by
        obtain ⟨r', h⟩ := swap_some hr; have := hs.heap.role j r' h; have := t1.size; omega) rfl hrel ?_) (put_size _ _ _) (t1.keep (.inr (by rw [hr]; simp)) (fun j hj _ => by
        obtain ⟨r, hr⟩ := Option.ne_none_iff_exists'.1 hj
        obtain ⟨r', h⟩ := swap_some hr
        rw [h]; simp)) rfl e
      refine .inr ⟨g, cap, cur', ty, by simp, by simp [Roles.swap, hr], hset, by simpa using hroom, h2, hsz', fun i hi => ?_⟩
      show (if g = g then (if i < xs.length * inf.size then F g i else news[i - xs.length * inf.size]?) else F g i) = none
      simp only [List.length_append, Nat.add_mul] at hi
      rw [if_pos rfl, if_neg (by omega)]
      exact List.getElem?_eq_none (by omega)
    · cases hrx with
      | l0 _ _ _ =>
        exact grow cap [] (some ⟨g, 0, none⟩) rfl (by simp) (by simp [Builtin.firstCells, loadCells, loadCellsFrom]) (fun _ _ _ _ _ _ _ => .nil _ _ _) (by omega)
      | list _ x xs k off _ hcap he =>
        obtain ⟨cs, c1, c2, c3⟩ := he.flat
        refine grow cap cs (some ⟨g, 0, none⟩) rfl (by simpa using c1) ?_ (fun F' β' k' off' hF' hB hc => he.copy hF' hB (fun j c hj hcj => ?_)) (by omega)
        · refine run_firstCells_some (P := K.P) w.drew inf.size _ ⟨g, 0, none⟩ _ cap cs (by simpa using c1) (fun j c hj => ?_)
          have := hs.heap.fz g (0 + j) c (c2 j c hj)
          simpa [Addr.add_lit] using this
        · have hj2 : j < cs.length := by rw [c1]; exact hj
          have e := c2 j cs[j] (List.getElem?_eq_getElem hj2)
          rw [hcj] at e; injection e with e; subst e
          exact hc j _ (List.getElem?_eq_getElem hj2)
end Go.Abs
