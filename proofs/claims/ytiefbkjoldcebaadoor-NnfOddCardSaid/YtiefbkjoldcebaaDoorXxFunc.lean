/- Functions: results, what is forgotten at the end, calls. -/
import Derived.Test.YtiefbkjoldcebaaDoorXxCode
namespace Go.Abs
variable {K : Seat} {F F' : FZ} {β β' : BM} {ρ ρ' : Roles} {w w' : World} {s : S} {a : Act}

def resOk (K : Seat) : IRes → ResultVar → Bool
  | .t n, .tmp t => Nat.beq n t
  | .l l n ag, .cell x t => Nat.beq l x && tyOk K.P t n ag
  | .h h n ag, .cell x t => Nat.beq h x && tyOk K.P t n ag
  | _, _ => false
def resOks (K : Seat) : List IRes → List ResultVar → Bool
  | [], [] => true
  | x :: xs, y :: ys => resOk K x y && resOks K xs ys
  | _, _ => false
def checkF (K : Seat) (f : IFunc) (fn : Func) : Bool := match fn.body with
  | some c => !(fn.name == "runtime.NumGoroutine") && Nat.ble f.params fn.ntmps && resOks K f.results fn.results.toList && checkC K fn.ntmps f.body c
  | none => false

def resRun (tmps : Array Value) : ResultVar → Sem Value
  | .tmp t => pure (tmps.getD t undef)
  | .cell a t => do loadVar t (← asAddr (tmps.getD a undef))
theorem results_eq (fn : Func) (tmps : Array Value) : results fn tmps = (do
    let vs ← fn.results.mapM (resRun tmps)
    pure (if h : vs.size = 1 then vs[0] else .tuple vs)) := by
  unfold results
  refine congrArg (fun g : ResultVar → Sem Value => (do
    let vs ← fn.results.mapM g
    pure (if h : vs.size = 1 then vs[0] else .tuple vs) : Sem Value)) ?_
  funext x
  cases x <;> rfl

theorem res_ok (hs : FSim K F β ρ s a w) {x : IRes} {y : ResultVar} {v : AV} (h : resOk K x y = true) (e : resVal s x = some v) :
    ∃ m, Rel K F β v m ∧ (resRun a.tmps y).run K.P w = .ok m w := by
  unfold resOk at h
  split at h <;> try (cases h; done)
  · have := beq_true.1 h
    subst this
    simp only [resVal] at e
    obtain ⟨_, hr⟩ := hs.env _ _ e
    exact ⟨_, hr, by simp [resRun]⟩
  · rename_i l n ag i t
    simp only [Bool.and_eq_true] at h
    have := beq_true.1 h.1
    subst this
    simp only [resVal] at e
    split at e <;> try (cases e; done)
    rename_i l' hl
    split at e <;> try (cases e; done)
    rename_i y hy
    split at e <;> try (cases e; done)
    rename_i q1 q2
    have q1 := beq_true.1 q1
    have q2 := agg_eq q2
    injection e with e
    subst e
    obtain ⟨_, kk, hr, hm⟩ := hs.lp l l' 0 hl
    obtain ⟨kk', hr', m, ty, h1, h2, h3, _⟩ := hs.loc l' y hy
    have := (hs.locs kk l' hr).2 kk' hr'
    subst this
    have hn : ag = false → n = 1 := fun hh => tyOk_one (hh ▸ h.2)
    rw [q1, q2] at h2
    obtain ⟨r1, r2⟩ := h1.whole2 hn h2
    have hrun := run_load_cells (K := K) h.2 h3 0 r2
    refine ⟨_, r1, ?_⟩
    simp only [resRun, hm, asAddr, Sem.run_bind, Sem.run_pure, Result.andThen_ok, hrun]
  · rename_i l n ag i t
    simp only [Bool.and_eq_true] at h
    have := beq_true.1 h.1
    subst this
    simp only [resVal] at e
    split at e <;> try (cases e; done)
    rename_i p hp
    obtain ⟨_, hr⟩ := hs.env _ _ hp
    obtain ⟨mv, hrun, hrel⟩ := hload_ok hs.heap hr h.2 e
    refine ⟨mv, hrel, ?_⟩
    generalize hq : a.tmps.getD l undef = q at hr hrun
    have : ∃ ad, q = .pointer (some ad) := by
      unfold hload at e
      split at e <;> try (cases e; done)
      · cases hr; exact ⟨_, rfl⟩
      · cases hr; exact ⟨_, rfl⟩
    obtain ⟨ad, had⟩ := this
    subst had
    simpa [resRun, hq, Instr.loadAt, Instr.sureAddr, asAddr] using hrun
theorem ress_ok (hs : FSim K F β ρ s a w) : ∀ {xs : List IRes} {ys : List ResultVar} {vs : List AV}, resOks K xs ys = true → resVals s xs = some vs →
    ∃ ms, RelL K F β vs ms ∧ (ys.mapM (resRun a.tmps)).run K.P w = .ok ms w
  | [], [], vs, _, e => by
    simp only [resVals] at e
    injection e with e; subst e
    exact ⟨[], .nil, by simp⟩
  | x :: xs, y :: ys, vs, h, e => by
    simp only [resOks, Bool.and_eq_true] at h
    simp only [resVals] at e
    split at e <;> try (cases e; done)
    rename_i v hv
    split at e <;> try (cases e; done)
    rename_i vs' hvs
    injection e with e
    subst e
    obtain ⟨m, h1, h2⟩ := res_ok hs h.1 hv
    obtain ⟨ms, h3, h4⟩ := ress_ok hs h.2 hvs
    refine ⟨m :: ms, .cons _ _ _ _ h1 h3, ?_⟩
    simp only [List.mapM_cons, Sem.run_bind, h2, Result.andThen_ok, h4, Sem.run_pure]
  | [], _ :: _, _, h, _ => by cases h
  | _ :: _, [], _, h, _ => by cases h
theorem results_ok (hs : FSim K F β ρ s a w) {f : IFunc} {fn : Func} (h : resOks K f.results fn.results.toList = true) {vs : List AV} (e : resVals s f.results = some vs) {v : AV} (hv : (match some vs with | some [v] => some v | some vs => some (.tuple vs) | none => none) = some v) :
    ∃ m, (results fn a.tmps).run K.P w = .ok m w ∧ Rel K F β v m := by
  obtain ⟨ms, h1, h2⟩ := ress_ok hs h e
  have hrun : (results fn a.tmps).run K.P w = .ok (if h : ms.toArray.size = 1 then ms.toArray[0] else .tuple ms.toArray) w := by
    rw [results_eq, Array.mapM_eq_mapM_toList]
    simp only [Sem.run_bind, Sem.run_map, h2, Result.andThen_ok, Sem.run_pure]
  refine ⟨_, hrun, ?_⟩
  cases h1 with
  | nil =>
    simp only at hv
    injection hv with hv; subst hv
    exact .tuple [] [] .nil
  | cons x xs m ms hx hxs =>
    cases hxs with
    | nil =>
      simp only at hv
      injection hv with hv; subst hv
      simpa using hx
    | cons y ys m' ms' hy hys =>
      simp only at hv
      injection hv with hv; subst hv
      have := Rel.tuple (K := K) (x :: y :: ys) (m :: m' :: ms') (.cons _ _ _ _ hx (.cons _ _ _ _ hy hys))
      simpa using this

/-! ### What is forgotten -/
theorem BlkOk.under {b g k : Nat} {x : Blk} (h : BlkOk K F β ρ w b g k x) : x.under β.length = true := by
  cases x with
  | cells n ag v os => obtain ⟨_, m, c, ty, h1, _⟩ := h; exact h1.under
  | arr g' sz cs => obtain ⟨_, c, ty, h1, _⟩ := h; exact h1.under
  | map es =>
    obtain ⟨_, ms, clock, ⟨h1, h2⟩, _⟩ := h
    simp only [Blk.under, Bool.and_eq_true]
    exact ⟨h1.under, h2.under⟩
theorem HSim.floor {h : H} (hs : HSim K F β ρ h w) : HSim K F β ρ { h with floors := h.size :: h.floors } w where
  glob := hs.glob
  len := hs.len
  low := by
    intro fl hfl
    rcases List.mem_cons.1 hfl with h1 | h1
    · subst h1
      refine ⟨Nat.le_refl _, fun b x _ hx => ?_⟩
      obtain ⟨g, k, _, _, hok⟩ := hs.blk b x hx
      have := hok.under
      rw [hs.len] at this; exact this
    · exact hs.low fl h1
  blk := hs.blk
  fz := hs.fz
  free := hs.free
  role := hs.role
  ents := hs.ents
  heaps := hs.heaps
def Roles.keepLow (ρ : Roles) (n : Nat) : Roles := fun k => match ρ k with
  | some (.heap b) => if b < n then some (.heap b) else none
  | some (.ent (.h b o)) => if b < n then some (.ent (.h b o)) else none
  | _ => none
theorem keepLow_heap {n k b : Nat} : ρ.keepLow n k = some (.heap b) ↔ ρ k = some (.heap b) ∧ b < n := by
  unfold Roles.keepLow
  split
  · rename_i b' h
    rw [h]
    split
    · rename_i hlt
      constructor
      · intro h; injection h with h; injection h with h; subst h; exact ⟨rfl, hlt⟩
      · intro ⟨h, _⟩; injection h with h; injection h with h; subst h; rfl
    · rename_i hlt
      constructor
      · intro h; cases h
      · intro ⟨h, h'⟩; injection h with h; injection h with h; subst h; exact absurd h' hlt
  · rename_i b' o h
    rw [h]
    split
    · constructor
      · intro h; injection h with h; cases h
      · intro ⟨h, _⟩; injection h with h; cases h
    · constructor
      · intro h; cases h
      · intro ⟨h, _⟩; injection h with h; cases h
  · rename_i h1 h2
    constructor
    · intro h; cases h
    · intro ⟨h, _⟩; exact absurd h (h1 b)
theorem keepLow_ent {n k b o : Nat} : ρ.keepLow n k = some (.ent (.h b o)) ↔ ρ k = some (.ent (.h b o)) ∧ b < n := by
  unfold Roles.keepLow
  split
  · rename_i b' h
    rw [h]
    split
    · constructor
      · intro h; injection h with h; cases h
      · intro ⟨h, _⟩; injection h with h; cases h
    · constructor
      · intro h; cases h
      · intro ⟨h, _⟩; injection h with h; cases h
  · rename_i b' o' h
    rw [h]
    split
    · rename_i hlt
      constructor
      · intro h; injection h with h; injection h with h; injection h with h1 h2; subst h1; subst h2; exact ⟨rfl, hlt⟩
      · intro ⟨h, _⟩; injection h with h; injection h with h; injection h with h1 h2; subst h1; subst h2; rfl
    · rename_i hlt
      constructor
      · intro h; cases h
      · intro ⟨h, h'⟩; injection h with h; injection h with h; injection h with h1 h2; subst h1; exact absurd h' hlt
  · rename_i h1 h2
    constructor
    · intro h; cases h
    · intro ⟨h, _⟩; exact absurd h (h2 b o)
theorem keepLow_some {n k : Nat} {r : Role} (h : ρ.keepLow n k = some r) : ρ k = some r ∧ r.isH = true := by
  cases r with
  | heap b => exact ⟨(keepLow_heap.1 h).1, rfl⟩
  | loc l =>
    unfold Roles.keepLow at h
    split at h
    · split at h
      · injection h with h; cases h
      · cases h
    · split at h
      · injection h with h; cases h
      · cases h
    · cases h
  | ent e =>
    cases e with
    | h b o => exact ⟨(keepLow_ent.1 h).1, rfl⟩
    | _ =>
      unfold Roles.keepLow at h
      split at h
      · split at h
        · injection h with h; cases h
        · cases h
      · split at h
        · injection h with h; injection h with h; cases h
        · cases h
      · cases h
theorem BlkOk.cut {b g k n : Nat} {x : Blk} (h : BlkOk K F β ρ w b g k x) (hu : x.under n = true) (hb : b < n) : BlkOk K F (β.take n) (ρ.keepLow n) w b g k x := by
  cases x with
  | cells m ag v os =>
    obtain ⟨hg, mm, c, ty, h1, h2, h3, h4, h5⟩ := h
    refine ⟨hg, mm, c, ty, h1.cut hu, h2, h3, h4, fun o ho => ?_⟩
    obtain ⟨sz, xs, e, mo, hm, hown⟩ := h5 o ho
    exact ⟨sz, xs, e, mo, hm, hown.keep (fun j hj => ⟨keepLow_ent.2 ⟨hj, hb⟩, rfl, fun _ h => h⟩)⟩
  | arr g' sz cs =>
    obtain ⟨hg, c, ty, h1, h2, h3⟩ := h
    exact ⟨hg, c, ty, h1.cut hu, h2, h3⟩
  | map es =>
    obtain ⟨hg, ms, clock, ⟨h1, h2⟩, h3⟩ := h
    simp only [Blk.under, Bool.and_eq_true] at hu
    exact ⟨hg, ms, clock, ⟨h1.cut hu.1, h2.cut hu.2⟩, h3⟩
theorem HSim.trunc {h : H} {n : Nat} {fl : List Nat} (hs : HSim K F β ρ h w) (hf : h.floors = n :: fl) (hfl : ∀ x ∈ fl, x ≤ n) : HSim K F (β.take n) (ρ.keepLow n) (h.trunc n fl) w where
  glob := hs.glob
  len := by simp [H.trunc, hs.len]
  low := by
    intro x hx
    obtain ⟨h1, h2⟩ := hs.low x (by rw [hf]; exact List.mem_cons_of_mem _ hx)
    refine ⟨by have := hfl x hx; simp only [H.trunc, List.length_take]; omega, fun b y hb hy => ?_⟩
    simp only [H.trunc, List.getElem?_take] at hy
    split at hy
    · exact h2 b y hb hy
    · cases hy
  blk := by
    intro b x hx
    simp only [H.trunc, List.getElem?_take] at hx
    split at hx <;> try (cases hx; done)
    rename_i hb
    obtain ⟨g, k, e1, e2, e3⟩ := hs.blk b x hx
    have hu := (hs.low n (by rw [hf]; exact List.mem_cons_self)).2 b x hb hx
    exact ⟨g, k, by rw [List.getElem?_take, if_pos hb]; exact e1, keepLow_heap.2 ⟨e2, hb⟩, e3.cut hu hb⟩
  fz := hs.fz
  free := fun k b hr => hs.free k b (keepLow_heap.1 hr).1
  role := fun k r hr => hs.role k r (keepLow_some hr).1
  ents := by
    intro k b o hr
    obtain ⟨h1, h2⟩ := keepLow_ent.1 hr
    have := hs.ents k b o h1
    simp only [H.trunc, List.length_take]; omega
  heaps := by
    intro k b hr
    obtain ⟨h1, h2⟩ := keepLow_heap.1 hr
    obtain ⟨g, hg⟩ := hs.heaps k b h1
    exact ⟨g, by rw [List.getElem?_take, if_pos h2]; exact hg⟩

theorem get_binds : ∀ {i : Nat} {vs : List AV} {t : Nat} {v : AV}, get (binds i vs) t = some v → ∃ j, t = i + j ∧ vs[j]? = some v
  | i, [], t, v, h => by cases h
  | i, x :: vs, t, v, h => by
    simp only [binds, get_cons] at h
    split at h
    · rename_i e; injection h with h; subst h; exact ⟨0, e.symm, rfl⟩
    · obtain ⟨j, h1, h2⟩ := get_binds h
      exact ⟨j + 1, by omega, by simpa using h2⟩

/-- what a function's run shows of it -/
theorem func_ok {C : Call} (hC : CallsOK K C) {n f : Nat} {ir : IFunc} {fn : Func} (hf : K.P.funcs[K.φ f]? = some fn) (hc : checkF K ir fn = true) {args : List AV} {h : H} {v : AV} {h' : H} (e : execF C (loopN n) ir args h = some (v, h')) :
    Callable K f ∧ ∀ F β ρ w ms, HSim K F β ρ h w → onlyH ρ → RelL K F β args ms →
      Calls K.P (K.φ f) ms.toArray w fun e w' => ∃ m F' β' ρ', e = .returned m ∧ h'.floors = h.floors ∧ HSim K F' β' ρ' h' w' ∧ onlyH ρ' ∧ Rel K F' β' v m ∧ Keep F β ρ w F' β' ρ' w' := by
  have hN : fn.body.isNone = false ∧ (fn.name == "runtime.NumGoroutine") = false ∧ ∃ c, fn.body = some c ∧ ir.params ≤ fn.ntmps ∧ resOks K ir.results fn.results.toList = true ∧ checkC K fn.ntmps ir.body c = true := by
    unfold checkF at hc
    split at hc <;> try (cases hc; done)
    rename_i c hb
    simp only [Bool.and_eq_true] at hc
    exact ⟨by rw [hb]; rfl, by simpa using hc.1.1.1, c, hb, Nat.le_of_ble_eq_true hc.1.1.2, hc.1.2, hc.2⟩
  obtain ⟨hb1, hb2, c, hb, hp, hres, hcode⟩ := hN
  unfold execF at e
  split at e <;> try (cases e; done)
  rename_i hlen
  -- what a run's end says
  have fin : ∀ s, finish ir h.floors h.size s = some (v, h') → ∃ vs, resVals s ir.results = some vs ∧ (match some vs with | some [v] => some v | some vs => some (.tuple vs) | none => none) = some v ∧
      ((ir.trunc = true ∧ v.under h.size = true ∧ h' = s.h.trunc h.size h.floors) ∨ (ir.trunc = false ∧ h' = s.h)) := by
    intro s hs
    unfold finish at hs
    simp only [Option.bind_eq_some_iff] at hs
    obtain ⟨v', hv, hs⟩ := hs
    cases hr : resVals s ir.results with
    | none => rw [hr] at hv; cases hv
    | some vs =>
      rw [hr] at hv
      refine ⟨vs, rfl, ?_⟩
      cases ht : ir.trunc with
      | true =>
        rw [ht] at hs
        simp only at hs
        split at hs <;> try (cases hs; done)
        rename_i hu
        injection hs with hs; injection hs with h1 h2
        subst h1
        exact ⟨hv, .inl ⟨rfl, hu, h2.symm⟩⟩
      | false =>
        rw [ht] at hs
        simp only at hs
        injection hs with hs; injection hs with h1 h2
        subst h1
        exact ⟨hv, .inr ⟨rfl, h2.symm⟩⟩
  refine ⟨⟨fn, hf, hb1, hb2⟩, fun F β ρ w ms hs ho hr => ?_⟩
  have hlm := hr.length
  have hsz : (ms.toArray ++ Array.replicate (fn.ntmps - ms.toArray.size) undef).size = fn.ntmps := by simp; omega
  refine calls_of_wp hf hb ?_
  let h0 : H := match ir.trunc with | true => { h with floors := h.size :: h.floors } | false => h
  have hh0 : HSim K F β ρ h0 w := by
    show HSim K F β ρ (match ir.trunc with | true => { h with floors := h.size :: h.floors } | false => h) w
    cases ir.trunc with
    | true => exact hs.floor
    | false => exact hs
  have hfs : FSim K F β ρ { env := binds 0 args, lp := [], loc := [], own := [], h := h0 } { tmps := ms.toArray ++ Array.replicate (fn.ntmps - ms.toArray.size) undef, defers := [] } w := {
    heap := hh0
    env := by
      intro t v hv
      obtain ⟨j, h1, h2⟩ := get_binds hv
      have : t = j := by omega
      subst this
      obtain ⟨m, h3, h4⟩ := hr.get t v h2
      have hlt := (List.getElem?_eq_some_iff.1 h3).1
      refine ⟨by rw [hsz]; omega, ?_⟩
      rw [Array.getD_eq_getD_getElem?, Array.getElem?_append_left (by simpa using hlt)]
      simpa [h3] using h4
    lp := by intro t l o h; cases h
    loc := by intro l x h; cases h
    locs := by intro k l h; have := ho k _ h; cases this
    own := by intro t h; cases h
    defers := rfl }
  have key : Post K F β ρ w { env := binds 0 args, lp := [], loc := [], own := [], h := h0 } { tmps := ms.toArray ++ Array.replicate (fn.ntmps - ms.toArray.size) undef, defers := [] } (finish ir h.floors h.size) (v, h')
      (fun a' w' => a'.defers = [] ∧ ∃ m, (results fn a'.tmps).run K.P w' = .ok m w' ∧ ∃ m' F' β' ρ', Ending.returned m = .returned m' ∧ h'.floors = h.floors ∧ HSim K F' β' ρ' h' w' ∧ onlyH ρ' ∧ Rel K F' β' v m' ∧ Keep F β ρ w F' β' ρ' w') := by
    intro s' F' β' ρ' a' w' q1 q2 q3 q4 q5
    obtain ⟨vs, e1, e2, e3⟩ := fin s' q5
    obtain ⟨m, hrun, hrel⟩ := results_ok q1 hres e1 e2
    refine ⟨q1.defers, m, hrun, m, F', ?_⟩
    rcases e3 with ⟨ht, hu, hh'⟩ | ⟨ht, hh'⟩
    · have hfl : s'.h.floors = h.size :: h.floors := by
        rw [q4]
        show (match ir.trunc with | true => ({ h with floors := h.size :: h.floors } : H) | false => h).floors = _
        rw [ht]
      refine ⟨β'.take h.size, ρ'.keepLow h.size, rfl, by rw [hh']; rfl, by rw [hh']; exact q1.heap.trunc hfl (fun x hx => (hs.low x hx).1), fun k r hk => (keepLow_some hk).2, hrel.cut hu, ?_⟩
      exact {
        fz := q3.fz
        new := q3.new
        bm := by
          intro b g k hb
          obtain ⟨g', k', h1, h2⟩ := q3.bm b g k hb
          refine ⟨g', k', ?_, h2⟩
          have hlt := (List.getElem?_eq_some_iff.1 hb).1
          rw [hs.len] at hlt
          rw [List.getElem?_take, if_pos (show b < h.size from hlt)]; exact h1
        blk := q3.blk
        size := q3.size
        role := by
          intro k hk hlt
          obtain ⟨r, hr⟩ := Option.ne_none_iff_exists'.1 hk
          exact q3.role k (by rw [(keepLow_some hr).1]; simp) hlt
        os := q3.os
        tape := q3.tape
        output := q3.output
        frz := q3.frz }
    · have hfl : s'.h.floors = h.floors := by
        rw [q4]
        show (match ir.trunc with | true => ({ h with floors := h.size :: h.floors } : H) | false => h).floors = _
        rw [ht]
      have hcal := q1.callee
      refine ⟨β', ρ'.heapOnly, rfl, by rw [hh']; exact hfl, by rw [hh']; exact hcal.1, hcal.2, hrel, ?_⟩
      exact { q3 with
        role := by
          intro k hk hlt
          obtain ⟨r, hr⟩ := Option.ne_none_iff_exists'.1 hk
          exact q3.role k (by rw [(heapOnly_some hr).1]; simp) hlt }
  exact code_ok hC ir.body c hcode hfs hsz e key key (fun i => by intro s' F' β' ρ' a' w' _ _ _ _ h; cases h)
/-- all functions: those of the table by their texts, those that are not in it by what is said of them -/
theorem callN_ok {T : Nat → Option IFunc} {X : Call} (hX : CallsOK K X) (hT : ∀ f ir, T f = some ir → ∃ fn, K.P.funcs[K.φ f]? = some fn ∧ checkF K ir fn = true) : ∀ n, CallsOK K (callN T X n) := by
  intro n
  induction n with
  | zero => intro f args h v h' e; cases e
  | succ n ih =>
    intro f args h v h' e
    simp only [callN] at e
    split at e
    · rename_i ir hir
      obtain ⟨fn, h1, h2⟩ := hT f ir hir
      exact func_ok ih h1 h2 e
    · exact hX f args h v h' e
theorem callW_ok {T : Nat → Option IFunc} {X : Call} (hX : CallsOK K X) (hT : ∀ f ir, T f = some ir → ∃ fn, K.P.funcs[K.φ f]? = some fn ∧ checkF K ir fn = true) : CallsOK K (callW T X) := by
  intro f args h v h' e
  obtain ⟨n, hn⟩ := (callW_iff T X f args h (v, h')).1 e
  exact callN_ok hX hT n f args h v h' hn
end Go.Abs
