/- Calls. -/
import Derived.Test.YtiefbkjoldcebaaDoorXxHeap2
namespace Go.Abs
variable {K : Seat} {F F' : FZ} {β β' : BM} {ρ ρ' : Roles} {w w' : World} {s : S} {a : Act}

theorem HSim.roles {h : H} (hs : HSim K F β ρ h w) (hρ : ∀ k r, r.isH = true → (ρ' k = some r ↔ ρ k = some r)) (hr : ∀ k r, ρ' k = some r → k < w.heap.size) : HSim K F β ρ' h w where
  glob := hs.glob
  len := hs.len
  low := hs.low
  blk := by
    intro b x hx
    obtain ⟨g, k, hb, hr, hok⟩ := hs.blk b x hx
    exact ⟨g, k, hb, (hρ k _ rfl).2 hr, hok.keep (FLe.refl _) (BLe.refl _) rfl (fun o j hj => ⟨(hρ j _ rfl).2 hj, rfl, fun _ h => h⟩)⟩
  fz := hs.fz
  free := fun k b h => hs.free k b ((hρ k _ rfl).1 h)
  role := hr
  ents := fun k b o h => hs.ents k b o ((hρ k _ rfl).1 h)
  heaps := fun k b h => hs.heaps k b ((hρ k _ rfl).1 h)

/-- the caller's frame is not the callee's business -/
def Roles.heapOnly (ρ : Roles) : Roles := fun k => match ρ k with
  | some r => if r.isH = true then some r else none
  | none => none
def Roles.back (ρ ρ1 : Roles) : Roles := fun k => match ρ k with
  | some r => if r.isH = true then ρ1 k else some r
  | none => ρ1 k
theorem heapOnly_iff {k : Nat} {r : Role} (h : r.isH = true) : ρ.heapOnly k = some r ↔ ρ k = some r := by
  unfold Roles.heapOnly
  cases hr : ρ k with
  | none => simp
  | some q =>
    simp only
    cases hq : q.isH with
    | true => rw [if_pos rfl]
    | false =>
      rw [if_neg (by simp)]
      constructor
      · intro h'; cases h'
      · intro h'; injection h' with h'; subst h'; rw [h] at hq; cases hq
theorem heapOnly_some {k : Nat} {r : Role} (h : ρ.heapOnly k = some r) : ρ k = some r ∧ r.isH = true := by
  unfold Roles.heapOnly at h
  cases hr : ρ k with
  | none => rw [hr] at h; cases h
  | some q =>
    rw [hr] at h
    simp only at h
    split at h
    · rename_i hq; injection h with h; subst h; exact ⟨rfl, hq⟩
    · cases h
theorem frame_none {k : Nat} {r : Role} (h : ρ k = some r) (hr : r.isH = false) : ρ.heapOnly k = none := by
  simp [Roles.heapOnly, h, hr]

theorem FSim.callee (hs : FSim K F β ρ s a w) : HSim K F β ρ.heapOnly s.h w ∧ onlyH ρ.heapOnly :=
  ⟨hs.heap.roles (fun _ _ hr => heapOnly_iff hr) (fun k r hr => hs.heap.role k r (heapOnly_some hr).1), fun _ _ hr => (heapOnly_some hr).2⟩
theorem FSim.back {h' : H} {ρ1 : Roles} (hs : FSim K F β ρ s a w) (hh : HSim K F' β' ρ1 h' w') (ho : onlyH ρ1) (hk : Keep F β ρ.heapOnly w F' β' ρ1 w') :
    FSim K F' β' (ρ.back ρ1) { s with h := h' } a w' ∧ Keep F β ρ w F' β' (ρ.back ρ1) w' := by
  have frame : ∀ k r, ρ k = some r → r.isH = false → ρ1 k = none ∧ w'.heap[k]? = w.heap[k]? ∧ (∀ o, F k o = none → F' k o = none) ∧ ρ.back ρ1 k = some r := by
    intro k r hr hf
    have hlt := hs.heap.role k r hr
    have hn := frame_none hr hf
    refine ⟨?_, hk.blk k hlt hn, fun o ho => ?_, by simp [Roles.back, hr, hf]⟩
    · cases h1 : ρ1 k with
      | none => rfl
      | some q => exact absurd hn (hk.role k (by rw [h1]; simp) hlt)
    · by_cases e : F' k o = none
      · exact e
      · rcases hk.new k o e ho with h | h
        · omega
        · exact absurd hn h
  have hH : ∀ k r, r.isH = true → (ρ.back ρ1 k = some r ↔ ρ1 k = some r) := by
    intro k r hr
    cases hq : ρ k with
    | none => simp [Roles.back, hq]
    | some q =>
      cases hf : q.isH with
      | true => simp [Roles.back, hq, hf]
      | false =>
        obtain ⟨h1, _, _, h2⟩ := frame k q hq hf
        rw [h1, h2]
        constructor
        · intro h; injection h with h; subst h; rw [hr] at hf; cases hf
        · intro h; cases h
  have hF : ∀ k r, r.isH = false → (ρ.back ρ1 k = some r ↔ ρ k = some r) := by
    intro k r hr
    constructor
    · intro h
      cases hq : ρ k with
      | none => simp only [Roles.back, hq] at h; have := ho k r h; rw [hr] at this; cases this
      | some q =>
        cases hf : q.isH with
        | true => simp only [Roles.back, hq, hf] at h; have := ho k r h; rw [hr] at this; cases this
        | false => simp only [Roles.back, hq, hf] at h; exact h
    · intro h; exact (frame k r h hr).2.2.2
  have hh' : HSim K F' β' (ρ.back ρ1) h' w' := hh.roles hH (fun k r hr => by
    cases hf : r.isH with
    | true => exact hh.role k r ((hH k r hf).1 hr)
    | false => have := hs.heap.role k r ((hF k r hf).1 hr); have := hk.size; omega)
  refine ⟨hs.step s.own h' hh' hk.fz hk.bm (fun k l => hF k _ rfl) (fun k l hr => ⟨(frame k _ hr rfl).2.1, (frame k _ hr rfl).2.2.1⟩) (fun e he => ⟨he, fun hf g hg => ?_⟩), ?_⟩
  · have hfr : (Role.ent e).isH = false := by cases e <;> first | rfl | (simp [Ent.isFrame] at hf)
    obtain ⟨_, h1, h2, h3⟩ := frame g _ hg hfr
    exact ⟨h3, h1, h2⟩
  · exact {
      fz := hk.fz
      new := by
        intro k o h h0
        rcases hk.new k o h h0 with h | h
        · exact .inl h
        · obtain ⟨r, hr⟩ := Option.ne_none_iff_exists'.1 h
          exact .inr (by rw [(heapOnly_some hr).1]; simp)
      bm := hk.bm
      blk := fun k hlt hn => hk.blk k hlt (by simp [Roles.heapOnly, hn])
      size := hk.size
      role := by
        intro k h hlt
        obtain ⟨r, hr⟩ := Option.ne_none_iff_exists'.1 h
        cases hf : r.isH with
        | true =>
          have := hk.role k (by rw [(hH k r hf).1 hr]; simp) hlt
          obtain ⟨q, hq⟩ := Option.ne_none_iff_exists'.1 this
          rw [(heapOnly_some hq).1]; simp
        | false => rw [(hF k r hf).1 hr]; simp
      os := hk.os
      tape := hk.tape
      output := hk.output
      frz := hk.frz }

theorem run_callFunc {f : Nat} (h : Callable K f) (args : Array Value) : (callFunc (K.φ f) args).run K.P w = .ok (.enter (K.φ f) args) w := by
  obtain ⟨fn, h1, h2, h3⟩ := h
  have h3' : ¬ fn.name = "runtime.NumGoroutine" := by simpa using h3
  have h2' : ¬ fn.body = none := by intro h; rw [h] at h2; cases h2
  simp [callFunc, h1, h2', h3']

theorem call_next (hs : FSim K F β ρ s a w) {C : Call} (hC : CallsOK K C) {f : Nat} {vs : List AV} {ms : List Value} {v : AV} {h' : H} {o : Oper} {k : S → R} {r : AV × H} {next : Act → World → Prop} {Q : Exit → Act → World → Prop}
    (hrun : ∀ args, Callable K f → (callFunc (K.φ f) args).run K.P w = .ok (.enter (K.φ f) args) w → args = ms.toArray → (execOp a.eval o).run K.P w = .ok (.enter (K.φ f) args) w)
    (hv : RelL K F β vs ms) (hc : C f vs s.h = some (v, h')) (hd : ∀ x, o.dst = some x → x < a.tmps.size) (e : k { s.out o.dst v with h := h' } = some r) (hp : Post K F β ρ w s a k r next) : o.wp K.P a w next Q := by
  obtain ⟨hcall, hcs⟩ := hC f vs s.h v h' hc
  have hr := hrun ms.toArray hcall (run_callFunc hcall _) rfl
  unfold Oper.wp
  rw [hr, Oper.upon_enter]
  obtain ⟨h1, h2⟩ := hs.callee
  refine (hcs F β ρ.heapOnly w ms h1 h2 hv).mono fun en w' hen => ?_
  obtain ⟨m, F', β', ρ1, rfl, hfl, g1, g2, g3, g4⟩ := hen
  obtain ⟨q1, q2⟩ := hs.back g1 g2 g4
  refine hp { s.out o.dst v with h := h' } F' β' (ρ.back ρ1) _ w' ?_ (put_size _ _ _) q2 hfl e
  have := q1.out o.dst v m hd g3
  cases hdst : o.dst with
  | none => rw [hdst] at this; exact this
  | some d => rw [hdst] at this; exact this

theorem s_call (hs : FSim K F β ρ s a w) {C : Call} (hC : CallsOK K C) {f : Nat} {xs : List Opd} {g : FuncId} {A : Array Operand} {T : Array TypeId} {o : Oper} {k : S → R} {r : AV × H} {next : Act → World → Prop} {Q : Exit → Act → World → Prop}
    (h : o.op = .call { callee := .value (.func g), args := A, argTypes := T }) (hg : K.φ f = g) (hx : opdsOk K xs A.toList = true) (hd : ∀ x, o.dst = some x → x < a.tmps.size) (e : xOp C (.call f xs) o.dst s k = some r) (hp : Post K F β ρ w s a k r next) : o.wp K.P a w next Q := by
  simp only [xOp] at e
  split at e <;> try (cases e; done)
  rename_i vs hv
  simp only [Option.bind_eq_some_iff] at e
  obtain ⟨⟨v, h'⟩, hc, e⟩ := e
  refine call_next hs hC (ms := A.toList.map a.eval) (f := f) (fun args hcall hr ha => ?_) (opds_rel hs hx hv) hc hd e hp
  have ha' : args = A.map a.eval := by rw [ha]; apply Array.ext'; simp
  subst hg
  simp only [execOp, h, resolve, Deferred.ofValue, Act.eval, invoke, Sem.run_bind, Sem.run_pure, Result.andThen_ok, Array.append_empty, Array.empty_append]
  rw [← ha']; exact hr
theorem s_callv (hs : FSim K F β ρ s a w) {C : Call} (hC : CallsOK K C) {x : Opd} {xs : List Opd} {X : Operand} {A : Array Operand} {T : Array TypeId} {o : Oper} {k : S → R} {r : AV × H} {next : Act → World → Prop} {Q : Exit → Act → World → Prop}
    (h : o.op = .call { callee := .value X, args := A, argTypes := T }) (hX : opdOk K x X = true) (hx : opdsOk K xs A.toList = true) (hd : ∀ x, o.dst = some x → x < a.tmps.size) (e : xOp C (.callv x xs) o.dst s k = some r) (hp : Post K F β ρ w s a k r next) : o.wp K.P a w next Q := by
  simp only [xOp] at e
  split at e <;> try (cases e; done)
  rename_i x' vs hxv hv
  simp only [Option.bind_eq_some_iff] at e
  obtain ⟨⟨v, h'⟩, hc, e⟩ := e
  unfold xOp.callV at hc
  split at hc <;> try (cases hc; done)
  rename_i f fa fb
  have hrx := opd_rel hs hX hxv
  generalize hmx : a.eval X = mx at *
  cases hrx with
  | func _ _ _ ma mb h1 h2 =>
    refine call_next hs hC (ms := ma ++ A.toList.map a.eval ++ mb) (f := f) (fun args hcall hr ha => ?_) ((h1.append (opds_rel hs hx hv)).append h2) hc hd e hp
    have ha' : args = ma.toArray ++ A.map a.eval ++ mb.toArray := by rw [ha]; apply Array.ext'; simp
    simp only [execOp, h, resolve, hmx, Deferred.ofValue, invoke, Sem.run_bind, Sem.run_pure, Result.andThen_ok]
    rw [← ha']; exact hr
end Go.Abs
