/- Regions whose order is drawn. -/
import Derived.Test.YtiefbkjoldcebaaDoorXxLocal
namespace Go.Abs
variable {K : Seat} {F F' : FZ} {β β' : BM} {ρ ρ' : Roles} {w w' : World} {s : S} {a : Act}

def stepOp (C : Call) (io : IOper) (s : S) : Option S := match guardOk s io.guard with
  | some true => xOp C io.op io.dst s some
  | some false => some (s.out io.dst undefAV)
  | none => none
theorem xOp_bind {α : Type} (C : Call) (o : IOp) (d : Option Nat) (s : S) (k : S → Option α) : xOp C o d s k = (xOp C o d s some).bind k := by
  cases o <;> simp only [xOp] <;> (repeat' split) <;> simp [Option.bind_assoc, *]
def gcell : Option (Nat × Bool) → List Nat
  | some (t, _) => [t + 3]
  | none => []
def IOper.rd (sp : Bool) (io : IOper) : List Nat := gcell io.guard ++ (match sp, io.op with
  | true, .hload _ _ q => q.rd
  | _, _ => io.op.rd)
def IOper.wr (io : IOper) : List Nat := io.op.wr ++ dwr io.dst
theorem guard_agree {s s' : S} {g : Option (Nat × Bool)} (h : ∀ c ∈ gcell g, Agree c s s') : guardOk s g = guardOk s' g := by
  cases g with
  | none => rfl
  | some x =>
    obtain ⟨t, b⟩ := x
    have := (h (t + 3) (by simp [gcell])).1
    simp only [guardOk, this]
theorem step_local {C : Call} {io : IOper} {s s' t : S} (hm : io.op.movable = true) (h : ∀ c ∈ io.rd false ++ io.wr, Agree c s s') (e : stepOp C io s = some t) :
    ∃ t', stepOp C io s' = some t' ∧ Alike io.wr s t s' t' := by
  have hg : guardOk s io.guard = guardOk s' io.guard := guard_agree fun c hc => h c (by simp [IOper.rd, hc])
  unfold stepOp at e ⊢
  rw [← hg]
  split at e <;> try (cases e; done)
  · exact op_local hm (fun c hc => h c (by
      simp only [IOper.rd, IOper.wr, List.mem_append] at hc ⊢
      rcases hc with h1 | h1
      · exact .inl (.inr h1)
      · exact .inr h1)) e
  · injection e with e; subst e
    exact ⟨_, rfl, out_alike.more (fun c hc => by simp [IOper.wr, hc]) (fun c hc => h c (List.mem_append_right _ hc))⟩
theorem step_localR {C : Call} {io : IOper} {n : Nat} {ag : Bool} {q : Opd} {s s' t : S} (ho : io.op = .hload n ag q) (h : ∀ c ∈ io.rd true ++ io.wr, Agree c s s')
    (hl : guardOk s io.guard = some true → ∀ pv v, q.val s = some pv → hload s.h pv n ag = some v → hload s'.h pv n ag = some v) (e : stepOp C io s = some t) :
    ∃ t', stepOp C io s' = some t' ∧ Alike io.wr s t s' t' := by
  have hg : guardOk s io.guard = guardOk s' io.guard := guard_agree fun c hc => h c (by simp [IOper.rd, hc])
  have hq : q.val s = q.val s' := val_agree fun c hc => h c (by simp [IOper.rd, ho, hc])
  unfold stepOp at e ⊢
  rw [← hg]
  split at e <;> try (cases e; done)
  · rename_i hgt
    rw [ho] at e ⊢
    simp only [xOp] at e ⊢
    rw [← hq]
    split at e <;> try (cases e; done)
    rename_i pv hv
    simp only [Option.bind_eq_some_iff] at e
    obtain ⟨v, hv2, e⟩ := e
    injection e with e; subst e
    exact ⟨s'.out io.dst v, by simp [hl hgt pv v hv hv2], out_alike.more (fun c hc => by simp [IOper.wr, hc]) (fun c hc => h c (List.mem_append_right _ hc))⟩
  · injection e with e; subst e
    exact ⟨_, rfl, out_alike.more (fun c hc => by simp [IOper.wr, hc]) (fun c hc => h c (List.mem_append_right _ hc))⟩
theorem step_old {C : Call} {io : IOper} {s t : S} (hm : io.op.movable = true) (e : stepOp C io s = some t) {c : Nat} (hc : c ∉ io.wr) : Agree c s t := by
  obtain ⟨t', _, h⟩ := step_local hm (s' := s) (fun c _ => Agree.refl c s) e
  exact h.old c hc

/-- the run in the text's order, state by state -/
theorem trace {C : Call} : ∀ {ios : List IOper} {s : S} {hs : List H} {k : S → List H → R} {r : AV × H}, xDrawn C ios s hs k = some r →
    ∃ st : Nat → S, st 0 = s ∧ (∀ i io, ios[i]? = some io → stepOp C io (st i) = some (st (i + 1))) ∧ k (st ios.length) (hs ++ (List.range ios.length).map fun i => (st (i + 1)).h) = some r
  | [], s, hs, k, r, e => ⟨fun _ => s, rfl, by simp, by simpa [xDrawn] using e⟩
  | io :: ios, s, hs, k, r, e => by
    simp only [xDrawn] at e
    have : ∃ t, stepOp C io s = some t ∧ xDrawn C ios t (hs ++ [t.h]) k = some r := by
      unfold stepOp
      split at e <;> try (cases e; done)
      · rename_i hg
        rw [xOp_bind] at e
        simp only [Option.bind_eq_some_iff] at e
        obtain ⟨t, h1, h2⟩ := e
        exact ⟨t, by rw [hg]; exact h1, h2⟩
      · rename_i hg
        refine ⟨_, by rw [hg], ?_⟩
        rw [floors_out]; exact e
    obtain ⟨t, h1, h2⟩ := this
    obtain ⟨st, g1, g2, g3⟩ := trace h2
    refine ⟨fun i => match i with | 0 => s | i + 1 => st i, rfl, fun i x hx => ?_, ?_⟩
    · cases i with
      | zero => simp at hx; subst hx; simpa [g1] using h1
      | succ i => exact g2 i x (by simpa using hx)
    · simp only [List.length_cons, List.range_succ_eq_map, List.map_cons, List.map_map, Function.comp_def]
      rw [g1]
      simpa using g3

/-! ### The edges -/
def edgesOf (o : Oper) : List Nat := (o.after.toList.filter (Region.binds .any)).map (·.on)
def fold1 (ms : List Nat) (es : List Nat) : Nat := es.foldl (fun acc e => acc ||| (1 <<< e) ||| ms.getD e 0) 0
def mkMasks : List Oper → List Nat → List Nat
  | [], acc => acc
  | o :: os, acc => mkMasks os (acc ++ [fold1 acc (edgesOf o)])
def masksOk (ms : List Nat) : Nat → List Oper → List Nat → Bool
  | _, [], [] => true
  | i, o :: os, m :: r => Nat.beq m (fold1 ms (edgesOf o)) && (edgesOf o).all (fun e => Nat.blt e i) && masksOk ms (i + 1) os r
  | _, _, _ => false
theorem fold1_bit {ms : List Nat} {j : Nat} : ∀ (es : List Nat) (acc : Nat), (es.foldl (fun acc e => acc ||| (1 <<< e) ||| ms.getD e 0) acc).testBit j = true → acc.testBit j = true ∨ ∃ e ∈ es, j = e ∨ (ms.getD e 0).testBit j = true
  | [], acc, h => .inl h
  | e :: es, acc, h => by
    simp only [List.foldl_cons] at h
    rcases fold1_bit es _ h with h1 | ⟨x, h1, h2⟩
    · rw [Nat.testBit_or, Nat.testBit_or] at h1
      simp only [Bool.or_eq_true] at h1
      rcases h1 with (h1 | h1) | h1
      · exact .inl h1
      · refine .inr ⟨e, List.mem_cons_self, .inl ?_⟩
        rw [Nat.one_shiftLeft, Nat.testBit_two_pow] at h1
        exact (of_decide_eq_true h1).symm
      · exact .inr ⟨e, List.mem_cons_self, .inr h1⟩
    · exact .inr ⟨x, List.mem_cons_of_mem _ h1, h2⟩
theorem masks_spec {ms : List Nat} : ∀ {L : List Oper} {r : List Nat} {i0 : Nat}, masksOk ms i0 L r = true → r = ms.drop i0 → ∀ i o, L[i]? = some o → (∀ e ∈ edgesOf o, e < i0 + i) ∧ ∀ j, (ms.getD (i0 + i) 0).testBit j = true → ∃ e ∈ edgesOf o, j = e ∨ (ms.getD e 0).testBit j = true
  | [], _, _, _, _, i, o, ho => by simp at ho
  | x :: L, [], _, h, _, _, _, _ => by cases h
  | x :: L, m :: r, i0, h, hr, i, o, ho => by
    simp only [masksOk, Bool.and_eq_true] at h
    obtain ⟨⟨h1, h2⟩, h3⟩ := h
    have h1 := beq_true.1 h1
    have hm : ms.getD i0 0 = m := by
      have := congrArg (fun l => l[0]?) hr
      simp only [List.getElem?_cons_zero, List.getElem?_drop, Nat.add_zero] at this
      rw [List.getD_eq_getElem?_getD, ← this]; rfl
    cases i with
    | zero =>
      simp at ho; subst ho
      refine ⟨fun e he => by simpa [blt_iff] using List.all_eq_true.1 h2 e he, fun j hj => ?_⟩
      rw [Nat.add_zero, hm, h1] at hj
      rcases fold1_bit _ _ hj with h | h
      · simp at h
      · exact h
    | succ i =>
      have := masks_spec h3 (by have := congrArg List.tail hr; simpa using this) i o (by simpa using ho)
      rw [show i0 + (i + 1) = i0 + 1 + i from by omega]; exact this

/-! ### The last writer -/
def lw (W : Nat → List Nat) (D : Nat → Bool) (c : Nat) : Nat → Nat
  | 0 => 0
  | i + 1 => if D i = true ∧ c ∈ W i then i + 1 else lw W D c i
theorem lw_le {W : Nat → List Nat} {D : Nat → Bool} {c : Nat} : ∀ n, lw W D c n ≤ n
  | 0 => Nat.le_refl _
  | n + 1 => by
    simp only [lw]
    split
    · exact Nat.le_refl _
    · exact Nat.le_succ_of_le (lw_le n)
theorem lw_mem {W : Nat → List Nat} {D : Nat → Bool} {c m : Nat} : ∀ {n}, lw W D c n = m + 1 → D m = true ∧ c ∈ W m ∧ m < n
  | 0, h => by cases h
  | n + 1, h => by
    simp only [lw] at h
    split at h
    · rename_i hc; injection h with h; subst h; exact ⟨hc.1, hc.2, Nat.lt_succ_self _⟩
    · obtain ⟨h1, h2, h3⟩ := lw_mem h
      exact ⟨h1, h2, Nat.lt_succ_of_lt h3⟩
theorem lw_max {W : Nat → List Nat} {D : Nat → Bool} {c i : Nat} (hd : D i = true) (hc : c ∈ W i) : ∀ {n}, i < n → i + 1 ≤ lw W D c n
  | 0, h => by cases h
  | n + 1, h => by
    simp only [lw]
    split
    · omega
    · rename_i hn
      have : i ≠ n := fun e => hn ⟨e ▸ hd, e ▸ hc⟩
      exact lw_max hd hc (by omega)
theorem lw_congr {W : Nat → List Nat} {D D' : Nat → Bool} {c : Nat} : ∀ {n}, (∀ i, i < n → c ∈ W i → D i = D' i) → lw W D c n = lw W D' c n
  | 0, _ => rfl
  | n + 1, h => by
    have ih := lw_congr (n := n) (fun i hi hc => h i (by omega) hc)
    simp only [lw]
    by_cases hc : c ∈ W n
    · rw [h n (by omega) hc, ih]
    · rw [if_neg (fun x => hc x.2), if_neg (fun x => hc x.2), ih]
def cnt (D : Nat → Bool) : Nat → Nat
  | 0 => 0
  | i + 1 => cnt D i + (if D i = true then 0 else 1)
theorem cnt_zero {D : Nat → Bool} : ∀ {n}, cnt D n = 0 → ∀ i, i < n → D i = true
  | 0, _, i, h => by cases h
  | n + 1, h, i, hi => by
    simp only [cnt] at h
    by_cases e : i = n
    · subst e
      by_cases hd : D i = true
      · exact hd
      · rw [if_neg hd] at h; omega
    · exact cnt_zero (n := n) (by omega) i (by omega)
theorem cnt_set {D D' : Nat → Bool} {i : Nat} (h0 : D i = false) (h1 : D' i = true) (ho : ∀ j, j ≠ i → D' j = D j) (n : Nat) : (i < n → cnt D' n + 1 = cnt D n) ∧ (n ≤ i → cnt D' n = cnt D n) := by
  induction n with
  | zero => exact ⟨fun h => absurd h (Nat.not_lt_zero _), fun _ => rfl⟩
  | succ n ih =>
    obtain ⟨g1, g2⟩ := ih
    simp only [cnt]
    constructor
    · intro h
      by_cases e : n = i
      · have := g2 (by omega)
        rw [e] at this ⊢
        rw [h1, h0, this]; simp
      · have := g1 (by omega)
        rw [ho n e]; omega
    · intro h
      have := g2 (by omega)
      rw [ho n (by omega)]; omega
end Go.Abs
