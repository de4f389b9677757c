/- One block changes. -/
import Derived.Test.YtiefbkjoldcebaaDoorXxPure5
namespace Go.Abs
variable {K : Seat} {F F' : FZ} {β : BM} {ρ ρ' : Roles} {w w' : World} {s : S} {a : Act}

/-- block k alone may change, cells of it may be frozen -/
structure Touch (F : FZ) (w : World) (F' : FZ) (w' : World) (k : Nat) : Prop where
  blk : ∀ j, j ≠ k → j < w.heap.size → w'.heap[j]? = w.heap[j]?
  size : w.heap.size ≤ w'.heap.size
  fz : FLe F F'
  other : ∀ j, j ≠ k → ∀ o, F' j o = F j o
  cells : ∀ o x, F' k o = some x → w'.cell? ⟨k, o, none⟩ = some x
  os : w'.os = w.os
  tape : w'.tape = w.tape
  output : w'.output = w.output
  frz : ∀ a, w'.frozen? a = w.frozen? a

theorem Touch.keep {k : Nat} (t : Touch F w F' w' k) (hk : w.heap.size ≤ k ∨ ρ k ≠ none) (hr : ∀ j, ρ' j ≠ none → j < w.heap.size → ρ j ≠ none) : Keep F β ρ w F' β ρ' w' where
  fz := t.fz
  new := by
    intro j o h h0
    by_cases e : j = k
    · subst e; exact hk
    · rw [t.other j e o] at h; exact absurd h0 h
  bm := BLe.refl _
  blk := by
    intro j hj hr0
    refine t.blk j (fun e => ?_) hj
    subst e
    rcases hk with hk | hk
    · omega
    · exact hk hr0
  size := t.size
  role := hr
  os := t.os
  tape := t.tape
  output := t.output
  frz := t.frz

theorem HSim.touch {h : H} {k : Nat} (hs : HSim K F β ρ h w) (t : Touch F w F' w' k) (hk : ∀ r, ρ k = some r → r.isH = false) (hρ : ∀ j r, r.isH = true → (ρ' j = some r ↔ ρ j = some r))
    (hrole : ∀ j r, ρ' j = some r → j < w'.heap.size) : HSim K F' β ρ' h w' where
  glob := fun k o x h => t.fz _ _ _ (hs.glob k o x h)
  len := hs.len
  low := hs.low
  blk := by
    intro b x hx
    obtain ⟨g, j, hb, hr, hok⟩ := hs.blk b x hx
    have hne : ∀ j r, r.isH = true → ρ j = some r → j ≠ k := fun j r hr hj e => by
      subst e; rw [hk r hj] at hr; cases hr
    refine ⟨g, j, hb, (hρ j _ rfl).2 hr, hok.keep t.fz (BLe.refl _) (t.blk j (hne j _ rfl hr) (hs.role j _ hr)) (fun o i hi => ?_)⟩
    exact ⟨(hρ i _ rfl).2 hi, t.blk i (hne i _ rfl hi) (hs.role i _ hi), fun x hx => by rw [t.other i (hne i _ rfl hi)]; exact hx⟩
  fz := by
    intro j o x hx
    by_cases e : j = k
    · subst e; exact t.cells o x hx
    · rw [t.other j e] at hx
      have := hs.fz j o x hx
      rw [cell_same (t.blk j e (fz_lt hs.fz hx))]; exact this
  free := by
    intro j b hr o
    have h0 := (hρ j _ rfl).1 hr
    have hne : j ≠ k := fun e => by subst e; have := hk _ h0; simp [Role.isH] at this
    rw [t.other j hne]; exact hs.free j b h0 o
  role := hrole
  ents := fun j b o h => hs.ents j b o ((hρ j _ rfl).1 h)
  heaps := fun j b h => hs.heaps j b ((hρ j _ rfl).1 h)

/-- an owner elsewhere is not touched -/
theorem Own.touch {k : Nat} {e : Ent} {sz n : Nat} {v : Value} (h : Own F ρ w e sz n v) (t : Touch F w F' w' k) (hk : ρ k ≠ some (.ent e)) (hr : ∀ j, ρ j = some (.ent e) → j < w.heap.size ∧ ρ' j = some (.ent e)) : Own F' ρ' w' e sz n v :=
  h.keep fun g hg => by
    have hne : g ≠ k := fun e => by subst e; exact hk hg
    exact ⟨(hr g hg).2, t.blk g hne (hr g hg).1, fun o ho => by rw [t.other g hne]; exact ho⟩

theorem Role.locH {l : Nat} : (Role.loc l).isH = false := rfl

/-- a block is replaced (its owner's business): the world -/
theorem heap_set (w : World) (k j : Nat) (o : Obj) : ({ w with heap := w.heap.setIfInBounds k o } : World).heap[j]? = if k = j ∧ k < w.heap.size then some o else w.heap[j]? := by
  simp only [Array.getElem?_setIfInBounds]
  by_cases e : k = j
  · subst e
    by_cases h : k < w.heap.size
    · simp [h]
    · simp [h]
  · simp [e]
/-- cells of one variable are written -/
theorem setRow_get (w : World) (k j : Nat) (c cur : Array Value) (ty : TypeId) (fr : Nat × Nat) (h : w.heap[k]? = some (.cells cur ty fr)) :
    (w.setRow k c).heap[j]? = if k = j then some (.cells c ty fr) else w.heap[j]? := by
  unfold World.setRow
  simp only [Array.getElem?_modify]
  by_cases e : k = j
  · subst e; simp [h]
  · simp [e]
theorem setRow_touch {k : Nat} {c cur : Array Value} {ty : TypeId} {fr : Nat × Nat} (h : w.heap[k]? = some (.cells cur ty fr)) (hF : ∀ o, F k o = none) : Touch F w F (w.setRow k c) k where
  blk := fun j hj _ => by rw [setRow_get w k j c cur ty fr h, if_neg (fun e => hj e.symm)]
  size := by simp [World.setRow]
  fz := FLe.refl _
  other := fun _ _ _ => rfl
  cells := fun o x hx => by rw [hF o] at hx; cases hx
  os := rfl
  tape := rfl
  output := rfl
  frz := frozen_setRow w k c
theorem alloc_touch (o : Obj) (ho : thaw o = true) (hF : ∀ k o x, F k o = some x → w.cell? ⟨k, o, none⟩ = some x) : Touch F w F (w.alloc o) w.heap.size where
  blk := fun j _ hj => heap_alloc_old w o j hj
  size := by simp
  fz := FLe.refl _
  other := fun _ _ _ => rfl
  cells := fun i x hx => by have := fz_lt hF hx; omega
  os := rfl
  tape := rfl
  output := rfl
  frz := frozen_alloc w o ho

/-! ### claim -/
theorem claim_rel {ag : Bool} {m : Value} : ∀ {os : List Nat} {v v' : AV}, claim v ag os = some v' → ∀ {n : Nat}, shape n ag v = some v → Rel K F β v m →
    Rel K F β v' m ∧ shape n ag v' = some v' ∧ (∀ o ∈ os, ∃ sz, slotOf ag v' o = some (.list false sz []) ∧ m.cells[o]? = some (.slice none 0 0)) ∧ (∀ o sz, slotOf ag v o = some (.list false sz []) → slotOf ag v' o = some (.list false sz []))
  | [], v, v', h, n, hsh, hr => by
    simp only [claim] at h; injection h with h; subst h
    exact ⟨hr, hsh, by simp, fun _ _ h => h⟩
  | o :: os, v, v', h, n, hsh, hr => by
    cases ag with
    | true =>
      simp only [claim] at h
      cases v with
      | agg cs =>
        cases hr with
        | agg _ ms hl h1 =>
          simp only [Abs.part] at h
          cases hc : cs[o]? with
          | none => rw [hc] at h; simp at h
          | some c =>
            rw [hc] at h
            simp only at h
            split at h <;> try (cases h; done)
            rename_i sz hcell
            have hcell := Option.some.inj hcell
            subst hcell
            have ho : o < cs.length := (List.getElem?_eq_some_iff.1 hc).1
            have hset : setPart (.agg cs) o (.list false sz []) 1 false = some (.agg (cs.take o ++ [.list false sz []] ++ cs.drop (o + 1))) := by
              simp only [setPart, shape]
              have : Nat.ble (o + 1) cs.length = true := by simp; omega
              rw [this]; rfl
            rw [hset] at h
            simp only at h
            obtain ⟨mo, hmo, hmr⟩ := hl.get o _ hc
            cases hmr
            have hms : ms = ms.take o ++ [.slice none 0 0] ++ ms.drop (o + 1) := by
              have : o < ms.length := (List.getElem?_eq_some_iff.1 hmo).1
              have h2 : ms[o] = .slice none 0 0 := (List.getElem?_eq_some_iff.1 hmo).2
              rw [List.append_assoc, ← h2, List.singleton_append, List.getElem_cons_drop]; simp
            have hr2 : Rel K F β (.agg (cs.take o ++ [.list false sz []] ++ cs.drop (o + 1))) (.agg ms.toArray) := by
              refine .agg _ ms ?_ h1
              rw [hms]
              have hA : RelL K F β (cs.take o) (ms.take o) := hl.take o
              have hB : RelL K F β (cs.drop (o + 1)) (ms.drop (o + 1)) := hl.drop (o + 1)
              have hC : RelL K F β [.list false sz []] [.slice none 0 0] := .cons _ _ _ _ (.l0 _ _ _) .nil
              exact (hA.append hC).append hB
            have hsh2 : shape n true (.agg (cs.take o ++ [.list false sz []] ++ cs.drop (o + 1))) = some (.agg (cs.take o ++ [.list false sz []] ++ cs.drop (o + 1))) := by
              simp only [shape] at hsh ⊢
              have : (cs.take o ++ [AV.list false sz []] ++ cs.drop (o + 1)).length = cs.length := by simp; omega
              rw [this]
              split at hsh
              · rfl
              · cases hsh
            obtain ⟨r1, r2, r3, r4⟩ := claim_rel h hsh2 hr2
            have hnew : ∀ i sz', slotOf true (.agg cs) i = some (.list false sz' []) → slotOf true (.agg (cs.take o ++ [.list false sz []] ++ cs.drop (o + 1))) i = some (.list false sz' []) := by
              intro i sz' hi
              simp only [slotOf, if_true, AV.cells] at hi ⊢
              have hne : i ≠ o := fun e => by subst e; rw [hc] at hi; cases hi
              rw [← hi]
              rw [List.append_assoc, List.getElem?_append]
              have hlt : (cs.take o).length = o := by simp; omega
              rw [hlt]
              by_cases hio : i < o
              · rw [if_pos hio, List.getElem?_take, if_pos hio]
              · rw [if_neg hio]
                obtain ⟨j, rfl⟩ : ∃ j, i = o + 1 + j := ⟨i - (o + 1), by omega⟩
                rw [show o + 1 + j - o = j + 1 from by omega]
                simp [List.getElem?_drop]
            have hat : slotOf true (.agg (cs.take o ++ [.list false sz []] ++ cs.drop (o + 1))) o = some (.list false sz []) := by
              simp only [slotOf, if_true, AV.cells]
              rw [List.append_assoc, List.getElem?_append_right (by simp; omega)]
              have hlt : (cs.take o).length = o := by simp; omega
              rw [hlt]; simp
            refine ⟨r1, r2, fun i hi => ?_, fun i sz' hi => r4 i sz' (hnew i sz' hi)⟩
            simp only [List.mem_cons] at hi
            rcases hi with rfl | hi
            · exact ⟨sz, r4 _ _ hat, by simpa [Value.cells] using hmo⟩
            · exact r3 i hi
      | _ => simp [Abs.part] at h
    | false =>
      simp only [claim] at h
      split at h <;> try (cases h; done)
      rename_i sz
      cases hr
      have hsh2 : shape n false (.list false sz []) = some (.list false sz []) := rfl
      obtain ⟨r1, r2, r3, r4⟩ := claim_rel h hsh2 (.l0 sz none 0 : Rel K F β _ _)
      refine ⟨r1, r2, fun i hi => ?_, fun i sz' hi => ?_⟩
      · simp only [List.mem_cons] at hi
        rcases hi with rfl | hi
        · exact ⟨sz, r4 0 sz (by simp [slotOf]), by simp [Value.cells]⟩
        · exact r3 i hi
      · simp only [slotOf, Bool.false_eq_true, if_false] at hi
        split at hi <;> cases hi
end Go.Abs
