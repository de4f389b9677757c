/- Composite values; the joint theorem. -/
import Derived.Test.YtiefbkjoldcebaaDoorXxPure4
namespace Go.Abs
variable {K : Seat} {F : FZ} {β : BM} {ρ : Roles} {w : World} {s : S} {a : Act}

theorem foldl_set (off : Nat) : ∀ (vs : List Value) (j0 : Nat) (cs : Array Value), off + j0 + vs.length ≤ cs.size →
    (vs.zipIdx j0).foldl (fun cs (p : Value × Nat) => cs.setIfInBounds (off + p.2) p.1) cs = (cs.toList.take (off + j0) ++ vs ++ cs.toList.drop (off + j0 + vs.length)).toArray
  | [], j0, cs, h => by simp
  | v :: vs, j0, cs, h => by
    simp only [List.length_cons] at h
    simp only [List.zipIdx_cons, List.foldl_cons]
    rw [foldl_set off vs (j0 + 1) _ (by simp; omega)]
    have hs := list_seg_step cs.toList (off + j0) v vs (by simp; omega)
    simp only [Array.toList_setIfInBounds, List.length_cons]
    rw [show off + (j0 + 1) = off + j0 + 1 from by omega, hs]
theorem fill_one (off : Nat) (v : Value) (cs : Array Value) (h : off + v.cells.size ≤ cs.size) :
    v.cells.zipIdx.foldl (fun cs (p : Value × Nat) => cs.setIfInBounds (off + p.2) p.1) cs = (cs.toList.take off ++ v.cells.toList ++ cs.toList.drop (off + v.cells.size)).toArray := by
  have := foldl_set off v.cells.toList 0 cs (by simpa using h)
  rw [← Array.foldl_toList]
  simpa [Array.toList_zipIdx] using this

/-- parts laid into related cells -/
theorem fill_rel (place : Nat → Option (Nat × Nat)) : ∀ (pls : List (Nat × Nat × Bool)) (ps : List (Nat × Value)) (vs : List AV) (zs cs : List AV) (ms : List Value),
    (∀ q ∈ pls.zip (ps.map (·.1)), place q.2 = some (q.1.1, q.1.2.1) ∧ (q.1.2.2 = false → q.1.2.1 = 1)) → pls.length = ps.length →
    RelL K F β zs ms → (∀ m ∈ ms, m.oneCell' = true) → RelL K F β vs (ps.map (·.2)) → fillParts zs pls vs = some cs →
    ∃ ms', Instr.fill place ms.toArray ps = some ms'.toArray ∧ RelL K F β cs ms' ∧ ∀ m ∈ ms', m.oneCell' = true
  | [], [], vs, zs, cs, ms, _, _, hz, h1, hv, e => by
    cases hv
    simp only [fillParts] at e
    injection e with e; subst e
    exact ⟨ms, by simp [Instr.fill], hz, h1⟩
  | [], _ :: _, _, _, _, _, _, hl, _, _, _, _ => by simp at hl
  | _ :: _, [], _, _, _, _, _, hl, _, _, _, _ => by simp at hl
  | (off, n, ag) :: pls, (i, m) :: ps, vs, zs, cs, ms, hp, hl, hz, h1, hv, e => by
    cases hv with
    | cons v vs _ _ hv1 hv2 =>
      simp only [fillParts] at e
      cases hs : shape n ag v with
      | none => rw [hs] at e; cases e
      | some x =>
        rw [hs] at e
        simp only at e
        cases hb : Nat.ble (off + n) zs.length with
        | false => rw [hb] at e; cases e
        | true =>
          rw [hb] at e
          simp only at e
          have hx := shape_eq hs
          subst hx
          obtain ⟨hpl, hone⟩ := hp ((off, n, ag), i) (by simp)
          simp only at hpl hone
          obtain ⟨_, hsz, hall⟩ := hv1.whole hs hone
          have hle : off + n ≤ zs.length := Nat.le_of_ble_eq_true hb
          have hlen := hz.length
          have hfit : off + m.cells.size ≤ ms.toArray.size := by rw [hsz, List.size_toArray]; omega
          have hrel : RelL K F β (zs.take off ++ x.cells ++ zs.drop (off + n)) (ms.take off ++ m.cells.toList ++ ms.drop (off + n)) :=
            ((hz.take off).append (hv1.cells (shape_tuple hs))).append (hz.drop _)
          have h1' : ∀ c ∈ ms.take off ++ m.cells.toList ++ ms.drop (off + n), c.oneCell' = true := by
            intro c hc
            simp only [List.mem_append] at hc
            rcases hc with (hc | hc) | hc
            · exact h1 c (List.mem_of_mem_take hc)
            · exact hall c hc
            · exact h1 c (List.mem_of_mem_drop hc)
          obtain ⟨ms', hf, hr', ho'⟩ := fill_rel place pls ps vs _ cs _ (fun q hq => hp q (by simp only [List.map_cons, List.zip_cons_cons, List.mem_cons]; exact .inr hq)) (by simpa using hl) hrel h1' hv2 e
          refine ⟨ms', ?_, hr', ho'⟩
          simp only [Instr.fill, hpl]
          rw [if_neg (by simp only [hsz, ne_eq, not_true, false_or, Bool.or_eq_true, decide_eq_true_eq]; simp; omega)]
          rw [fill_one off m ms.toArray hfit, hsz]
          exact hf

theorem placesOk_zip {P : Program} {place : Nat → Option (Nat × TypeId)} : ∀ {pls : List (Nat × Nat × Bool)} {is : List Nat}, placesOk P place pls is = true →
    pls.length = is.length ∧ ∀ q ∈ pls.zip is, (∃ t, place q.2 = some (q.1.1, t) ∧ tyOk P t q.1.2.1 q.1.2.2 = true)
  | [], [], _ => ⟨rfl, by simp⟩
  | [], _ :: _, h => by simp [placesOk] at h
  | _ :: _, [], h => by simp [placesOk] at h
  | (off, n, ag) :: pls, i :: is, h => by
    simp only [placesOk, Bool.and_eq_true] at h
    obtain ⟨h1, h2⟩ := placesOk_zip h.2
    refine ⟨by simp [h1], fun q hq => ?_⟩
    simp only [List.zip_cons_cons, List.mem_cons] at hq
    rcases hq with rfl | hq
    · have h3 := h.1
      cases hp : place i with
      | none => rw [hp] at h3; cases h3
      | some x =>
        obtain ⟨o, t⟩ := x
        rw [hp] at h3
        simp only [Bool.and_eq_true] at h3
        exact ⟨t, by rw [beq_true.1 h3.1], h3.2⟩
    · exact h2 q hq

theorem run_mapM_sizes {P : Program} (fs : Array Field) (w : World) (h : fs.toList.all (fun f => (P.info? f.type).isSome) = true) :
    (fs.mapM (fun f => do pure (f.offset, ← sizeOf f.type) : Field → Sem (Nat × Nat))).run P w = .ok (fs.map fun f => (f.offset, P.cellsOf f.type)) w := by
  have key : ∀ (l : List Field), l.all (fun f => (P.info? f.type).isSome) = true → (l.mapM (fun f => do pure (f.offset, ← sizeOf f.type) : Field → Sem (Nat × Nat))).run P w = .ok (l.map fun f => (f.offset, P.cellsOf f.type)) w := by
    intro l
    induction l with
    | nil => intro _; simp
    | cons f l ih =>
      intro h
      simp only [List.all_cons, Bool.and_eq_true] at h
      obtain ⟨i, hi⟩ := Option.isSome_iff_exists.1 h.1
      simp only [List.mapM_cons, Sem.run_bind, run_sizeOf _ hi, Result.andThen_ok, Sem.run_pure, ih h.2, List.map_cons]
  have := key fs.toList h
  rw [Array.mapM_eq_mapM_toList]
  simp only [Sem.run_map, this, Result.andThen_ok]
  congr 1
  apply Array.ext'
  simp
theorem tyOk_cells {P : Program} {t : TypeId} {n : Nat} {ag : Bool} (h : tyOk P t n ag = true) : P.cellsOf t = n := by
  obtain ⟨i, hi, hs⟩ := tyOk_info h
  simp [Program.cellsOf, hi, hs]
theorem g_build {o : Oper} {t : TypeId} {parts : Array (Nat × Operand)} {zero : List AV} {pls : List (Nat × Nat × Bool)} (ho : o.op = .build t parts) (hz : zeroOk K K.P t zero = true) (hp : partsOk K.P t pls (parts.toList.map (·.1)) = true)
    {vs : List AV} {v : AV} (hr : RelL K F β vs ((parts.toList.map (·.2)).map a.eval)) (e : evalP (.build zero pls) vs = some v) : Gives K F β w a o v := by
  simp only [evalP] at e
  cases hfp : fillParts zero pls vs with
  | none => rw [hfp] at e; cases e
  | some cs =>
    rw [hfp] at e
    injection e with e; subst e
    unfold zeroOk at hz
    cases hi : K.P.info? t with
    | none => rw [hi] at hz; cases hz
    | some inf =>
      rw [hi] at hz
      simp only at hz
      cases hzv : inf.zero with
      | none => rw [hzv] at hz; cases hz
      | some z =>
        rw [hzv] at hz
        simp only at hz
        obtain ⟨hz1, hz2⟩ := valOkL_rel F β zero z.cells.toList hz
        have hzrun : ∀ w, (zeroValue t).run K.P w = .ok z w := fun w => by simp [zeroValue, typeInfo, hi, hzv]
        have hpe : (parts.map fun (i, x) => (i, a.eval x)).toList = parts.toList.map fun p => (p.1, a.eval p.2) := by simp
        have e1 : (parts.toList.map fun p => (p.1, a.eval p.2)).map (·.1) = parts.toList.map (·.1) := by simp [Function.comp_def]
        have e2 : (parts.toList.map fun p => (p.1, a.eval p.2)).map (·.2) = (parts.toList.map (·.2)).map a.eval := by simp [Function.comp_def]
        have fin : ∀ (place : Nat → Option (Nat × TypeId)) (placeM : Nat → Option (Nat × Nat)), placesOk K.P place pls (parts.toList.map (·.1)) = true → (∀ i off t n ag, place i = some (off, t) → tyOk K.P t n ag = true → placeM i = some (off, n)) →
            ∃ ms', Instr.fill placeM z.cells (parts.map fun (i, x) => (i, a.eval x)).toList = some ms'.toArray ∧ RelL K F β cs ms' ∧ ∀ m ∈ ms', m.oneCell' = true := by
          intro place placeM hpk hpm
          obtain ⟨hl, hq⟩ := placesOk_zip hpk
          rw [hpe]
          refine fill_rel (K := K) placeM pls _ vs zero cs z.cells.toList (fun q hq' => ?_) (by simpa using hl) hz1 hz2 (by rw [e2]; exact hr) hfp
          rw [e1] at hq'
          obtain ⟨ty, h1, h2⟩ := hq q hq'
          exact ⟨hpm _ _ _ _ _ h1 h2, fun hf => tyOk_one (hf ▸ h2)⟩
        unfold partsOk at hp
        split at hp <;> try (cases hp; done)
        · rename_i fs hu
          simp only [Bool.and_eq_true] at hp
          obtain ⟨ms', hf, hr', ho'⟩ := fin _ (fun i => (fs.map fun f => (f.offset, K.P.cellsOf f.type))[i]?) hp.2 (fun i off t n ag h1 h2 => by
            cases hfi : fs[i]? with
            | none => simp [hfi] at h1
            | some f =>
              simp [hfi] at h1
              obtain ⟨rfl, rfl⟩ := h1
              simp [hfi, tyOk_cells h2])
          refine Gives.same ?_ (.agg cs ms' hr' ho')
          have hrun := run_mapM_sizes (P := K.P) fs w hp.1
          simp only [execOp, ho, Instr.build, Sem.run_bind, hzrun, Result.andThen_ok, run_underlying hu, hrun, hf, Sem.run_pure]
        · rename_i n el hu
          simp only [Bool.and_eq_true] at hp
          obtain ⟨inf2, hi2⟩ := Option.isSome_iff_exists.1 hp.1
          obtain ⟨ms', hf, hr', ho'⟩ := fin _ (fun i => some (i * K.P.cellsOf el, K.P.cellsOf el)) hp.2 (fun i off t n ag h1 h2 => by
            simp at h1
            obtain ⟨rfl, rfl⟩ := h1
            simp [tyOk_cells h2])
          refine Gives.same ?_ (.agg cs ms' hr' ho')
          simp only [execOp, ho, Instr.build, Sem.run_bind, hzrun, Result.andThen_ok, run_underlying hu, run_sizeOf _ hi2, hf, Sem.run_pure]
/-- the cells of values, one behind the other -/
def flatM (ms : List Value) : List Value := ms.flatMap fun m => m.cells.toList
theorem flatM_len {sz : Nat} : ∀ (ms : List Value), (∀ m ∈ ms, m.cells.size = sz) → (flatM ms).length = ms.length * sz
  | [], _ => by simp [flatM]
  | m :: ms, h => by
    have := flatM_len ms (fun x hx => h x (by simp [hx]))
    have h0 := h m (by simp)
    simp only [flatM, List.flatMap_cons, List.length_append, Array.length_toList, List.length_cons] at this ⊢
    rw [this, h0, Nat.add_mul]; omega
theorem fill_flat {sz : Nat} : ∀ (ps : List (Nat × Value)) (i0 : Nat) (cs : Array Value), ps.map (·.1) = (List.range ps.length).map (i0 + ·) → (∀ p ∈ ps, p.2.cells.size = sz) → (i0 + ps.length) * sz ≤ cs.size →
    Instr.fill (fun i => some (i * sz, sz)) cs ps = some (cs.toList.take (i0 * sz) ++ flatM (ps.map (·.2)) ++ cs.toList.drop ((i0 + ps.length) * sz)).toArray
  | [], i0, cs, _, _, h => by simp [Instr.fill, flatM]
  | (i, v) :: ps, i0, cs, hi, hs, h => by
    have hsz : v.cells.size = sz := hs (i, v) (by simp)
    simp only [List.map_cons, List.length_cons, List.range_succ_eq_map, List.map_cons, Nat.add_zero, List.cons.injEq, List.map_map] at hi
    obtain ⟨rfl, hi⟩ := hi
    have h2 : (i + 1 + ps.length) * sz = (i + ((i, v) :: ps).length) * sz := by congr 1; simp; omega
    have h3 : i * sz + sz = (i + 1) * sz := by rw [Nat.add_mul]; omega
    have h4 : (i + 1) * sz ≤ (i + ((i, v) :: ps).length) * sz := Nat.mul_le_mul_right _ (by simp)
    have hfit : i * sz + v.cells.size ≤ cs.size := by rw [hsz]; omega
    simp only [Instr.fill]
    rw [if_neg (by simp only [hsz, ne_eq, not_true, decide_false, Bool.false_or, decide_eq_true_eq]; omega), fill_one (i * sz) v cs hfit, hsz]
    rw [fill_flat ps (i + 1) _ (by rw [hi]; apply List.map_congr_left; intro j _; simp; omega) (fun p hp => hs p (by simp [hp])) (by
      simp only [List.size_toArray, List.length_append, List.length_take, List.length_drop, Array.length_toList]; rw [h2]; omega)]
    congr 2
    have hl : (cs.toList.take (i * sz) ++ v.cells.toList).length = (i + 1) * sz := by simp [hsz]; omega
    have e1 : (cs.toList.take (i * sz) ++ v.cells.toList ++ cs.toList.drop (i * sz + sz)).take ((i + 1) * sz) = cs.toList.take (i * sz) ++ v.cells.toList := by rw [← hl]; exact List.take_left
    have e2 : (cs.toList.take (i * sz) ++ v.cells.toList ++ cs.toList.drop (i * sz + sz)).drop ((i + 1 + ps.length) * sz) = cs.toList.drop ((i + ((i, v) :: ps).length) * sz) := by
      rw [List.drop_append, hl, h2, List.drop_eq_nil_of_le (by rw [hl]; exact h4), List.nil_append, List.drop_drop]
      congr 1; omega
    simp only
    rw [e1, e2]
    simp [flatM]
theorem relE_flat {sz k : Nat} : ∀ (xs : List AV) (ms : List Value) (off : Nat) (G : FZ), RelL K G β xs ms → (∀ m ∈ ms, m.cells.size = sz) → (∀ c ∈ flatM ms, c.oneCell' = true) → (∀ j c, (flatM ms)[j]? = some c → G k (off + j) = some c) → RelE K G β sz k off xs
  | [], ms, off, G, _, _, _, _ => .nil _ _ _
  | x :: xs, ms, off, G, h, hs, h1, hG => by
    cases h with
    | cons _ _ m ms h hr =>
      have h0 := hs m (by simp)
      refine .cons _ _ _ _ _ m h h0 (fun c hc => h1 c (by simp only [flatM, List.flatMap_cons, List.mem_append]; exact .inl hc)) (fun j c hj => hG j c ?_) (relE_flat xs ms (off + sz) G hr (fun m hm => hs m (by simp [hm])) (fun c hc => h1 c (by simp only [flatM, List.flatMap_cons, List.mem_append] at hc ⊢; exact .inr hc)) (fun j c hj => ?_))
      · have hlt : j < m.cells.size := (Array.getElem?_eq_some_iff.1 hj).1
        simp only [flatM, List.flatMap_cons]
        rw [List.getElem?_append_left (by simpa using hlt)]; simpa using hj
      · have := hG (sz + j) c (by
          simp only [flatM, List.flatMap_cons]
          rw [List.getElem?_append_right (by simp [h0])]
          simpa [h0, flatM] using hj)
        rw [Nat.add_assoc]; exact this
theorem shapes_eq {sz : Nat} {ag : Bool} : ∀ {vs xs : List AV}, shapes sz ag vs = some xs → xs = vs ∧ ∀ v ∈ vs, shape sz ag v = some v
  | [], xs, h => by simp only [shapes] at h; injection h with h; subst h; simp
  | v :: vs, xs, h => by
    simp only [shapes] at h
    cases h1 : shape sz ag v with
    | none => rw [h1] at h; cases h
    | some x =>
      rw [h1] at h
      cases h2 : shapes sz ag vs with
      | none => rw [h2] at h; cases h
      | some ys =>
        rw [h2] at h
        injection h with h
        subst h
        obtain ⟨rfl, h3⟩ := shapes_eq h2
        have := shape_eq h1
        subst this
        exact ⟨rfl, by intro y hy; simp only [List.mem_cons] at hy; rcases hy with rfl | hy; exact h1; exact h3 y hy⟩
theorem sizes_of {sz : Nat} {ag : Bool} (hn : ag = false → sz = 1) : ∀ {vs : List AV} {ms : List Value}, RelL K F β vs ms → (∀ v ∈ vs, shape sz ag v = some v) → ∀ m ∈ ms, m.cells.size = sz
  | [], _, h, _ => by cases h; simp
  | v :: vs, _, h, hs => by
    cases h with
    | cons _ _ m ms h hr =>
      intro x hx
      simp only [List.mem_cons] at hx
      rcases hx with rfl | hx
      · exact (h.whole (hs v (by simp)) hn).2.1
      · exact sizes_of hn hr (fun v hv => hs v (by simp [hv])) x hx
theorem ones_of {sz : Nat} {ag : Bool} : ∀ {vs : List AV} {ms : List Value}, RelL K F β vs ms → (∀ v ∈ vs, shape sz ag v = some v) → ∀ c ∈ flatM ms, c.oneCell' = true
  | [], _, h, _ => by cases h; simp [flatM]
  | v :: vs, _, h, hs => by
    cases h with
    | cons _ _ m ms h hr =>
      intro c hc
      simp only [flatM, List.flatMap_cons, List.mem_append] at hc
      rcases hc with hc | hc
      · exact h.cells_one' (shape_tuple (hs v (by simp))) c hc
      · exact ones_of hr (fun v hv => hs v (by simp [hv])) c (by simpa [flatM] using hc)
theorem rowOk_u {P : Program} {t : TypeId} {sz : Nat} {ag : Bool} (h : rowOk P t sz ag = true) : ∃ e z, P.underlying t = some (.slice e) ∧ tyOk P e sz ag = true ∧ 0 < sz ∧ (∀ w, (zeroValue e).run P w = .ok z w) ∧ z.cells.size = sz := by
  unfold rowOk at h; split at h <;> try (cases h; done)
  rename_i e hu
  simp only [Bool.and_eq_true] at h
  obtain ⟨⟨h1, h2⟩, h3⟩ := h
  split at h3 <;> try (cases h3; done)
  rename_i i hi
  split at h3 <;> try (cases h3; done)
  rename_i z hz
  refine ⟨e, z, hu, h1, ?_, fun w => by simp [zeroValue, typeInfo, hi, hz], beq_true.1 h3⟩
  rcases Nat.eq_zero_or_pos sz with h0 | h0
  · subst h0; exact absurd h2 (by decide)
  · exact h0
theorem g_mkList {o : Oper} {t : TypeId} {len : Nat} {parts : Array (Nat × Operand)} {sz : Nat} {ag : Bool} (ho : o.op = .buildSlice t len parts) (hR : rowOk K.P t sz ag = true) (hl : len = parts.size) (hb : len * sz ≤ 16777216)
    (hi : parts.toList.map (·.1) = List.range parts.size) (hF : ∀ k o x, F k o = some x → w.cell? ⟨k, o, none⟩ = some x)
    {vs : List AV} {v : AV} (hr : RelL K F β vs ((parts.toList.map (·.2)).map a.eval)) (e : evalP (.mkList sz ag) vs = some v) : Gives K F β w a o v := by
  simp only [evalP] at e
  cases hs : shapes sz ag vs with
  | none => rw [hs] at e; cases e
  | some xs =>
    rw [hs] at e
    injection e with e; subst e
    obtain ⟨rfl, hsh⟩ := shapes_eq hs
    obtain ⟨el, z, hu, hty, hpos, hz, hzs⟩ := rowOk_u hR
    have hsz := sizes_of (K := K) (fun h => tyOk_one (h ▸ hty)) hr hsh
    have hlen := hr.length
    have hpe : (parts.map fun x => (x.fst, a.eval x.snd)).toList = parts.toList.map fun p => (p.1, a.eval p.2) := by simp
    have e1 : (parts.toList.map fun p => (p.1, a.eval p.2)).map (·.1) = parts.toList.map (·.1) := by simp [Function.comp_def]
    have e2 : (parts.toList.map fun p => (p.1, a.eval p.2)).map (·.2) = (parts.toList.map (·.2)).map a.eval := by simp [Function.comp_def]
    have hfl := flatM_len (sz := sz) _ hsz
    have hfill : ∀ cs : Array Value, cs.size = len * sz → Instr.fill (fun i => some (i * sz, sz)) cs (parts.map fun x => (x.fst, a.eval x.snd)).toList = some (flatM ((parts.toList.map (·.2)).map a.eval)).toArray := by
      intro cs hcs
      rw [hpe, fill_flat (sz := sz) _ 0 cs (by rw [e1, hi]; simp) (fun p hp => hsz p.2 (by rw [← e2]; exact List.mem_map_of_mem hp)) (by simp [hcs, hl])]
      rw [e2]
      simp only [Nat.zero_mul, List.take_zero, List.nil_append]
      congr 2
      rw [List.drop_eq_nil_of_le (by simp [hcs, hl]), List.append_nil]
    generalize hfc : (flatM ((parts.toList.map (·.2)).map a.eval)).toArray = fc at hfill
    have g := Grow.alloc hF fc el
    refine ⟨.slice (some ⟨w.heap.size, 0, none⟩) len len, w.alloc (.cells fc el), _, ?_, g, ?_⟩
    · simp only [execOp, ho, Instr.buildSlice, Sem.run_bind, run_underlying hu, Result.andThen_ok, tyOk_size hty, Sem.run_ite]
      rw [if_neg (by omega)]
      simp only [Sem.run_pure, Result.andThen_ok]
      by_cases h0 : len * sz = 0
      · rw [if_pos h0]
        rw [hfill]
        · simp [newRow]
        · simp
      · rw [if_neg h0]
        simp only [hz, Result.andThen_ok]
        rw [hfill]
        · simp [newRow]
        · simp
    · have hx : xs.length = len := by rw [hlen]; simp [hl]
      rw [← hx]
      refine Rel.list_mk (k := w.heap.size) (off := 0) (relE_flat xs _ 0 _ (hr.mono g.fz (BLe.refl _)) hsz (ones_of hr hsh) (fun j c hj => ?_)) (Nat.le_refl _) _ (fun _ => rfl)
      simp only [FZ.add, if_true, Nat.zero_add, ← hfc]
      simpa using hj

/-! ### All of them -/
theorem opdsOk_rel {hs : FSim K F β ρ s a w} {xs : List Opd} {ys : List Operand} {vs : List AV} (h : opdsOk K xs ys = true) (e : vals s xs = some vs) : RelL K F β vs (ys.map a.eval) := opds_rel hs h e
theorem pure_ok (hs : FSim K F β ρ s a w) {p : POp} {xs : List Opd} {o : Oper} {vs : List AV} {v : AV} (h : checkP K p xs o.op = true) (e : vals s xs = some vs) (e2 : evalP p vs = some v) : Gives K F β w a o v := by
  have hF := hs.heap.fz
  unfold checkP at h
  split at h <;> try (cases h; done)
  all_goals try simp only [Bool.and_eq_true] at h
  · exact g_mov (.inl ‹_›) (opds_rel hs h e) e2
  · exact g_mov (.inr ‹_›) (opds_rel hs h e) e2
  · exact g_pick ‹_› (opds_rel hs h e) e2
  · exact g_build ‹_› h.1.2 h.2 (opds_rel hs h.1.1 e) e2
  · exact g_mkList ‹_› h.1.1.1.2 (beq_true.1 h.1.1.2) (Nat.le_of_ble_eq_true h.1.2) (by simpa using h.2) hF (opds_rel hs h.1.1.1.1 e) e2
  · exact g_ld ‹_› h.1 hF (opds_rel hs h.2 e) e2
  · have := h.1
    simp only [beq_iff_eq] at this
    subst this
    exact g_bin ‹_› (opds_rel hs h.2 e) e2
  · exact g_eq ‹_› h.1.1 h.1.2 (opds_rel hs h.2 e) e2
  · have := h.1
    simp only [beq_iff_eq] at this
    subst this
    exact g_un ‹_› (opds_rel hs h.2 e) e2
  · exact g_conv ‹_› h.1.1 h.1.2 (opds_rel hs h.2 e) e2
  · exact g_convS ‹_› h.1.1 h.1.2 (opds_rel hs h.2 e) e2
  · exact g_iface ‹_› (by simpa using h.1.1) h.1.2 (opds_rel hs h.2 e) e2
  · exact g_mkfunc ‹_› (by simpa using h.1.1) (beq_true.1 h.1.2) (opds_rel hs h.2 e) e2
  · exact g_fieldAddr ‹_› h.1 (opds_rel hs h.2 e) e2
  · exact g_field ‹_› h.1 (opds_rel hs h.2 e) e2
  · exact g_idxAddr ‹_› h.1 (opds_rel hs h.2 e) e2
  · exact g_idxStr ‹_› h.1 (opds_rel hs h.2 e) e2
  · exact g_idxArr ‹_› h.1 (opds_rel hs h.2 e) e2
  · exact g_sliceS ‹_› h.1.1.1 (by simpa using h.1.1.2) (by simpa using h.1.2) (opds_rel hs h.2 e) e2
  · exact g_sliceL ‹_› h.1.1.1 (by simpa using h.1.1.2) (by simpa using h.1.2) (opds_rel hs h.2 e) e2
  · exact g_lenS ‹_› (beq_true.1 h.1.1) h.1.2 (opds_rel hs h.2 e) e2
  · exact g_lenL ‹_› (beq_true.1 h.1.1) h.1.2 (opds_rel hs h.2 e) e2
  · exact g_min ‹_› (opds_rel hs h e) e2
  · exact g_max ‹_› (opds_rel hs h e) e2
  · have := beq_true.1 h.1
    subst this
    exact g_extract ‹_› (opds_rel hs h.2 e) e2
  · exact g_nilchk ‹_› (opds_rel hs h e) e2
  · exact g_boxro ‹_› hF (opds_rel hs h.2 e) e2
end Go.Abs
