/- Strings, slices, composite values. -/
import Derived.Test.YtiefbkjoldcebaaDoorXxPure3
namespace Go.Abs
variable {K : Seat} {F : FZ} {β : BM} {ρ : Roles} {w : World} {s : S} {a : Act}

theorem isStr_u {P : Program} {t : TypeId} (h : isStr P t = true) : P.underlying t = some .string := by
  unfold isStr at h; split at h
  · assumption
  · cases h
theorem isSl_u {P : Program} {t : TypeId} (h : isSl P t = true) : ∃ e, P.underlying t = some (.slice e) := by
  unfold isSl at h; split at h
  · exact ⟨_, by assumption⟩
  · cases h
theorem elemOk_u {P : Program} {t : TypeId} {sz : Nat} (h : elemOk P t sz = true) : ∃ e i, P.underlying t = some (.slice e) ∧ P.info? e = some i ∧ i.size = sz ∧ 0 < sz := by
  unfold elemOk at h; split at h
  · rename_i e hu
    split at h
    · rename_i i hi
      simp only [Bool.and_eq_true] at h
      have h1 := beq_true.1 h.1
      refine ⟨e, i, hu, hi, h1, ?_⟩
      rcases Nat.eq_zero_or_pos sz with h0 | h0
      · subst h0; exact absurd h.2 (by decide)
      · exact h0
    · cases h
  · cases h
theorem elem_of {P : Program} {t e : TypeId} (h : P.underlying t = some (.slice e)) : P.elem t = e := by simp [Program.elem, h]

theorem map_one {X : Array Operand} {f : Operand → Value} {m : Value} (h : X.toList.map f = [m]) : X.map f = #[m] := by apply Array.ext'; simpa using h
theorem map_two {X : Array Operand} {f : Operand → Value} {m n : Value} (h : X.toList.map f = [m, n]) : X.map f = #[m, n] := by apply Array.ext'; simpa using h
theorem arr_one {T : Array TypeId} (h : T.size = 1) : T = #[T.getD 0 0] := by
  apply Array.ext
  · simpa using h
  · intro i h1 h2
    have : i = 0 := by omega
    subst this; simp [Array.getD, h1]

theorem g_lenS {o : Oper} {X : Array Operand} {T : Array TypeId} (ho : o.op = .call { callee := .builtin .len, args := X, argTypes := T }) (hT : T.size = 1) (hS : isStr K.P (T.getD 0 0) = true)
    {vs : List AV} {v : AV} (hr : RelL K F β vs (X.toList.map a.eval)) (e : evalP .lenS vs = some v) : Gives K F β w a o v := by
  match vs, e, hr with
  | [p], e, hr =>
    cases p <;> first | (simp [evalP] at e; done) | skip
    rename_i b
    simp only [evalP] at e
    injection e with e; subst e
    obtain ⟨m, hm, h⟩ := hr.one'
    have := h.str_inv
    subst this
    refine Gives.same (m := .int .i64 b.length) ?_ (.int _ _)
    rw [arr_one hT] at ho
    have hl := run_len_string (P := K.P) w (T.getD 0 0) o.type ⟨b.toArray⟩ (isStr_u hS)
    simp only [execOp, ho, resolve, invoke, builtin, Sem.run_bind, Sem.run_pure, Result.andThen_ok, map_one hm, hl, goInt]
    rfl
  | [], e, _ => simp [evalP] at e
  | _ :: _ :: _, e, _ => simp [evalP] at e
theorem g_lenL {o : Oper} {X : Array Operand} {T : Array TypeId} (ho : o.op = .call { callee := .builtin .len, args := X, argTypes := T }) (hT : T.size = 1) (hS : isSl K.P (T.getD 0 0) = true)
    {vs : List AV} {v : AV} (hr : RelL K F β vs (X.toList.map a.eval)) (e : evalP .lenL vs = some v) : Gives K F β w a o v := by
  obtain ⟨el, hu⟩ := isSl_u hS
  have key : ∀ (ad : Option Addr) (n c : Nat), X.toList.map a.eval = [.slice ad n c] → Gives K F β w a o (.int .i64 n) := by
    intro ad n c hm
    refine Gives.same (m := .int .i64 n) ?_ (.int _ _)
    rw [arr_one hT] at ho
    have hl := run_len_slice (P := K.P) w (T.getD 0 0) o.type ad n c (by rw [elem_of hu]; exact hu)
    simp only [execOp, ho, resolve, invoke, builtin, Sem.run_bind, Sem.run_pure, Result.andThen_ok, map_one hm, hl, goInt]
  match vs, e, hr with
  | [p], e, hr =>
    cases p <;> first | (simp [evalP] at e; done) | skip
    · rename_i b
      simp only [evalP] at e
      injection e with e; subst e
      obtain ⟨m, hm, h⟩ := hr.one'
      cases h
      · exact key none 0 0 hm
      · exact key _ 0 _ hm
      · rename_i k off cap hcap he
        have := key _ _ _ hm
        simpa using this
    · simp only [evalP] at e
      injection e with e; subst e
      obtain ⟨m, hm, h⟩ := hr.one'
      cases h
      exact key _ _ _ hm
  | [], e, _ => simp [evalP] at e
  | _ :: _ :: _, e, _ => simp [evalP] at e
theorem g_min {o : Oper} {X : Array Operand} {T : Array TypeId} (ho : o.op = .call { callee := .builtin .min, args := X, argTypes := T })
    {vs : List AV} {v : AV} (hr : RelL K F β vs (X.toList.map a.eval)) (e : evalP .min vs = some v) : Gives K F β w a o v := by
  match vs, e, hr with
  | [p, q], e, hr =>
    cases p <;> cases q <;> first | (simp [evalP] at e; done) | skip
    simp only [evalP] at e
    split at e <;> try (cases e; done)
    rename_i hk
    subst hk
    injection e with e; subst e
    obtain ⟨m, n, hm, h1, h2⟩ := hr.two'
    have := h1.int_inv; subst this
    have := h2.int_inv; subst this
    refine Gives.same ?_ (.int _ _)
    simp only [execOp, ho, resolve, invoke, builtin, Sem.run_bind, Sem.run_pure, Result.andThen_ok, map_two hm, run_min_int2]
  | [], e, _ => simp [evalP] at e
  | [_], e, _ => simp [evalP] at e
  | _ :: _ :: _ :: _, e, _ => simp [evalP] at e
theorem g_max {o : Oper} {X : Array Operand} {T : Array TypeId} (ho : o.op = .call { callee := .builtin .max, args := X, argTypes := T })
    {vs : List AV} {v : AV} (hr : RelL K F β vs (X.toList.map a.eval)) (e : evalP .max vs = some v) : Gives K F β w a o v := by
  match vs, e, hr with
  | [p, q], e, hr =>
    cases p <;> cases q <;> first | (simp [evalP] at e; done) | skip
    simp only [evalP] at e
    split at e <;> try (cases e; done)
    rename_i hk
    subst hk
    injection e with e; subst e
    obtain ⟨m, n, hm, h1, h2⟩ := hr.two'
    have := h1.int_inv; subst this
    have := h2.int_inv; subst this
    refine Gives.same ?_ (.int _ _)
    simp only [execOp, ho, resolve, invoke, builtin, Sem.run_bind, Sem.run_pure, Result.andThen_ok, map_two hm, run_max_int2]
  | [], e, _ => simp [evalP] at e
  | [_], e, _ => simp [evalP] at e
  | _ :: _ :: _ :: _, e, _ => simp [evalP] at e

/-! ### Indexes -/
theorem RelE.get {sz k off : Nat} {xs : List AV} (h : RelE K F β sz k off xs) : ∀ (i : Nat) (x : AV), xs[i]? = some x → ∃ m, Rel K F β x m ∧ m.cells.size = sz ∧ ∀ j c, m.cells[j]? = some c → F k (off + i * sz + j) = some c := by
  induction xs generalizing off with
  | nil => intro i x e; simp at e
  | cons y ys ih =>
    cases h with
    | cons _ _ _ _ _ m hm hs hone hc hr =>
      intro i x e
      cases i with
      | zero => simp at e; subst e; exact ⟨m, hm, hs, fun j c hj => by simpa using hc j c hj⟩
      | succ i =>
        obtain ⟨m', h1, h2, h3⟩ := ih hr i x (by simpa using e)
        refine ⟨m', h1, h2, fun j c hj => ?_⟩
        have := h3 j c hj
        have e1 : off + (i + 1) * sz + j = off + sz + i * sz + j := by rw [Nat.add_mul]; omega
        rw [e1]; exact this
theorem g_idxAddr {o : Oper} {X I : Operand} {t : TypeId} {sz : Nat} (ho : o.op = .indexAddr t X I) (hE : elemOk K.P t sz = true)
    {vs : List AV} {v : AV} (hr : RelL K F β vs [a.eval X, a.eval I]) (e : evalP (.idxAddr sz) vs = some v) : Gives K F β w a o v := by
  obtain ⟨el, inf, hu, hi, hsz, hpos⟩ := elemOk_u hE
  obtain ⟨p, q, rfl, h1, h2⟩ := hr.two
  have run : ∀ (k off len cap : Nat) (ik : IntKind) (n : Int), a.eval X = .slice (some ⟨k, off, none⟩) len cap → a.eval I = .int ik n → 0 ≤ n → n < len →
      (execOp a.eval o).run K.P w = .ok (.value (.pointer (some ⟨k, off + n.toNat * sz, none⟩))) w := by
    intro k off len cap ik n hX hI h0 hl
    have := run_indexAt_slice (P := K.P) w t ⟨k, off, none⟩ len cap ik n (by rw [elem_of hu]; exact hu)
    rw [if_pos ⟨h0, hl⟩, elem_of hu] at this
    simp only [sizeOf, typeInfo, Sem.run_bind, run_program, Result.andThen_ok, hi, Sem.run_pure, addr_add, hsz] at this
    simp only [execOp, ho, hX, hI, Sem.run_bind, this, Result.andThen_ok, Sem.run_pure]
  cases p <;> first | (simp [evalP] at e; done) | skip
  · rename_i nl s xs
    cases q <;> first | (simp [evalP] at e; done) | skip
    rename_i ik n
    simp only [evalP] at e
    split at e <;> try (cases e; done)
    rename_i x hb hd hx
    injection e with e; subst e
    have hb := (beq_true.1 hb).symm
    subst hb
    have h0 : 0 ≤ n := by simpa using hd
    have hI := h2.int_inv
    have hlt : n.toNat < xs.length := (List.getElem?_eq_some_iff.1 hx).1
    generalize hX : a.eval X = mX at h1
    cases h1 with
    | lnil => simp at hx
    | l0 => simp at hx
    | list _ y ys k off cap hcap he =>
      obtain ⟨m, hm, hs, hc⟩ := he.get _ _ hx
      refine Gives.same (run k off (ys.length + 1) cap ik n hX hI h0 (by simp at hlt; omega)) ?_
      exact .ro x 0 m k (off + n.toNat * sz) hm hc
  · rename_i b g off len s
    cases q <;> first | (simp [evalP] at e; done) | skip
    rename_i ik n
    simp only [evalP] at e
    split at e <;> try (cases e; done)
    rename_i hb hd
    injection e with e; subst e
    have hb := (beq_true.1 hb).symm
    subst hb
    simp only [inRange, Bool.and_eq_true, decide_eq_true_eq] at hd
    have hI := h2.int_inv
    generalize hX : a.eval X = mX at h1
    cases h1 with
    | aref _ _ _ _ _ cap g0 k0 k hbm hg hm hc =>
      exact Gives.same (run k off len cap ik n hX hI hd.1 hd.2) (.ptr b g _ g0 k0 k hbm hg hm)
theorem g_idxStr {o : Oper} {X I : Operand} {t : TypeId} (ho : o.op = .index t X I) (hS : isStr K.P t = true)
    {vs : List AV} {v : AV} (hr : RelL K F β vs [a.eval X, a.eval I]) (e : evalP .idxStr vs = some v) : Gives K F β w a o v := by
  obtain ⟨p, q, rfl, h1, h2⟩ := hr.two
  cases p <;> first | (simp [evalP] at e; done) | skip
  rename_i b
  cases q <;> first | (simp [evalP] at e; done) | skip
  rename_i ik n
  simp only [evalP] at e
  split at e <;> try (cases e; done)
  rename_i c hd hx
  injection e with e; subst e
  have h0 : 0 ≤ n := by simpa using hd
  have hlt : n.toNat < b.length := (List.getElem?_eq_some_iff.1 hx).1
  have hv : b[n.toNat] = c := (List.getElem?_eq_some_iff.1 hx).2
  have := run_index_string (P := K.P) w t ⟨b.toArray⟩ ik n (isStr_u hS)
  rw [dif_pos ⟨h0, by simp only [ByteArray.size, List.size_toArray]; omega⟩] at this
  refine Gives.same (m := .int .u8 c.toNat) ?_ (.int _ _)
  simp only [execOp, ho, h1.str_inv, h2.int_inv, Sem.run_bind, this, Result.andThen_ok, Sem.run_pure]
  congr 3
  simp only [← hv]
  rfl
theorem g_idxArr {o : Oper} {X I : Operand} {t : TypeId} {len sz : Nat} {ag : Bool} (ho : o.op = .index t X I) (hA : arrOk K.P t len sz ag = true)
    {vs : List AV} {v : AV} (hr : RelL K F β vs [a.eval X, a.eval I]) (e : evalP (.idxArr len sz ag) vs = some v) : Gives K F β w a o v := by
  obtain ⟨p, q, rfl, h1, h2⟩ := hr.two
  cases q <;> first | (simp [evalP] at e; done) | skip
  rename_i ik n
  simp only [evalP] at e
  split at e <;> try (cases e; done)
  rename_i hd
  simp only [inRange, Bool.and_eq_true, decide_eq_true_eq] at hd
  unfold arrOk at hA
  split at hA <;> try (cases hA; done)
  rename_i l el hu
  simp only [Bool.and_eq_true] at hA
  have hl := beq_true.1 hA.1
  subst hl
  obtain ⟨hp1, hp2⟩ := h1.part e
  have hI := h2.int_inv
  cases p <;> first | (simp [Abs.part] at e; done) | skip
  generalize hX : a.eval X = mX at *
  cases h1 with
  | agg cs ms hl _ =>
    refine Gives.same ?_ hp1
    have hrun := part_run (K := K) (off := n.toNat * sz) hA.2 ms w (by simpa [Value.cells] using hp2)
    simp only [execOp, ho, hX, hI, Instr.index, asIntOf, Sem.run_bind, Sem.run_pure, Result.andThen_ok, run_underlying hu, Sem.run_ite, if_pos hd, tyOk_size hA.2, hrun, Value.cells]

/-! ### Slices -/
theorem cut_some {α : Type} {s r : List α} {lo hi : Option Int} (h : cut s lo hi = some r) :
    0 ≤ lo.getD 0 ∧ lo.getD 0 ≤ hi.getD s.length ∧ hi.getD s.length ≤ s.length ∧ r = (s.take (hi.getD s.length).toNat).drop (lo.getD 0).toNat := by
  unfold cut at h
  simp only at h
  split at h
  · rename_i hc
    injection h with h
    exact ⟨hc.1, hc.2.1, hc.2.2, h.symm⟩
  · cases h
def BdIs (a : Act) (l : Option Int) (L : Option Operand) : Prop := match l, L with | some n, some y => ∃ k, a.eval y = .int k n | none, none => True | _, _ => False
/-- the bounds as the machine has them -/
theorem bounds_rel {lo hi : Bool} {is : List AV} {l h : Option Int} {L H : Option Operand} (hb : bounds lo hi is = some (l, h)) (hL : L.isSome = lo) (hH : H.isSome = hi)
    (hr : RelL K F β is ((optL L ++ optL H).map a.eval)) :
    BdIs a l L ∧ BdIs a h H := by
  unfold bounds at hb
  split at hb <;> try (cases hb; done)
  all_goals
    injection hb with hb; injection hb with e1 e2; subst e1; subst e2
    cases L <;> first | (cases hL; done) | skip
    all_goals
      cases H <;> first | (cases hH; done) | skip
      all_goals
        simp only [optL, List.append_nil, List.nil_append, List.map_cons, List.map_nil, List.cons_append] at hr
        first
          | (obtain ⟨m, n, hm, h1, h2⟩ := hr.two'
             injection hm with e1 e2; injection e2 with e2 _
             exact ⟨⟨_, e1.trans h1.int_inv⟩, ⟨_, e2.trans h2.int_inv⟩⟩)
          | (obtain ⟨m, hm, h1⟩ := hr.one'
             injection hm with e1 _
             first | exact ⟨⟨_, e1.trans h1.int_inv⟩, trivial⟩ | exact ⟨trivial, ⟨_, e1.trans h1.int_inv⟩⟩)
          | exact ⟨trivial, trivial⟩
theorem run_bounds {P : Program} {L H : Option Operand} {l h : Option Int} (isS : Bool) (len cap : Nat)
    (h1 : BdIs a l L) (h2 : BdIs a h H)
    (b0 : 0 ≤ l.getD 0) (b1 : l.getD 0 ≤ h.getD len) (b2 : h.getD len ≤ len) (hc : len ≤ cap) :
    (Instr.sliceBounds isS len cap (L.map a.eval) (H.map a.eval) none).run P w = .ok ((l.getD 0).toNat, (h.getD len).toNat, cap) w := by
  cases l <;> cases L <;> first | (cases h1; done) | skip
  all_goals
    cases h <;> cases H <;> first | (cases h2; done) | skip
    all_goals
      simp only [Option.getD_none, Option.getD_some] at b0 b1 b2 ⊢
  · simp [Instr.sliceBounds]
  · obtain ⟨k2, e2⟩ := h2
    simp [Instr.sliceBounds, e2, run_sliceBound w k2 _ cap _ (by omega) (by omega)]
  · obtain ⟨k1, e1⟩ := h1
    simp [Instr.sliceBounds, e1, run_sliceBound w k1 _ len _ (by omega) (by omega)]
  · obtain ⟨k1, e1⟩ := h1
    obtain ⟨k2, e2⟩ := h2
    rename_i l y h z
    have eh : (h.toNat : Int) = h := Int.toNat_of_nonneg (by omega)
    simp [Instr.sliceBounds, e1, e2, run_sliceBound w k2 h cap _ (by omega) (by omega), run_sliceBound w k1 l h.toNat _ (by omega) (by omega)]
theorem g_sliceS {o : Oper} {X : Operand} {L H : Option Operand} {t : TypeId} {lo hi : Bool} (ho : o.op = .slice t X L H none) (hS : isStr K.P t = true) (hL : L.isSome = lo) (hH : H.isSome = hi)
    {vs : List AV} {v : AV} (hr : RelL K F β vs ((X :: (optL L ++ optL H)).map a.eval)) (e : evalP (.sliceS lo hi) vs = some v) : Gives K F β w a o v := by
  simp only [List.map_cons] at hr
  cases hr with
  | cons p is m ms h1 hs =>
    simp only [evalP] at e
    split at e <;> try (cases e; done)
    rename_i s l h hb
    split at e <;> try (cases e; done)
    rename_i r hcut
    injection e with e; subst e
    obtain ⟨b0, b1, b2, rfl⟩ := cut_some hcut
    obtain ⟨k1, k2⟩ := bounds_rel hb hL hH hs
    have hX := h1.str_inv
    have hu := isStr_u hS
    have hrun := run_bounds (w := w) (P := K.P) (a := a) (L := L) (H := H) false s.length s.length k1 k2 b0 b1 b2 (Nat.le_refl _)
    refine Gives.same (m := .string ⟨((s.take (h.getD s.length).toNat).drop (l.getD 0).toNat).toArray⟩) ?_ (.str _)
    have hsz : (⟨s.toArray⟩ : ByteArray).size = s.length := by simp [ByteArray.size]
    simp only [execOp, ho, hX, Instr.sliceAt, Instr.slice, Sem.run_bind, run_underlying hu, Result.andThen_ok, hsz, Option.map_none, hrun, Option.isSome_none, Bool.false_eq_true, if_false, Sem.run_pure]
    congr 3
    apply ByteArray.ext
    simp [ByteArray.data_extract, List.extract_eq_take_drop, List.drop_take]
theorem RelE.drop {sz k off : Nat} {xs : List AV} (h : RelE K F β sz k off xs) : ∀ n, n ≤ xs.length → RelE K F β sz k (off + n * sz) (xs.drop n) := by
  induction xs generalizing off with
  | nil => intro n hn; simp at hn; subst hn; simpa using RelE.nil sz k off
  | cons y ys ih =>
    intro n hn
    cases n with
    | zero => simpa using h
    | succ n =>
      cases h with
      | cons _ _ _ _ _ m hm hs hone hc hr =>
        have := ih hr n (by simpa using hn)
        have e1 : off + (n + 1) * sz = off + sz + n * sz := by rw [Nat.add_mul]; omega
        rw [e1]; simpa using this
theorem RelE.take {sz k off : Nat} {xs : List AV} (h : RelE K F β sz k off xs) : ∀ n, RelE K F β sz k off (xs.take n) := by
  induction xs generalizing off with
  | nil => intro n; simpa using RelE.nil sz k off
  | cons y ys ih =>
    intro n
    cases n with
    | zero => exact RelE.nil _ _ _
    | succ n =>
      cases h with
      | cons _ _ _ _ _ m hm hs hone hc hr => exact .cons _ _ _ _ _ m hm hs hone hc (ih hr n)
theorem Rel.list_mk {sz k off cap : Nat} {xs : List AV} (he : RelE K F β sz k off xs) (hc : xs.length ≤ cap) (ad : Option Addr) (h : xs ≠ [] → ad = some ⟨k, off, none⟩) : Rel K F β (.list false sz xs) (.slice ad xs.length cap) := by
  cases xs with
  | nil => exact .l0 _ _ _
  | cons x xs => rw [h (by simp)]; exact .list sz x xs k off cap hc he
theorem g_sliceL {o : Oper} {X : Operand} {L H : Option Operand} {t : TypeId} {sz : Nat} {lo hi : Bool} (ho : o.op = .slice t X L H none) (hE : elemOk K.P t sz = true) (hL : L.isSome = lo) (hH : H.isSome = hi)
    {vs : List AV} {v : AV} (hr : RelL K F β vs ((X :: (optL L ++ optL H)).map a.eval)) (e : evalP (.sliceL sz lo hi) vs = some v) : Gives K F β w a o v := by
  obtain ⟨el, inf, hu, hi', hsz, hpos⟩ := elemOk_u hE
  simp only [List.map_cons] at hr
  generalize hX : a.eval X = mX at hr
  cases hr with
  | cons p is m ms h1 hs =>
    simp only [evalP] at e
    split at e <;> try (cases e; done)
    rename_i nl s xs l h hb
    split at e <;> try (cases e; done)
    rename_i r hbq hcut
    injection e with e; subst e
    have hbq := (beq_true.1 hbq).symm
    subst hbq
    obtain ⟨b0, b1, b2, rfl⟩ := cut_some hcut
    obtain ⟨k1, k2⟩ := bounds_rel hb hL hH hs
    have fin : ∀ (ad : Option Addr) (cap : Nat), mX = .slice ad xs.length cap → xs.length ≤ cap →
        (execOp a.eval o).run K.P w = .ok (.value (.slice (if cap = (l.getD 0).toNat then ad else ad.map (·.add ((l.getD 0).toNat * sz))) ((h.getD xs.length).toNat - (l.getD 0).toNat) (cap - (l.getD 0).toNat))) w := by
      intro ad cap hm hc
      subst hm
      have hrun := run_bounds (w := w) (P := K.P) (a := a) (L := L) (H := H) true xs.length cap k1 k2 b0 b1 b2 hc
      simp only [execOp, ho, hX, Instr.sliceAt, Instr.slice, Sem.run_bind, run_underlying hu, Result.andThen_ok, Option.map_none, hrun, Sem.run_pure, sizeOf, typeInfo, run_program, hi', hsz]
    have hlen : ((xs.take (h.getD xs.length).toNat).drop (l.getD 0).toNat).length = (h.getD xs.length).toNat - (l.getD 0).toNat := by
      simp only [List.length_drop, List.length_take]; omega
    cases h1 with
    | lnil =>
      refine Gives.same (fin none 0 rfl (by simp)) ?_
      rw [← hlen]
      have : ((([] : List AV).take (h.getD ([] : List AV).length).toNat).drop (l.getD 0).toNat) = [] := by simp
      rw [this]
      exact .l0 _ _ _
    | l0 _ ad cap =>
      refine Gives.same (fin ad cap rfl (by simp)) ?_
      rw [← hlen]
      have : ((([] : List AV).take (h.getD ([] : List AV).length).toNat).drop (l.getD 0).toNat) = [] := by simp
      rw [this]
      exact .l0 _ _ _
    | list _ x xs k off cap hcap he =>
      refine Gives.same (fin _ cap rfl hcap) ?_
      rw [← hlen]
      have hle : (l.getD 0).toNat ≤ ((x :: xs).take (h.getD (x :: xs).length).toNat).length := by simp only [List.length_take]; omega
      refine Rel.list_mk (k := k) (off := off + (l.getD 0).toNat * sz) ((he.take _).drop _ hle) (by rw [hlen]; simp only [List.length_cons] at *; omega) _ (fun hne => ?_)
      have h3 : (l.getD 0).toNat < (h.getD (x :: xs).length).toNat := by
        rcases Nat.lt_or_ge (l.getD 0).toNat (h.getD (x :: xs).length).toNat with h' | h'
        · exact h'
        · exact absurd (List.eq_nil_of_length_eq_zero (by rw [hlen]; omega)) hne
      rw [if_neg (by simp only [List.length_cons] at *; omega)]
      simp [addr_add]
end Go.Abs
