/- More operations without effect. -/
import Derived.Test.YtiefbkjoldcebaaDoorXxPure2
namespace Go.Abs
variable {K : Seat} {F : FZ} {β : BM} {ρ : Roles} {w : World} {s : S} {a : Act}

theorem g_extract {o : Oper} {X : Operand} {i : Nat} (ho : o.op = .extract X i) {vs : List AV} {v : AV} (hr : RelL K F β vs [a.eval X]) (e : evalP (.extract i) vs = some v) : Gives K F β w a o v := by
  obtain ⟨p, rfl, h⟩ := hr.one
  cases p <;> first | (simp [evalP] at e; done) | skip
  rename_i us
  simp only [evalP] at e
  generalize hX : a.eval X = mX at h
  cases h with
  | tuple _ ms hl =>
    obtain ⟨m, hm, hv⟩ := hl.get i v e
    refine Gives.same (m := m) ?_ hv
    simp [execOp, ho, hX, Instr.extract, hm]
theorem g_nilchk {o : Oper} {X : Operand} (ho : o.op = .nilCheck X) {vs : List AV} {v : AV} (hr : RelL K F β vs [a.eval X]) (e : evalP .nilchk vs = some v) : Gives K F β w a o v := by
  obtain ⟨p, rfl, h⟩ := hr.one
  generalize hX : a.eval X = mX at h
  cases p <;> first | (simp [evalP] at e; done) | skip
  all_goals
    simp only [evalP] at e
    injection e with e; subst e
    refine Gives.same (m := mX) ?_ h
    cases h
    simp only [execOp, ho, hX, Sem.run_pure]
theorem g_boxro {o : Oper} {X : Operand} {t : TypeId} {n : Nat} {ag : Bool} (ho : o.op = .box t X) (hF : ∀ k o x, F k o = some x → w.cell? ⟨k, o, none⟩ = some x)
    {vs : List AV} {v : AV} (hr : RelL K F β vs [a.eval X]) (e : evalP (.boxro n ag) vs = some v) : Gives K F β w a o v := by
  obtain ⟨p, rfl, h⟩ := hr.one
  simp only [evalP] at e
  cases hs : shape n ag p with
  | none => rw [hs] at e; cases e
  | some x =>
    rw [hs] at e
    injection e with e; subst e
    have := shape_eq hs
    subst this
    have g := Grow.alloc hF (a.eval X).cells t
    refine ⟨.pointer (some ⟨w.heap.size, 0, none⟩), w.alloc (.cells (a.eval X).cells t), _, ?_, g, ?_⟩
    · simp [execOp, ho, Instr.box, newVar, newRow]
    · have := Rel.ro (K := K) (F := F.add w.heap.size (a.eval X).cells) (β := β) x 0 (a.eval X) w.heap.size 0 (h.mono g.fz (BLe.refl _)) (fun j c hj => by simp [FZ.add]; exact hj)
      exact this

/-! ### Numbers and strings -/
theorem run_guard_int (op : BinOp) (t : TypeId) (x y : Operand) (k j : IntKind) (m n : Int) (w : World) (P : Program) : (eqGuard op t x y (.int k m) (.int j n)).run P w = .ok () w := by
  unfold eqGuard; cases op <;> rfl
theorem run_guard_str (op : BinOp) (t : TypeId) (x y : Operand) (m n : ByteArray) (w : World) (P : Program) : (eqGuard op t x y (.string m) (.string n)).run P w = .ok () w := by
  unfold eqGuard; cases op <;> rfl
theorem bytesLt_eq : ∀ (x y : List UInt8), Op.bytesLess x y = bytesLt x y
  | [], [] => rfl
  | [], _ :: _ => rfl
  | _ :: _, [] => rfl
  | a :: x, b :: y => by simp only [Op.bytesLess, bytesLt, bytesLt_eq x y]
theorem g_bin {o : Oper} {X Y : Operand} {t u : TypeId} {op : BinOp} (ho : o.op = .binOp op t X Y u) {vs : List AV} {v : AV} (hr : RelL K F β vs [a.eval X, a.eval Y]) (e : evalP (.bin op) vs = some v) : Gives K F β w a o v := by
  obtain ⟨p, q, rfl, h1, h2⟩ := hr.two
  simp only [evalP] at e
  cases p <;> cases q <;> first | (simp [evalBin] at e; done) | skip
  · rename_i k m j n
    have e1 := h1.int_inv
    have e2 := h2.int_inv
    have key : ∀ v', (binOp op t (.int k m) (.int j n)).run K.P w = .ok v' w → (execOp a.eval o).run K.P w = .ok (.value v') w := by
      intro v' hv
      simp only [execOp, ho, e1, e2, Sem.run_bind, run_guard_int, Result.andThen_ok, hv, Sem.run_pure]
    cases op <;> simp only [evalBin] at e
    case shl =>
      split at e
      · cases e
      · injection e with e; subst e
        exact Gives.same (key _ (by simp [binOp, Op.shift, *])) (.int _ _)
    case shr =>
      split at e
      · cases e
      · injection e with e; subst e
        exact Gives.same (key _ (by simp [binOp, Op.shift, *])) (.int _ _)
    all_goals
      split at e <;> try (cases e; done)
      rename_i hkj
      subst hkj
      simp only [evalInt] at e
    all_goals first
      | (split at e
         · cases e
         · injection e with e; subst e
           exact Gives.same (key _ (by simp [binOp, Op.intDiv, *])) (.int _ _))
      | (injection e with e; subst e
         first
           | (refine Gives.same (key _ ?_) (.int _ _); first
               | (rw [binOp_and]; rfl) | (rw [binOp_or]; rfl) | (rw [binOp_xor]; rfl) | (rw [binOp_andNot]; rfl)
               | (simp only [binOp, Op.intArith, ne_eq, not_true, if_false]; rfl))
           | (refine Gives.same (key _ ?_) (.bool _); simp only [binOp, Op.intCmp, ne_eq, not_true, if_false]; rfl))
  · rename_i m n
    have e1 := h1.str_inv
    have e2 := h2.str_inv
    have key : ∀ v', (Op.stringOp op ⟨m.toArray⟩ ⟨n.toArray⟩).run K.P w = .ok v' w → (execOp a.eval o).run K.P w = .ok (.value v') w := by
      intro v' hv
      have : binOp op t (.string ⟨m.toArray⟩) (.string ⟨n.toArray⟩) = Op.stringOp op ⟨m.toArray⟩ ⟨n.toArray⟩ := by cases op <;> rfl
      simp only [execOp, ho, e1, e2, Sem.run_bind, run_guard_str, Result.andThen_ok, this, hv, Sem.run_pure]
    cases op <;> simp only [evalBin, evalStr] at e <;> try (cases e; done)
    case add =>
      split at e
      · rename_i hle
        injection e with e; subst e
        have hsz : ¬ (((⟨m.toArray⟩ : ByteArray).size + (⟨n.toArray⟩ : ByteArray).size : Nat) : Int) > IntKind.i64.max := by
          have : IntKind.i64.max = 9223372036854775807 := by decide
          rw [this]
          simp only [ByteArray.size, List.size_toArray]
          unfold maxInt at hle
          omega
        have happ : (⟨m.toArray⟩ : ByteArray) ++ ⟨n.toArray⟩ = ⟨(m ++ n).toArray⟩ := by
          apply ByteArray.ext
          simp [ByteArray.data_append]
        refine Gives.same (key (.string ⟨(m ++ n).toArray⟩) ?_) (.str _)
        simp only [Op.stringOp, if_neg hsz, Sem.run_pure, happ]
      · cases e
    all_goals
      injection e with e; subst e
      exact Gives.same (key _ (by simp [Op.stringOp, bytesLt_eq])) (.bool _)
section
variable {P : Program} (d : Nat) (t : TypeId) (w : World)
theorem run_eq_i {ms : Array (String × TypeId)} (h : P.underlying t = some (.interface ms)) : (Op.equalIn (d + 1) t .nilIface .nilIface).run P w = .ok true w := by simp [Op.equalIn, run_underlying h]
theorem run_eq_il {ms : Array (String × TypeId)} (h : P.underlying t = some (.interface ms)) (u : TypeId) (x : Value) : (Op.equalIn (d + 1) t (.iface u x) .nilIface).run P w = .ok false w := by simp [Op.equalIn, run_underlying h]
theorem run_eq_ir {ms : Array (String × TypeId)} (h : P.underlying t = some (.interface ms)) (u : TypeId) (x : Value) : (Op.equalIn (d + 1) t .nilIface (.iface u x)).run P w = .ok false w := by simp [Op.equalIn, run_underlying h]
theorem run_eq_p {e : TypeId} (h : P.underlying t = some (.pointer e)) : (Op.equalIn (d + 1) t (.pointer none) (.pointer none)).run P w = .ok true w := by simp [Op.equalIn, run_underlying h]
theorem run_eq_pl {e : TypeId} (h : P.underlying t = some (.pointer e)) (x : Addr) : (Op.equalIn (d + 1) t (.pointer (some x)) (.pointer none)).run P w = .ok false w := by simp [Op.equalIn, run_underlying h]
theorem run_eq_pr {e : TypeId} (h : P.underlying t = some (.pointer e)) (x : Addr) : (Op.equalIn (d + 1) t (.pointer none) (.pointer (some x))).run P w = .ok false w := by simp [Op.equalIn, run_underlying h]
end
theorem g_eq {o : Oper} {X Y : Operand} {t u : TypeId} {op : BinOp} {neg : Bool} {k : EqK} (ho : o.op = .binOp op t X Y u) (hop : eqOp op neg = true) (hk : eqKOk K.P t X Y k = true)
    {vs : List AV} {v : AV} (hr : RelL K F β vs [a.eval X, a.eval Y]) (e : evalP (.eq neg k) vs = some v) : Gives K F β w a o v := by
  obtain ⟨p, q, rfl, h1, h2⟩ := hr.two
  simp only [evalP] at e
  cases hb : evalEq k p q with
  | none => rw [hb] at e; cases e
  | some b =>
    rw [hb] at e
    injection e with e; subst e
    have hop2 : op = .eql ∧ neg = false ∨ op = .neq ∧ neg = true := by
      cases op <;> simp only [eqOp] at hop <;> first | (cases hop; done) | skip
      · exact .inl ⟨rfl, by simpa using hop⟩
      · exact .inr ⟨rfl, hop⟩
    have key : ∀ (x y : Value), a.eval X = x → a.eval Y = y → (∀ i s, x ≠ .int i s) → (∀ s, x ≠ .string s) → (∀ i s, x ≠ .float i s) → (∀ i s r, x ≠ .complex i s r) →
        (eqGuard op t X Y x y).run K.P w = .ok () w → (Op.equal t x y).run K.P w = .ok b w → Gives K F β w a o (.bool (negIf neg b)) := by
      intro x y ex ey n1 n2 n3 n4 hg he
      refine Gives.same (m := .bool (negIf neg b)) ?_ (.bool _)
      have hbin : (binOp op t x y).run K.P w = .ok (.bool (negIf neg b)) w := by
        rcases hop2 with ⟨rfl, rfl⟩ | ⟨rfl, rfl⟩
        · have : binOp .eql t x y = (do pure (.bool (← Op.equal t x y))) := by
            cases x <;> first | rfl | (exact absurd rfl (n1 _ _)) | (exact absurd rfl (n2 _)) | (exact absurd rfl (n3 _ _)) | (exact absurd rfl (n4 _ _ _))
          simp [this, he, negIf]
        · have : binOp .neq t x y = (do pure (.bool (!(← Op.equal t x y)))) := by
            cases x <;> first | rfl | (exact absurd rfl (n1 _ _)) | (exact absurd rfl (n2 _)) | (exact absurd rfl (n3 _ _)) | (exact absurd rfl (n4 _ _ _))
          simp [this, he, negIf]
      simp only [execOp, ho, ex, ey, Sem.run_bind, hg, Result.andThen_ok, hbin, Sem.run_pure]
    have guard : ∀ (x y : Value), (match x, y with | .nilIface, .nilIface => false | .agg _, .agg _ => false | _, _ => true) = true → (eqGuard op t X Y x y).run K.P w = .ok () w := by
      intro x y h
      rcases hop2 with ⟨rfl, _⟩ | ⟨rfl, _⟩
      · cases x <;> first | rfl | skip
        all_goals cases y <;> first | rfl | (cases h; done)
      · cases x <;> first | rfl | skip
        all_goals cases y <;> first | rfl | (cases h; done)
    cases k <;> cases p <;> first | (simp [evalEq] at hb; done) | skip
    all_goals cases q <;> first | (simp [evalEq] at hb; done) | skip
    all_goals simp only [evalEq] at hb; injection hb with hb; subst hb
    · rename_i x y
      have e1 := h1.bool_inv
      have e2 := h2.bool_inv
      have hu : K.P.underlying t = some .bool := by
        unfold eqKOk at hk; simp only at hk
        split at hk
        · assumption
        · cases hk
      exact key _ _ e1 e2 (by simp) (by simp) (by simp) (by simp) (guard _ _ rfl) (run_equal_bool w t x y hu)
    all_goals
      unfold eqKOk at hk; simp only [Bool.and_eq_true] at hk
    case i.iface.nili =>
      generalize hX : a.eval X = mX at h1
      generalize hY : a.eval Y = mY at h2
      cases h1; cases h2
      obtain ⟨hk, _⟩ := hk
      split at hk <;> try (cases hk; done)
      rename_i hu
      exact key _ _ hX hY (by simp) (by simp) (by simp) (by simp) (guard _ _ rfl) (by first | exact run_eq_i 9999 t w hu | exact run_eq_il 9999 t w hu _ _ | exact run_eq_ir 9999 t w hu _ _ | exact run_eq_p 9999 t w hu | exact run_eq_pl 9999 t w hu _ | exact run_eq_pr 9999 t w hu _)
    case i.nili.iface =>
      generalize hX : a.eval X = mX at h1
      generalize hY : a.eval Y = mY at h2
      cases h1; cases h2
      obtain ⟨hk, _⟩ := hk
      split at hk <;> try (cases hk; done)
      rename_i hu
      exact key _ _ hX hY (by simp) (by simp) (by simp) (by simp) (guard _ _ rfl) (by first | exact run_eq_i 9999 t w hu | exact run_eq_il 9999 t w hu _ _ | exact run_eq_ir 9999 t w hu _ _ | exact run_eq_p 9999 t w hu | exact run_eq_pl 9999 t w hu _ | exact run_eq_pr 9999 t w hu _)
    case i.nili.nili =>
      generalize hX : a.eval X = mX at h1
      generalize hY : a.eval Y = mY at h2
      cases h1; cases h2
      obtain ⟨hk, hc⟩ := hk
      split at hk <;> try (cases hk; done)
      rename_i hu
      refine key _ _ hX hY (by simp) (by simp) (by simp) (by simp) ?_ (by first | exact run_eq_i 9999 t w hu | exact run_eq_il 9999 t w hu _ _ | exact run_eq_ir 9999 t w hu _ _ | exact run_eq_p 9999 t w hu | exact run_eq_pl 9999 t w hu _ | exact run_eq_pr 9999 t w hu _)
      rcases hop2 with ⟨rfl, _⟩ | ⟨rfl, _⟩
      all_goals
        cases X <;> first | rfl | skip
        all_goals cases Y <;> first | rfl | (cases hc; done)
    all_goals
      generalize hX : a.eval X = mX at h1
      generalize hY : a.eval Y = mY at h2
      cases h1; cases h2
      split at hk <;> try (cases hk; done)
      rename_i hu
      exact key _ _ hX hY (by simp) (by simp) (by simp) (by simp) (guard _ _ rfl) (by first | exact run_eq_i 9999 t w hu | exact run_eq_il 9999 t w hu _ _ | exact run_eq_ir 9999 t w hu _ _ | exact run_eq_p 9999 t w hu | exact run_eq_pl 9999 t w hu _ | exact run_eq_pr 9999 t w hu _)
end Go.Abs
