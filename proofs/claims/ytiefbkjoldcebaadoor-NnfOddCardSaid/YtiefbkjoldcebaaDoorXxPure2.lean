/- The machine does what an operation without effect says. -/
import Derived.Test.YtiefbkjoldcebaaDoorXxPure
import Derived.Laws.Strings2
namespace Go.Abs
variable {K : Seat} {F : FZ} {β : BM} {ρ : Roles} {w : World} {s : S} {a : Act}

/-- an operation's run comes to a value related to v -/
def Gives (K : Seat) (F : FZ) (β : BM) (w : World) (a : Act) (o : Oper) (v : AV) : Prop :=
  ∃ m w' F', (execOp a.eval o).run K.P w = .ok (.value m) w' ∧ Grow F w F' w' ∧ Rel K F' β v m
theorem Gives.same {o : Oper} {v : AV} {m : Value} (h : (execOp a.eval o).run K.P w = .ok (.value m) w) (hr : Rel K F β v m) : Gives K F β w a o v :=
  ⟨m, w, F, h, Grow.refl _ _, hr⟩

theorem RelL.one {vs : List AV} {m : Value} (h : RelL K F β vs [m]) : ∃ v, vs = [v] ∧ Rel K F β v m := by
  cases h with | cons v _ _ _ h hs => cases hs; exact ⟨v, rfl, h⟩
theorem RelL.two {vs : List AV} {m n : Value} (h : RelL K F β vs [m, n]) : ∃ v u, vs = [v, u] ∧ Rel K F β v m ∧ Rel K F β u n := by
  cases h with | cons v _ _ _ h hs => obtain ⟨u, rfl, h'⟩ := hs.one; exact ⟨v, u, rfl, h, h'⟩
theorem RelL.three {vs : List AV} {m n p : Value} (h : RelL K F β vs [m, n, p]) : ∃ v u x, vs = [v, u, x] ∧ Rel K F β v m ∧ Rel K F β u n ∧ Rel K F β x p := by
  cases h with | cons v _ _ _ h hs => obtain ⟨u, x, rfl, h', h''⟩ := hs.two; exact ⟨v, u, x, rfl, h, h', h''⟩
theorem RelL.one' {v : AV} {ms : List Value} (h : RelL K F β [v] ms) : ∃ m, ms = [m] ∧ Rel K F β v m := by
  cases h with | cons _ _ m _ h hs => cases hs; exact ⟨m, rfl, h⟩
theorem RelL.two' {v u : AV} {ms : List Value} (h : RelL K F β [v, u] ms) : ∃ m n, ms = [m, n] ∧ Rel K F β v m ∧ Rel K F β u n := by
  cases h with | cons _ _ m _ h hs => obtain ⟨n, rfl, h'⟩ := hs.one'; exact ⟨m, n, rfl, h, h'⟩
theorem Rel.int_inv {k : IntKind} {n : Int} {m : Value} (h : Rel K F β (.int k n) m) : m = .int k n := by cases h; rfl
theorem Rel.bool_inv {b : Bool} {m : Value} (h : Rel K F β (.bool b) m) : m = .bool b := by cases h; rfl
theorem Rel.str_inv {b : List UInt8} {m : Value} (h : Rel K F β (.str b) m) : m = .string ⟨b.toArray⟩ := by cases h; rfl

theorem g_mov {o : Oper} {X : Operand} (ho : o.op = .move X ∨ o.op = .assign X) {vs : List AV} {v : AV} (hr : RelL K F β vs [a.eval X]) (e : evalP .mov vs = some v) : Gives K F β w a o v := by
  obtain ⟨u, rfl, h⟩ := hr.one
  simp only [evalP] at e
  injection e with e; subst e
  refine Gives.same ?_ h
  rcases ho with ho | ho <;> simp only [execOp, ho, Sem.run_pure]
theorem g_pick {o : Oper} {X Y Z : Operand} (ho : o.op = .pick X Y Z) {vs : List AV} {v : AV} (hr : RelL K F β vs [a.eval X, a.eval Y, a.eval Z]) (e : evalP .pick vs = some v) : Gives K F β w a o v := by
  obtain ⟨c, x, y, rfl, h1, h2, h3⟩ := hr.three
  cases c <;> first | (simp [evalP] at e; done) | skip
  rename_i b
  have hb := h1.bool_inv
  simp only [evalP] at e
  injection e with e; subst e
  cases b
  · exact Gives.same (m := a.eval Z) (by simp [execOp, ho, hb, asBool]) h3
  · exact Gives.same (m := a.eval Y) (by simp [execOp, ho, hb, asBool]) h2
theorem g_ld {o : Oper} {X : Operand} {t : TypeId} {n : Nat} {ag : Bool} (ho : o.op = .load t X) (ht : tyOk K.P t n ag = true) {vs : List AV} {v : AV} (hF : ∀ k o x, F k o = some x → w.cell? ⟨k, o, none⟩ = some x)
    (hr : RelL K F β vs [a.eval X]) (e : evalP (.ld n ag) vs = some v) : Gives K F β w a o v := by
  obtain ⟨p, rfl, h⟩ := hr.one
  cases p <;> first | (simp [evalP] at e; done) | skip
  rename_i u off
  simp only [evalP] at e
  generalize hX : a.eval X = mX at h
  cases h with
  | ro _ _ mv k base hv hc =>
    obtain ⟨h1, h2⟩ := hv.view (fun h => tyOk_one (h ▸ ht)) e
    refine Gives.same ?_ h1
    have := run_loadVar ht w k (base + off) ((mv.cells.toList.drop off).take n) (by simp; omega) (fun j c hj => by
      have := cells_part hj
      rw [Nat.add_assoc]
      exact hF _ _ _ (hc _ _ this))
    simp [execOp, ho, hX, Instr.loadAt, Instr.sureAddr, this]
theorem g_un {o : Oper} {X : Operand} {t : TypeId} {op : UnOp} (ho : o.op = .unOp op t X) {vs : List AV} {v : AV} (hr : RelL K F β vs [a.eval X]) (e : evalP (.un op) vs = some v) : Gives K F β w a o v := by
  obtain ⟨p, rfl, h⟩ := hr.one
  simp only [evalP] at e
  cases p <;> first | (simp [evalUn] at e; done) | skip
  · rename_i b
    have := h.bool_inv
    cases op <;> simp only [evalUn] at e <;> try (cases e; done)
    injection e with e; subst e
    exact Gives.same (by simp [execOp, ho, this, Op.unary]) (.bool _)
  · rename_i k n
    have := h.int_inv
    cases op <;> simp only [evalUn] at e <;> try (cases e; done)
    · injection e with e; subst e
      exact Gives.same (by simp [execOp, ho, this, Op.unary, Op.intArith]) (.int _ _)
    · injection e with e; subst e
      exact Gives.same (by simp [execOp, ho, this, Op.unary, Op.intBits]) (.int _ _)
theorem g_conv {o : Oper} {X : Operand} {src dst : TypeId} {k : IntKind} (ho : o.op = .convert src dst X) (hd : intOk K.P dst k = true) (hs : (K.P.underlying src).isSome = true) {vs : List AV} {v : AV}
    (hr : RelL K F β vs [a.eval X]) (e : evalP (.conv k) vs = some v) : Gives K F β w a o v := by
  obtain ⟨p, rfl, h⟩ := hr.one
  cases p <;> first | (simp [evalP] at e; done) | skip
  rename_i j n
  have := h.int_inv
  simp only [evalP] at e
  injection e with e; subst e
  obtain ⟨d, hs⟩ := Option.isSome_iff_exists.1 hs
  unfold intOk at hd
  cases hdu : K.P.underlying dst with
  | none => rw [hdu] at hd; cases hd
  | some dd =>
    rw [hdu] at hd
    cases dd <;> first | (cases hd; done) | skip
    rename_i j'
    have hk : k = j' := by simpa using hd
    subst hk
    exact Gives.same (by simp [execOp, ho, this, convert, run_underlying hs, run_underlying hdu, Conv.intToInt]) (.int _ _)
theorem g_convS {o : Oper} {X : Operand} {src dst : TypeId} (ho : o.op = .convert src dst X) (hd : isStr K.P dst = true) (hs : (K.P.underlying src).isSome = true) {vs : List AV} {v : AV}
    (hr : RelL K F β vs [a.eval X]) (e : evalP .convS vs = some v) : Gives K F β w a o v := by
  obtain ⟨p, rfl, h⟩ := hr.one
  cases p <;> first | (simp [evalP] at e; done) | skip
  rename_i n
  have := h.str_inv
  simp only [evalP] at e
  injection e with e; subst e
  obtain ⟨d, hs⟩ := Option.isSome_iff_exists.1 hs
  unfold isStr at hd
  cases hdu : K.P.underlying dst with
  | none => rw [hdu] at hd; cases hd
  | some dd =>
    rw [hdu] at hd
    cases dd <;> first | (cases hd; done) | skip
    exact Gives.same (by simp [execOp, ho, this, convert, run_underlying hs, run_underlying hdu]) (.str _)
theorem g_iface {o : Oper} {X : Operand} {T : TypeId} {t : Nat} (ho : o.op = .makeInterface T X) (hT : K.ψ t = T) (hi : ifcOk K.P T = true) {vs : List AV} {v : AV}
    (hr : RelL K F β vs [a.eval X]) (e : evalP (.iface t) vs = some v) : Gives K F β w a o v := by
  obtain ⟨p, rfl, h⟩ := hr.one
  simp only [evalP] at e
  injection e with e; subst e
  subst hT
  unfold ifcOk at hi
  cases hdu : K.P.underlying (K.ψ t) with
  | none => rw [hdu] at hi; cases hi
  | some dd =>
    rw [hdu] at hi
    refine Gives.same (m := .iface (K.ψ t) (a.eval X)) ?_ (.iface _ _ _ h)
    cases dd <;> first | (cases hi; done) | simp [execOp, ho, Instr.makeInterface, run_underlying hdu]
theorem g_mkfunc {o : Oper} {f n : Nat} {g : FuncId} {first cap : Array Operand} (ho : o.op = .makeFunc (.func g) first cap) (hf : K.φ f = g) (hn : first.size = n) {vs : List AV} {v : AV}
    (hr : RelL K F β vs ((first.toList ++ cap.toList).map a.eval)) (e : evalP (.mkfunc f n) vs = some v) : Gives K F β w a o v := by
  simp only [evalP] at e
  injection e with e; subst e
  subst hf
  have h1 := hr.take n
  have h2 := hr.drop n
  have hl : (first.toList.map a.eval).length = n := by simp [hn]
  rw [List.map_append, List.take_left' hl] at h1
  rw [List.map_append, List.drop_left' hl] at h2
  refine Gives.same ?_ (.func f _ _ _ _ h1 h2)
  have e1 : (first.toList.map a.eval).toArray = first.map a.eval := by apply Array.ext'; simp
  have e2 : (cap.toList.map a.eval).toArray = cap.map a.eval := by apply Array.ext'; simp
  rw [e1, e2]
  simp only [execOp, ho, Instr.makeFunc, Sem.run_bind, Sem.run_pure, Result.andThen_ok]
theorem g_fieldAddr {o : Oper} {X : Operand} {t : TypeId} {i off : Nat} (ho : o.op = .fieldAddr t X i) (hk : fieldOk K.P t i off = true) {vs : List AV} {v : AV}
    (hr : RelL K F β vs [a.eval X]) (e : evalP (.fieldAddr off) vs = some v) : Gives K F β w a o v := by
  obtain ⟨p, rfl, h⟩ := hr.one
  unfold fieldOk at hk
  cases hdu : K.P.underlying t with
  | none => rw [hdu] at hk; cases hk
  | some dd =>
    rw [hdu] at hk
    cases dd <;> first | (cases hk; done) | skip
    rename_i fs
    simp only at hk
    cases hfi : fs[i]? with
    | none => rw [hfi] at hk; cases hk
    | some fd =>
      rw [hfi] at hk
      simp only [Bool.and_eq_true] at hk
      obtain ⟨ho1, hsz⟩ := hk
      have ho1 := beq_true.1 ho1
      cases hinf : K.P.info? fd.type with
      | none => rw [hinf] at hsz; cases hsz
      | some inf =>
        rw [hinf] at hsz
        simp only at hsz
        have hsz : inf.size ≠ 0 := by
          intro h0; rw [h0] at hsz; cases hsz
        have run : ∀ ad : Addr, ad.spot = none → a.eval X = .pointer (some ad) → (Go.execOp a.eval o).run K.P w = .ok (.value (.pointer (some ⟨ad.block, ad.off + off, none⟩))) w := by
          intro ad hsp hX
          have : ad.add fd.offset = ⟨ad.block, ad.off + off, none⟩ := by rw [ho1]; cases ad; simp only at hsp; subst hsp; exact addr_add _ _ _
          simp [Go.execOp, ho, hX, Instr.fieldAt, run_underlying hdu, hfi, Instr.sureAddr, fieldPlace, sizeOf, typeInfo, hinf, hsz, this]
        cases p <;> first | (simp [evalP] at e; done) | skip
        · rename_i b g off0
          simp only [evalP] at e
          injection e with e; subst e
          generalize hX : a.eval X = mX at h
          cases h with
          | ptr _ _ _ g1 k1 k hb1 hg1 hm1 =>
            refine Gives.same (run ⟨k, off0, none⟩ rfl hX) ?_
            exact .ptr b g (off0 + off) g1 k1 k hb1 hg1 hm1
        · rename_i u off0
          simp only [evalP] at e
          injection e with e; subst e
          generalize hX : a.eval X = mX at h
          cases h with
          | ro _ _ mv k base hv hc =>
            refine Gives.same (run ⟨k, base + off0, none⟩ rfl hX) ?_
            have := Rel.ro (K := K) (F := F) (β := β) u (off0 + off) mv k base hv hc
            rw [← Nat.add_assoc] at this
            exact this
theorem part_run {t : TypeId} {n off : Nat} {ag : Bool} (ht : tyOk K.P t n ag = true) (cs : List Value) (w : World) (h : if ag then off + n ≤ cs.length else off < cs.length) :
    (Go.part t cs.toArray off).run K.P w = .ok (partM cs off n ag) w := by
  unfold Go.part
  simp only [Sem.run_bind, tyOk_agg ht, Result.andThen_ok]
  cases ag with
  | true =>
    simp only [if_true, Sem.run_bind, tyOk_size ht, Result.andThen_ok, Sem.run_pure, partM]
    congr 2
    apply Array.ext'
    simp [List.extract_eq_take_drop]
  | false =>
    simp only [Bool.false_eq_true, if_false] at h
    simp [partM, h, List.getD_eq_getElem?_getD]
theorem g_field {o : Oper} {X : Operand} {t : TypeId} {i off n : Nat} {ag : Bool} (ho : o.op = .field t X i) (hk : fieldTy K.P t i off n ag = true) {vs : List AV} {v : AV}
    (hr : RelL K F β vs [a.eval X]) (e : evalP (.field off n ag) vs = some v) : Gives K F β w a o v := by
  obtain ⟨p, rfl, h⟩ := hr.one
  simp only [evalP] at e
  obtain ⟨h1, h2⟩ := h.part e
  unfold fieldTy at hk
  cases hdu : K.P.underlying t with
  | none => rw [hdu] at hk; cases hk
  | some dd =>
    rw [hdu] at hk
    cases dd <;> first | (cases hk; done) | skip
    rename_i fs
    simp only at hk
    cases hfi : fs[i]? with
    | none => rw [hfi] at hk; cases hk
    | some fd =>
      rw [hfi] at hk
      simp only [Bool.and_eq_true] at hk
      have ho1 := beq_true.1 hk.1
      cases p <;> first | (simp [Abs.part] at e; done) | skip
      generalize hX : a.eval X = mX at *
      cases h with
      | agg cs ms hl _ =>
        refine Gives.same ?_ h1
        have := part_run (K := K) hk.2 ms w (by simpa [Value.cells] using h2)
        simp [Go.execOp, ho, hX, Instr.field, run_underlying hdu, hfi, asAgg, ho1, this, Value.cells]
end Go.Abs
