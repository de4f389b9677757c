/- Operations without effect: which operation of the machine's an IR operation stands for, and that the machine does it. -/
import Derived.Test.YtiefbkjoldcebaaDoorXxSim
import Derived.Laws.Slices
import Derived.Laws.Strings
import Derived.Laws.Small
import Derived.Laws.Pointers
import Derived.Laws.Build
import Derived.ChangeKeysEq
namespace Go.Abs
variable (K : Seat)

/-! ### Operands -/
mutual
def valOk : AV → Value → Bool
  | .bool a, .bool b => a == b
  | .int k a, .int j b => k == j && a == b
  | .str s, .string b => b.data.toList == s
  | .nilp, .pointer none => true
  | .nilf, .nilFunc => true
  | .nili, .nilIface => true
  | .list _ _ [], .slice none 0 0 => true
  | .func f [] [], .func (.func g) a b => g == K.φ f && a.isEmpty && b.isEmpty
  | .agg cs, .agg ms => valOkL cs ms.toList
  | .tuple cs, .tuple ms => valsOkL cs ms.toList
  | _, _ => false
def valOkL : List AV → List Value → Bool
  | [], [] => true
  | c :: cs, m :: ms => valOk c m && m.oneCell' && valOkL cs ms
  | _, _ => false
def valsOkL : List AV → List Value → Bool
  | [], [] => true
  | c :: cs, m :: ms => valOk c m && valsOkL cs ms
  | _, _ => false
end
variable {K}
theorem str_eta (b : ByteArray) : (⟨b.data.toList.toArray⟩ : ByteArray) = b := by cases b; simp
mutual
theorem valOk_rel (F : FZ) (β : BM) : ∀ (v : AV) (m : Value), valOk K v m = true → Rel K F β v m
  | .bool a, m, h => by cases m <;> simp [valOk] at h; subst h; exact .bool _
  | .int k a, m, h => by cases m <;> simp [valOk] at h; obtain ⟨rfl, rfl⟩ := h; exact .int _ _
  | .str s, m, h => by
    cases m with
    | string b =>
      simp only [valOk, beq_iff_eq] at h
      subst h
      have := Rel.str (K := K) (F := F) (β := β) b.data.toList
      rwa [str_eta] at this
    | _ => simp [valOk] at h
  | .nilp, m, h => by
    cases m with
    | pointer a => cases a with
      | none => exact .nilp
      | some _ => simp [valOk] at h
    | _ => simp [valOk] at h
  | .ptr .., m, h => by cases m <;> simp [valOk] at h
  | .ro .., m, h => by cases m <;> simp [valOk] at h
  | .list nl sz [], m, h => by
    cases m with
    | slice a l c => cases a with
      | some _ => simp [valOk] at h
      | none => cases l with
        | succ _ => simp [valOk] at h
        | zero => cases c with
          | succ _ => simp [valOk] at h
          | zero => cases nl with
            | false => exact .l0 _ _ _
            | true => exact .lnil _
    | _ => simp [valOk] at h
  | .list nl sz (x :: xs), m, h => by cases m <;> simp [valOk] at h
  | .aref .., m, h => by cases m <;> simp [valOk] at h
  | .map _, m, h => by cases m <;> simp [valOk] at h
  | .func f [] [], m, h => by
    cases m with
    | func fn a b => cases fn with
      | func g =>
        simp only [valOk, Bool.and_eq_true, beq_iff_eq, Array.isEmpty_iff] at h
        obtain ⟨⟨rfl, rfl⟩, rfl⟩ := h
        exact .func f [] [] [] [] .nil .nil
      | _ => simp [valOk] at h
    | _ => simp [valOk] at h
  | .func f (x :: xs) b, m, h => by cases m <;> simp [valOk] at h
  | .func f [] (x :: xs), m, h => by cases m <;> simp [valOk] at h
  | .nilf, m, h => by cases m <;> simp [valOk] at h; exact .nilf
  | .iface .., m, h => by cases m <;> simp [valOk] at h
  | .nili, m, h => by cases m <;> simp [valOk] at h; exact .nili
  | .agg cs, m, h => by
    cases m with
    | agg ms =>
      have := valOkL_rel F β cs ms.toList (by simpa only [valOk] using h)
      have h2 := Rel.agg (K := K) cs ms.toList this.1 this.2
      simpa using h2
    | _ => simp [valOk] at h
  | .tuple cs, m, h => by
    cases m with
    | tuple ms =>
      have h2 := Rel.tuple (K := K) cs ms.toList (valsOkL_rel F β cs ms.toList (by simpa only [valOk] using h))
      simpa using h2
    | _ => simp [valOk] at h
theorem valOkL_rel (F : FZ) (β : BM) : ∀ (vs : List AV) (ms : List Value), valOkL K vs ms = true → RelL K F β vs ms ∧ ∀ m ∈ ms, m.oneCell' = true
  | [], [], _ => ⟨.nil, by simp⟩
  | [], _ :: _, h => by simp [valOkL] at h
  | _ :: _, [], h => by simp [valOkL] at h
  | v :: vs, m :: ms, h => by
    simp only [valOkL, Bool.and_eq_true] at h
    have h1 := valOk_rel F β v m h.1.1
    have h2 := valOkL_rel F β vs ms h.2
    exact ⟨.cons _ _ _ _ h1 h2.1, by
      intro x hx
      simp only [List.mem_cons] at hx
      rcases hx with rfl | hx
      · exact h.1.2
      · exact h2.2 x hx⟩
theorem valsOkL_rel (F : FZ) (β : BM) : ∀ (vs : List AV) (ms : List Value), valsOkL K vs ms = true → RelL K F β vs ms
  | [], [], _ => .nil
  | [], _ :: _, h => by simp [valsOkL] at h
  | _ :: _, [], h => by simp [valsOkL] at h
  | v :: vs, m :: ms, h => by
    simp only [valsOkL, Bool.and_eq_true] at h
    exact .cons _ _ _ _ (valOk_rel F β v m h.1) (valsOkL_rel F β vs ms h.2)
end
variable (K)
def opdOk : Opd → Operand → Bool
  | .t n, .tmp m => Nat.beq n m
  | .c v, .const m => valOk K v m
  | .c v, .func g => valOk K v (.func (.func g) #[] #[])
  | _, _ => false
def opdsOk : List Opd → List Operand → Bool
  | [], [] => true
  | x :: xs, y :: ys => opdOk K x y && opdsOk xs ys
  | _, _ => false
variable {K}
variable {F : FZ} {β : BM} {ρ : Roles} {w : World} {s : S} {a : Act}
theorem opd_rel (hs : FSim K F β ρ s a w) {x : Opd} {y : Operand} {v : AV} (h : opdOk K x y = true) (e : x.val s = some v) : Rel K F β v (a.eval y) := by
  cases x with
  | t n =>
    cases y <;> simp only [opdOk] at h <;> try (cases h; done)
    rename_i m
    have := beq_true.1 h
    subst this
    exact (hs.env n v e).2
  | c u =>
    simp only [Opd.val] at e
    injection e with e
    subst e
    cases y <;> simp only [opdOk] at h <;> try (cases h; done)
    · exact valOk_rel F β _ _ h
    · exact valOk_rel F β _ _ h
theorem opds_rel (hs : FSim K F β ρ s a w) : ∀ {xs : List Opd} {ys : List Operand} {vs : List AV}, opdsOk K xs ys = true → vals s xs = some vs → RelL K F β vs (ys.map a.eval)
  | [], [], vs, _, e => by simp only [vals] at e; injection e with e; subst e; exact .nil
  | [], _ :: _, _, h, _ => by simp [opdsOk] at h
  | _ :: _, [], _, h, _ => by simp [opdsOk] at h
  | x :: xs, y :: ys, vs, h, e => by
    simp only [opdsOk, Bool.and_eq_true] at h
    simp only [vals] at e
    cases hx : x.val s with
    | none => rw [hx] at e; cases e
    | some v =>
      rw [hx] at e
      cases hv : vals s xs with
      | none => rw [hv] at e; cases e
      | some us =>
        rw [hv] at e
        injection e with e
        subst e
        exact .cons _ _ _ _ (opd_rel hs h.1 hx) (opds_rel hs h.2 hv)

/-! ### Types -/
def tyOk (P : Program) (t : TypeId) (n : Nat) (ag : Bool) : Bool :=
  (match P.info? t with | some i => Nat.beq i.size n | none => false) &&
  (match P.underlying t with | some (.struct _) => ag | some (.array _ _) => ag | some _ => !ag && Nat.beq n 1 | none => false)
theorem tyOk_size {P : Program} {t : TypeId} {n : Nat} {ag : Bool} (h : tyOk P t n ag = true) (w : World) : (sizeOf t).run P w = .ok n w := by
  simp only [tyOk, Bool.and_eq_true] at h
  cases hi : P.info? t with
  | none => rw [hi] at h; cases h.1
  | some i =>
    rw [hi] at h
    have := beq_true.1 h.1
    simp [sizeOf, typeInfo, hi, this]
theorem tyOk_agg {P : Program} {t : TypeId} {n : Nat} {ag : Bool} (h : tyOk P t n ag = true) (w : World) : (isAgg t).run P w = .ok ag w := by
  simp only [tyOk, Bool.and_eq_true] at h
  cases hu : P.underlying t with
  | none => rw [hu] at h; cases h.2
  | some d =>
    rw [hu] at h
    have h2 := h.2
    clear h
    simp only [isAgg, Sem.run_bind, run_underlying hu, Result.andThen_ok]
    cases d <;> first
      | (have h3 : ag = true := h2
         subst h3; rfl)
      | (simp only [Bool.and_eq_true, Bool.not_eq_true'] at h2
         obtain ⟨rfl, _⟩ := h2
         rfl)
theorem tyOk_one {P : Program} {t : TypeId} {n : Nat} (h : tyOk P t n false = true) : n = 1 := by
  simp only [tyOk, Bool.and_eq_true] at h
  cases hu : P.underlying t with
  | none => rw [hu] at h; cases h.2
  | some d => rw [hu] at h; cases d <;> simp_all
theorem tyOk_info {P : Program} {t : TypeId} {n : Nat} {ag : Bool} (h : tyOk P t n ag = true) : ∃ i, P.info? t = some i ∧ i.size = n := by
  simp only [tyOk, Bool.and_eq_true] at h
  cases hi : P.info? t with
  | none => rw [hi] at h; cases h.1
  | some i => rw [hi] at h; exact ⟨i, rfl, beq_true.1 h.1⟩

/-! ### Parts of values -/
/-- the machine's part of some cells -/
def partM (mc : List Value) (off n : Nat) (ag : Bool) : Value := if ag then .agg ((mc.drop off).take n).toArray else mc.getD off undef
theorem Rel.part {v x : AV} {m : Value} {off n : Nat} {ag : Bool} (h : Rel K F β v m) (e : part v off n ag = some x) :
    Rel K F β x (partM m.cells.toList off n ag) ∧ (if ag then off + n ≤ m.cells.size else off < m.cells.size) := by
  cases h <;> first | (simp [Abs.part] at e; done) | skip
  rename_i cs ms hl h1
  simp only [Abs.part] at e
  have hlen := hl.length
  cases ag with
  | true =>
    simp only at e
    cases hb : Nat.ble (off + n) cs.length with
    | false => rw [hb] at e; cases e
    | true =>
      rw [hb] at e
      injection e with e
      subst e
      have hle : off + n ≤ cs.length := Nat.le_of_ble_eq_true hb
      refine ⟨?_, by simp [Value.cells]; omega⟩
      simp only [partM, if_true, Value.cells]
      exact .agg _ _ ((hl.drop off).take n) (fun c hc => h1 c (List.mem_of_mem_drop (List.mem_of_mem_take hc)))
  | false =>
    simp only at e
    cases hc : cs[off]? with
    | none => rw [hc] at e; cases e
    | some c =>
      rw [hc] at e
      injection e with e
      subst e
      obtain ⟨mo, hm, hr⟩ := hl.get off c hc
      refine ⟨?_, by simp [Value.cells]; exact (List.getElem?_eq_some_iff.1 hm).1⟩
      simp only [partM, Value.cells, Bool.false_eq_true, if_false, List.getD_eq_getElem?_getD, List.toList_toArray, hm, Option.getD_some]
      exact hr
theorem shape_eq {n : Nat} {ag : Bool} {v x : AV} (e : shape n ag v = some x) : x = v := by
  unfold shape at e
  repeat' split at e
  all_goals first | (cases e; done) | (injection e with e; exact e.symm)
theorem Rel.whole {v x : AV} {m : Value} {n : Nat} {ag : Bool} (h : Rel K F β v m) (e : shape n ag v = some x) (hn : ag = false → n = 1) :
    m = partM m.cells.toList 0 n ag ∧ m.cells.size = n ∧ (∀ c ∈ m.cells.toList, c.oneCell' = true) := by
  cases ag with
  | true =>
    cases h <;> first | (simp [shape] at e; done) | skip
    rename_i cs ms hl h1
    simp only [shape] at e
    cases hb : Nat.beq cs.length n with
    | false => rw [hb] at e; cases e
    | true =>
      have hb := beq_true.1 hb
      have hlen := hl.length
      refine ⟨?_, by simp [Value.cells]; omega, by simpa [Value.cells] using h1⟩
      simp only [partM, if_true, Value.cells, List.drop_zero]
      rw [List.take_of_length_le (by omega)]
  | false =>
    have hc : v.isCell = true := by cases v <;> first | rfl | (cases e)
    have h1 := h.one hc
    have hn := hn rfl
    subst hn
    rw [cells_one h1]
    simp [partM, h1]
theorem shape_tuple {n : Nat} {ag : Bool} {v x : AV} (e : shape n ag v = some x) : ∀ vs, v ≠ .tuple vs := by
  intro vs h; subst h; cases ag <;> simp [shape] at e

/-! ### Memory -/
theorem addr_add (k o j : Nat) : (⟨k, o, none⟩ : Addr).add j = ⟨k, o + j, none⟩ := by unfold Addr.add; split <;> simp_all
theorem run_loadVar {P : Program} {t : TypeId} {n : Nat} {ag : Bool} (ht : tyOk P t n ag = true) (w : World) (k o : Nat) (cs : List Value) (hl : cs.length = n)
    (h : ∀ j c, cs[j]? = some c → w.cell? ⟨k, o + j, none⟩ = some c) : (loadVar t ⟨k, o, none⟩).run P w = .ok (partM cs 0 n ag) w := by
  simp only [loadVar, Sem.run_bind, tyOk_agg ht, Result.andThen_ok]
  cases ag with
  | true =>
    have := run_loadCells_list (P := P) w ⟨k, o, none⟩ cs (fun j v hj => by rw [addr_add]; exact h j v hj)
    simp only [if_true, Sem.run_bind, tyOk_size ht, Result.andThen_ok]
    rw [← hl, this]
    simp [partM]
  | false =>
    have hn := tyOk_one ht
    subst hn
    match cs, hl with
    | [c], _ =>
      have := h 0 c rfl
      simp only [Nat.add_zero] at this
      simp [this, partM]
/-- the loads' common part -/
theorem Rel.view {v x : AV} {m : Value} {off n : Nat} {ag : Bool} (h : Rel K F β v m) (hn : ag = false → n = 1)
    (e : (match off, shape n ag v with | 0, some x => some x | _, _ => Abs.part v off n ag) = some x) :
    Rel K F β x (partM ((m.cells.toList.drop off).take n) 0 n ag) ∧ off + n ≤ m.cells.size := by
  have key : ∀ x, Abs.part v off n ag = some x → Rel K F β x (partM ((m.cells.toList.drop off).take n) 0 n ag) ∧ off + n ≤ m.cells.size := by
    intro x e
    obtain ⟨h1, h2⟩ := h.part e
    cases ag with
    | true => 
      refine ⟨?_, by simpa using h2⟩
      simp only [partM, if_true, List.drop_zero, List.take_take, Nat.min_self] at h1 ⊢
      exact h1
    | false =>
      have := hn rfl
      subst this
      simp only [Bool.false_eq_true, if_false] at h2
      refine ⟨?_, by omega⟩
      simp only [partM, Bool.false_eq_true, if_false] at h1 ⊢
      have e1 : ((m.cells.toList.drop off).take 1).getD 0 undef = m.cells.toList.getD off undef := by
        simp [List.getD_eq_getElem?_getD, List.getElem?_drop]
      rw [e1]; exact h1
  split at e
  · rename_i x' hs
    injection e with e
    subst e
    have := shape_eq hs
    subst this
    obtain ⟨h1, h2, _⟩ := h.whole hs hn
    refine ⟨?_, by omega⟩
    rw [List.drop_zero, List.take_of_length_le (by simp; omega), ← h1]
    exact h
  · exact key x e

theorem cells_part {m : Value} {off n j : Nat} {c : Value} (h : ((m.cells.toList.drop off).take n)[j]? = some c) : m.cells[off + j]? = some c := by
  rw [List.getElem?_take] at h
  split at h
  · rw [List.getElem?_drop] at h; simpa using h
  · cases h

/-! ### Which operation it is -/
variable (K)
def elemOk (P : Program) (t : TypeId) (sz : Nat) : Bool :=
  match P.underlying t with
  | some (.slice e) => match P.info? e with
    | some i => Nat.beq i.size sz && !(Nat.beq sz 0)
    | none => false
  | _ => false
def isStr (P : Program) (t : TypeId) : Bool := match P.underlying t with | some .string => true | _ => false
def placesOk (P : Program) (place : Nat → Option (Nat × TypeId)) : List (Nat × Nat × Bool) → List Nat → Bool
  | [], [] => true
  | (off, n, ag) :: r, i :: is => (match place i with
    | some (o, t) => Nat.beq o off && tyOk P t n ag
    | none => false) && placesOk P place r is
  | _, _ => false
def optL (x : Option Operand) : List Operand := match x with | some y => [y] | none => []
def eqKOk (P : Program) (t : TypeId) (x y : Operand) : EqK → Bool
  | .b => match P.underlying t with | some .bool => true | _ => false
  | .p => match P.underlying t with | some (.pointer _) => true | _ => false
  | .i => (match P.underlying t with | some (.interface _) => true | _ => false) && ((match x with | .const _ => true | _ => false) || (match y with | .const _ => true | _ => false))

def eqOp (op : BinOp) (neg : Bool) : Bool := match op with | .eql => !neg | .neq => neg | _ => false
def fieldOk (P : Program) (t : TypeId) (i off : Nat) : Bool :=
  match P.underlying t with
  | some (.struct fs) => match fs[i]? with
    | some f => Nat.beq f.offset off && match P.info? f.type with
      | some j => !(Nat.beq j.size 0)
      | none => false
    | none => false
  | _ => false
def fieldTy (P : Program) (t : TypeId) (i off n : Nat) (ag : Bool) : Bool :=
  match P.underlying t with
  | some (.struct fs) => match fs[i]? with
    | some f => Nat.beq f.offset off && tyOk P f.type n ag
    | none => false
  | _ => false
def zeroOk (P : Program) (t : TypeId) (zero : List AV) : Bool :=
  match P.info? t with
  | some i => match i.zero with
    | some z => valOkL K zero z.cells.toList
    | none => false
  | none => false
def rowOk (P : Program) (t : TypeId) (sz : Nat) (ag : Bool) : Bool :=
  match P.underlying t with
  | some (.slice e) => tyOk P e sz ag && !(Nat.beq sz 0) && match P.info? e with
    | some i => match i.zero with
      | some z => Nat.beq z.cells.size sz
      | none => false
    | none => false
  | _ => false
def partsOk (P : Program) (t : TypeId) (places : List (Nat × Nat × Bool)) (is : List Nat) : Bool :=
  match P.underlying t with
  | some (.struct fs) => fs.toList.all (fun f => (P.info? f.type).isSome) && placesOk P (fun i => (fs[i]?).map fun f => (f.offset, f.type)) places is
  | some (.array _ e) => (P.info? e).isSome && placesOk P (fun i => some (i * P.cellsOf e, e)) places is
  | _ => false
def ifcOk (P : Program) (t : TypeId) : Bool := match P.underlying t with | some (.interface _) => false | some _ => true | none => false
def intOk (P : Program) (t : TypeId) (k : IntKind) : Bool := match P.underlying t with | some (.int j) => k == j | _ => false
def arrOk (P : Program) (t : TypeId) (len sz : Nat) (ag : Bool) : Bool := match P.underlying t with | some (.array l e) => Nat.beq l len && tyOk P e sz ag | _ => false
def isSl (P : Program) (t : TypeId) : Bool := match P.underlying t with | some (.slice _) => true | _ => false

def checkP (p : POp) (xs : List Opd) (o : Op) : Bool :=
  match p, o with
  | .mov, .move X => opdsOk K xs [X]
  | .mov, .assign X => opdsOk K xs [X]
  | .pick, .pick C A B => opdsOk K xs [C, A, B]
  | .build zero places, .build t parts => opdsOk K xs (parts.toList.map (·.2)) && zeroOk K K.P t zero && partsOk K.P t places (parts.toList.map (·.1))
  | .mkList sz ag, .buildSlice t len parts => opdsOk K xs (parts.toList.map (·.2)) && rowOk K.P t sz ag && Nat.beq len parts.size && Nat.ble (len * sz) 16777216 &&
      (parts.toList.map (·.1) == List.range parts.size)
  | .ld n ag, .load t X => tyOk K.P t n ag && opdsOk K xs [X]
  | .bin op, .binOp op' _ X Y _ => op == op' && opdsOk K xs [X, Y]
  | .eq neg k, .binOp op t X Y _ => eqOp op neg && eqKOk K.P t X Y k && opdsOk K xs [X, Y]
  | .un op, .unOp op' _ X => op == op' && opdsOk K xs [X]
  | .conv k, .convert src dst X => intOk K.P dst k && (K.P.underlying src).isSome && opdsOk K xs [X]
  | .convS, .convert src dst X => isStr K.P dst && (K.P.underlying src).isSome && opdsOk K xs [X]
  | .iface t, .makeInterface T X => K.ψ t == T && ifcOk K.P T && opdsOk K xs [X]
  | .mkfunc f n, .makeFunc (.func g) first cap => K.φ f == g && Nat.beq first.size n && opdsOk K xs (first.toList ++ cap.toList)
  | .fieldAddr off, .fieldAddr t X i => fieldOk K.P t i off && opdsOk K xs [X]
  | .field off n ag, .field t X i => fieldTy K.P t i off n ag && opdsOk K xs [X]
  | .idxAddr sz, .indexAddr t X I => elemOk K.P t sz && opdsOk K xs [X, I]
  | .idxStr, .index t X I => isStr K.P t && opdsOk K xs [X, I]
  | .idxArr len sz ag, .index t X I => arrOk K.P t len sz ag && opdsOk K xs [X, I]
  | .sliceS lo hi, .slice t X l h none => isStr K.P t && (l.isSome == lo) && (h.isSome == hi) && opdsOk K xs (X :: (optL l ++ optL h))
  | .sliceL sz lo hi, .slice t X l h none => elemOk K.P t sz && (l.isSome == lo) && (h.isSome == hi) && opdsOk K xs (X :: (optL l ++ optL h))
  | .lenS, .call { callee := .builtin .len, args := X, argTypes := T } => Nat.beq T.size 1 && isStr K.P (T.getD 0 0) && opdsOk K xs X.toList
  | .lenL, .call { callee := .builtin .len, args := X, argTypes := T } => Nat.beq T.size 1 && isSl K.P (T.getD 0 0) && opdsOk K xs X.toList
  | .min, .call { callee := .builtin .min, args := X, argTypes := _ } => opdsOk K xs X.toList
  | .max, .call { callee := .builtin .max, args := X, argTypes := _ } => opdsOk K xs X.toList
  | .extract i, .extract X j => Nat.beq i j && opdsOk K xs [X]
  | .nilchk, .nilCheck X => opdsOk K xs [X]
  | .boxro n ag, .box t X => tyOk K.P t n ag && opdsOk K xs [X]
  | _, _ => false
end Go.Abs
