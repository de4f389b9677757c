/- What an abstract value, heap and state say of the machine. -/
import Derived.Test.YtiefbkjoldcebaaDoorXxAbs
import Derived.Laws.AppendOwn
namespace Go.Abs

/-- a seat: its program, and its numbers of the functions and types -/
structure Seat where
  P : Program
  φ : Nat → FuncId
  ψ : Nat → TypeId
  mixed : P.follows .mixedOrders = true
  /-- the package variables' cells, as they stand for good -/
  G : Nat → Nat → Option Value := fun _ _ => none

/-- cells that never change any more -/
abbrev FZ := Nat → Nat → Option Value
/-- of each abstract block: its generation, and the machine's block -/
abbrev BM := List (Nat × Nat)

variable (K : Seat)

mutual
inductive Rel (F : FZ) (β : BM) : AV → Value → Prop
  | bool (b : Bool) : Rel F β (.bool b) (.bool b)
  | int (k : IntKind) (n : Int) : Rel F β (.int k n) (.int k n)
  | str (s : List UInt8) : Rel F β (.str s) (.string ⟨s.toArray⟩)
  | nilp : Rel F β .nilp (.pointer none)
  | ptr (b g off g0 k0 k : Nat) (hb : β[b]? = some (g0, k0)) (hg : g ≤ g0) (hm : g = g0 → k = k0) : Rel F β (.ptr b g off) (.pointer (some ⟨k, off, none⟩))
  | ro (v : AV) (off : Nat) (mv : Value) (k base : Nat) (hv : Rel F β v mv) (hc : ∀ j c, mv.cells[j]? = some c → F k (base + j) = some c) : Rel F β (.ro v off) (.pointer (some ⟨k, base + off, none⟩))
  | lnil (sz : Nat) : Rel F β (.list true sz []) (.slice none 0 0)
  | l0 (sz : Nat) (a : Option Addr) (cap : Nat) : Rel F β (.list false sz []) (.slice a 0 cap)
  | list (sz : Nat) (x : AV) (xs : List AV) (k off cap : Nat) (hcap : xs.length + 1 ≤ cap) (he : RelE F β sz k off (x :: xs)) : Rel F β (.list false sz (x :: xs)) (.slice (some ⟨k, off, none⟩) (xs.length + 1) cap)
  | aref (b g off len sz cap g0 k0 k : Nat) (hb : β[b]? = some (g0, k0)) (hg : g ≤ g0) (hm : g = g0 → k = k0) (hc : len ≤ cap) : Rel F β (.aref b g off len sz) (.slice (some ⟨k, off, none⟩) len cap)
  | map (b g0 k0 k : Nat) (hb : β[b]? = some (g0, k0)) (hm : g0 = 0 → k = k0) : Rel F β (.map b) (.map (some k))
  | func (f : Nat) (a b : List AV) (ma mb : List Value) (ha : RelL F β a ma) (hb : RelL F β b mb) : Rel F β (.func f a b) (.func (.func (K.φ f)) ma.toArray mb.toArray)
  | nilf : Rel F β .nilf .nilFunc
  | iface (t : Nat) (v : AV) (m : Value) (hv : Rel F β v m) : Rel F β (.iface t v) (.iface (K.ψ t) m)
  | nili : Rel F β .nili .nilIface
  | agg (cs : List AV) (ms : List Value) (h : RelL F β cs ms) (h1 : ∀ m ∈ ms, m.oneCell' = true) : Rel F β (.agg cs) (.agg ms.toArray)
  | tuple (vs : List AV) (ms : List Value) (h : RelL F β vs ms) : Rel F β (.tuple vs) (.tuple ms.toArray)
inductive RelL (F : FZ) (β : BM) : List AV → List Value → Prop
  | nil : RelL F β [] []
  | cons (v : AV) (vs : List AV) (m : Value) (ms : List Value) (h : Rel F β v m) (hs : RelL F β vs ms) : RelL F β (v :: vs) (m :: ms)
inductive RelE (F : FZ) (β : BM) : Nat → Nat → Nat → List AV → Prop
  | nil (sz k off : Nat) : RelE F β sz k off []
  | cons (sz k off : Nat) (x : AV) (xs : List AV) (m : Value) (h : Rel F β x m) (hs : m.cells.size = sz) (h1 : ∀ c ∈ m.cells.toList, c.oneCell' = true) (hc : ∀ j c, m.cells[j]? = some c → F k (off + j) = some c) (hr : RelE F β sz k (off + sz) xs) : RelE F β sz k off (x :: xs)
end

def FLe (F F' : FZ) : Prop := ∀ k o x, F k o = some x → F' k o = some x
theorem FLe.refl (F : FZ) : FLe F F := fun _ _ _ h => h
theorem FLe.trans {F G H : FZ} (h : FLe F G) (h' : FLe G H) : FLe F H := fun k o x e => h' k o x (h k o x e)
/-- blocks stay where they are; generations rise -/
def BLe (β β' : BM) : Prop := ∀ b g k : Nat, β[b]? = some (g, k) → ∃ g' k' : Nat, β'[b]? = some (g', k') ∧ g ≤ g' ∧ (g = g' → k = k')
theorem BLe.refl (β : BM) : BLe β β := fun _ g k h => ⟨g, k, h, Nat.le_refl _, fun _ => rfl⟩
theorem BLe.trans {a b c : BM} (h : BLe a b) (h' : BLe b c) : BLe a c := by
  intro i g k e
  obtain ⟨g1, k1, e1, l1, r1⟩ := h i g k e
  obtain ⟨g2, k2, e2, l2, r2⟩ := h' i g1 k1 e1
  exact ⟨g2, k2, e2, by omega, fun hg => by have : g = g1 := by omega
                                            rw [r1 this]; exact r2 (by omega)⟩

mutual
theorem Rel.mono {K : Seat} {F F' : FZ} {β β' : BM} (hF : FLe F F') (hB : BLe β β') : ∀ {v : AV} {m : Value}, Rel K F β v m → Rel K F' β' v m
  | _, _, .bool b => .bool b
  | _, _, .int k n => .int k n
  | _, _, .str s => .str s
  | _, _, .nilp => .nilp
  | _, _, .ptr b g off g0 k0 k hb hg hm => by
    obtain ⟨g1, k1, e1, l1, r1⟩ := hB b g0 k0 hb
    exact .ptr b g off g1 k1 k e1 (by omega) (fun e => (hm (by omega)).trans (r1 (by omega)))
  | _, _, .ro v off mv k base hv hc => .ro v off mv k base (hv.mono hF hB) (fun j c h => hF _ _ _ (hc j c h))
  | _, _, .lnil sz => .lnil sz
  | _, _, .l0 sz a cap => .l0 sz a cap
  | _, _, .list sz x xs k off cap hcap he => .list sz x xs k off cap hcap (he.mono hF hB)
  | _, _, .aref b g off len sz cap g0 k0 k hb hg hm hc => by
    obtain ⟨g1, k1, e1, l1, r1⟩ := hB b g0 k0 hb
    exact .aref b g off len sz cap g1 k1 k e1 (by omega) (fun e => (hm (by omega)).trans (r1 (by omega))) hc
  | _, _, .map b g0 k0 k hb hm => by
    obtain ⟨g1, k1, e1, l1, r1⟩ := hB b g0 k0 hb
    exact .map b g1 k1 k e1 (fun e => (hm (by omega)).trans (r1 (by omega)))
  | _, _, .func f a b ma mb ha hb => .func f a b ma mb (ha.mono hF hB) (hb.mono hF hB)
  | _, _, .nilf => .nilf
  | _, _, .iface t v m hv => .iface t v m (hv.mono hF hB)
  | _, _, .nili => .nili
  | _, _, .agg cs ms h h1 => .agg cs ms (h.mono hF hB) h1
  | _, _, .tuple vs ms h => .tuple vs ms (h.mono hF hB)
theorem RelL.mono {K : Seat} {F F' : FZ} {β β' : BM} (hF : FLe F F') (hB : BLe β β') : ∀ {vs : List AV} {ms : List Value}, RelL K F β vs ms → RelL K F' β' vs ms
  | _, _, .nil => .nil
  | _, _, .cons v vs m ms h hs => .cons v vs m ms (h.mono hF hB) (hs.mono hF hB)
theorem RelE.mono {K : Seat} {F F' : FZ} {β β' : BM} (hF : FLe F F') (hB : BLe β β') : ∀ {sz k off : Nat} {xs : List AV}, RelE K F β sz k off xs → RelE K F' β' sz k off xs
  | _, _, _, _, .nil sz k off => .nil sz k off
  | _, _, _, _, .cons sz k off x xs m h hs h1 hc hr => .cons sz k off x xs m (h.mono hF hB) hs h1 (fun j c e => hF _ _ _ (hc j c e)) (hr.mono hF hB)
end

theorem blt_iff {a b : Nat} : Nat.blt a b = true ↔ a < b := by simp [Nat.blt]; omega
mutual
/-- blocks from n on are forgotten -/
theorem Rel.cut {K : Seat} {F : FZ} {β : BM} {n : Nat} : ∀ {v : AV} {m : Value}, Rel K F β v m → v.under n = true → Rel K F (β.take n) v m
  | _, _, .bool b, _ => .bool b
  | _, _, .int k n, _ => .int k n
  | _, _, .str s, _ => .str s
  | _, _, .nilp, _ => .nilp
  | _, _, .ptr b g off g0 k0 k hb hg hm, hu => .ptr b g off g0 k0 k (by rw [List.getElem?_take]; simp only [AV.under, blt_iff] at hu; rw [if_pos hu]; exact hb) hg hm
  | _, _, .ro v off mv k base hv hc, hu => .ro v off mv k base (hv.cut (by simpa only [AV.under] using hu)) hc
  | _, _, .lnil sz, _ => .lnil sz
  | _, _, .l0 sz a cap, _ => .l0 sz a cap
  | _, _, .list sz x xs k off cap hcap he, hu => .list sz x xs k off cap hcap (he.cut (by simpa only [AV.under] using hu))
  | _, _, .aref b g off len sz cap g0 k0 k hb hg hm hc, hu => .aref b g off len sz cap g0 k0 k (by rw [List.getElem?_take]; simp only [AV.under, blt_iff] at hu; rw [if_pos hu]; exact hb) hg hm hc
  | _, _, .map b g0 k0 k hb hm, hu => .map b g0 k0 k (by rw [List.getElem?_take]; simp only [AV.under, blt_iff] at hu; rw [if_pos hu]; exact hb) hm
  | _, _, .func f a b ma mb ha hb, hu => by
    simp only [AV.under, Bool.and_eq_true] at hu
    exact .func f a b ma mb (ha.cut hu.1) (hb.cut hu.2)
  | _, _, .nilf, _ => .nilf
  | _, _, .iface t v m hv, hu => .iface t v m (hv.cut (by simpa only [AV.under] using hu))
  | _, _, .nili, _ => .nili
  | _, _, .agg cs ms h h1, hu => .agg cs ms (h.cut (by simpa only [AV.under] using hu)) h1
  | _, _, .tuple vs ms h, hu => .tuple vs ms (h.cut (by simpa only [AV.under] using hu))
theorem RelL.cut {K : Seat} {F : FZ} {β : BM} {n : Nat} : ∀ {vs : List AV} {ms : List Value}, RelL K F β vs ms → AV.underL n vs = true → RelL K F (β.take n) vs ms
  | _, _, .nil, _ => .nil
  | _, _, .cons v vs m ms h hs, hu => by
    simp only [AV.underL, Bool.and_eq_true] at hu
    exact .cons v vs m ms (h.cut hu.1) (hs.cut hu.2)
theorem RelE.cut {K : Seat} {F : FZ} {β : BM} {n : Nat} : ∀ {sz k off : Nat} {xs : List AV}, RelE K F β sz k off xs → AV.underL n xs = true → RelE K F (β.take n) sz k off xs
  | _, _, _, _, .nil sz k off, _ => .nil sz k off
  | _, _, _, _, .cons sz k off x xs m h hs h1 hc hr, hu => by
    simp only [AV.underL, Bool.and_eq_true] at hu
    exact .cons sz k off x xs m (h.cut hu.1) hs h1 hc (hr.cut hu.2)
end

mutual
/-- what is related mentions blocks that are there -/
theorem Rel.under {K : Seat} {F : FZ} {β : BM} : ∀ {v : AV} {m : Value}, Rel K F β v m → v.under β.length = true
  | _, _, .bool b => rfl
  | _, _, .int k n => rfl
  | _, _, .str s => rfl
  | _, _, .nilp => rfl
  | _, _, .ptr b g off g0 k0 k hb hg hm => by simp only [AV.under, blt_iff]; exact (List.getElem?_eq_some_iff.1 hb).1
  | _, _, .ro v off mv k base hv hc => by simpa only [AV.under] using hv.under
  | _, _, .lnil sz => rfl
  | _, _, .l0 sz a cap => rfl
  | _, _, .list sz x xs k off cap hcap he => by simpa only [AV.under] using he.under
  | _, _, .aref b g off len sz cap g0 k0 k hb hg hm hc => by simp only [AV.under, blt_iff]; exact (List.getElem?_eq_some_iff.1 hb).1
  | _, _, .map b g0 k0 k hb hm => by simp only [AV.under, blt_iff]; exact (List.getElem?_eq_some_iff.1 hb).1
  | _, _, .func f a b ma mb ha hb => by simp only [AV.under, Bool.and_eq_true]; exact ⟨ha.under, hb.under⟩
  | _, _, .nilf => rfl
  | _, _, .iface t v m hv => by simpa only [AV.under] using hv.under
  | _, _, .nili => rfl
  | _, _, .agg cs ms h h1 => by simpa only [AV.under] using h.under
  | _, _, .tuple vs ms h => by simpa only [AV.under] using h.under
theorem RelL.under {K : Seat} {F : FZ} {β : BM} : ∀ {vs : List AV} {ms : List Value}, RelL K F β vs ms → AV.underL β.length vs = true
  | _, _, .nil => rfl
  | _, _, .cons v vs m ms h hs => by simp only [AV.underL, Bool.and_eq_true]; exact ⟨h.under, hs.under⟩
theorem RelE.under {K : Seat} {F : FZ} {β : BM} : ∀ {sz k off : Nat} {xs : List AV}, RelE K F β sz k off xs → AV.underL β.length xs = true
  | _, _, _, _, .nil sz k off => rfl
  | _, _, _, _, .cons sz k off x xs m h hs h1 hc hr => by simp only [AV.underL, Bool.and_eq_true]; exact ⟨h.under, hr.under⟩
end

/-! ### Small inversions -/
section
variable {K : Seat} {F : FZ} {β : BM}
theorem RelL.length {vs : List AV} {ms : List Value} (h : RelL K F β vs ms) : vs.length = ms.length := by
  induction vs generalizing ms with
  | nil => cases h; rfl
  | cons v vs ih => cases h; simp [ih ‹_›]
theorem RelL.get {vs : List AV} {ms : List Value} (h : RelL K F β vs ms) (i : Nat) (v : AV) (hv : vs[i]? = some v) : ∃ m, ms[i]? = some m ∧ Rel K F β v m := by
  induction vs generalizing ms i with
  | nil => simp at hv
  | cons x vs ih =>
    cases h with
    | cons _ _ m ms h hs =>
      cases i with
      | zero => simp at hv; subst hv; exact ⟨m, rfl, h⟩
      | succ i => simpa using ih hs i (by simpa using hv)
theorem RelL.append {a b : List AV} {x y : List Value} (h : RelL K F β a x) (h' : RelL K F β b y) : RelL K F β (a ++ b) (x ++ y) := by
  induction a generalizing x with
  | nil => cases h; exact h'
  | cons v vs ih => cases h with | cons _ _ m ms h hs => exact .cons _ _ _ _ h (ih hs)
theorem RelL.take {a : List AV} {x : List Value} (h : RelL K F β a x) (n : Nat) : RelL K F β (a.take n) (x.take n) := by
  induction a generalizing x n with
  | nil => cases h; simpa using RelL.nil
  | cons v vs ih =>
    cases h with
    | cons _ _ m ms h hs =>
      cases n with
      | zero => exact .nil
      | succ n => simpa using RelL.cons _ _ _ _ h (ih hs n)
theorem RelL.drop {a : List AV} {x : List Value} (h : RelL K F β a x) (n : Nat) : RelL K F β (a.drop n) (x.drop n) := by
  induction a generalizing x n with
  | nil => cases h; simpa using RelL.nil
  | cons v vs ih =>
    cases h with
    | cons _ _ m ms h hs =>
      cases n with
      | zero => exact .cons _ _ _ _ h hs
      | succ n => simpa using ih hs n
theorem cells_one {m : Value} (h : m.oneCell' = true) : m.cells = #[m] := by cases m <;> first | rfl | (simp [Value.oneCell'] at h)
theorem Rel.one {v : AV} {m : Value} (h : Rel K F β v m) (hc : v.isCell = true) : m.oneCell' = true := by
  cases h <;> first | rfl | assumption | (simp [AV.isCell] at hc)
/-- the cells of a value are related to the machine's -/
theorem Rel.cells {v : AV} {m : Value} (h : Rel K F β v m) (ht : ∀ vs, v ≠ .tuple vs) : RelL K F β v.cells m.cells.toList := by
  by_cases hc : v.isCell = true
  · have e : v.cells = [v] := by cases v <;> first | rfl | (simp [AV.isCell] at hc)
    rw [e, cells_one (h.one hc)]
    exact .cons _ _ _ _ h .nil
  · cases h <;> first | (exact absurd rfl hc) | skip
    · rename_i cs ms h h1; simpa [AV.cells, Value.cells] using h
    · exact absurd rfl (ht _)
theorem Rel.cells_one' {v : AV} {m : Value} (h : Rel K F β v m) (ht : ∀ vs, v ≠ .tuple vs) : ∀ c ∈ m.cells.toList, c.oneCell' = true := by
  by_cases hc : v.isCell = true
  · rw [cells_one (h.one hc)]; intro c hm; simp at hm; rw [hm]; exact h.one hc
  · cases h <;> first | (exact absurd rfl hc) | skip
    · rename_i cs ms h h1; intro c hm; exact h1 c (by simpa [Value.cells] using hm)
    · exact absurd rfl (ht _)
theorem Rel.size {v : AV} {m : Value} (h : Rel K F β v m) (ht : ∀ vs, v ≠ .tuple vs) : m.cells.size = v.cells.length := by
  have := (h.cells ht).length
  simpa using this.symm
end

/-! ### Owned lists, the heap, a frame -/
inductive Role where
  | loc (l : Nat)
  | heap (b : Nat)
  | ent (e : Ent)
  deriving DecidableEq
abbrev Roles := Nat → Option Role
def Role.isH : Role → Bool
  | .heap _ => true
  | .ent (.h _ _) => true
  | _ => false

/-- a list whose spare room is the owner's -/
def Own (F : FZ) (ρ : Roles) (w : World) (e : Ent) (sz n : Nat) (v : Value) : Prop :=
  (v = .slice none 0 0 ∧ n = 0) ∨
  ∃ g cap cur ty, v = .slice (some ⟨g, 0, none⟩) n cap ∧ ρ g = some (.ent e) ∧ w.heap[g]? = some (.cells cur ty (0, 0)) ∧ n ≤ cap ∧ cap ≤ maxInt ∧ cur.size = cap * sz ∧ (∀ o, n * sz ≤ o → F g o = none)

/-- the machine's entries of a map -/
def MapRel (F : FZ) (β : BM) (es : List (AV × AV)) (ms : List MapEntry) : Prop :=
  RelL K F β (es.map (·.1)) (ms.map (·.key)) ∧ RelL K F β (es.map (·.2)) (ms.map (·.val))

def BlkOk (F : FZ) (β : BM) (ρ : Roles) (w : World) (b g k : Nat) : Blk → Prop
  | .cells n ag v os => g = 0 ∧ ∃ m c ty, Rel K F β v m ∧ shape n ag v = some v ∧ m.cells = c ∧ w.heap[k]? = some (.cells c ty (0, 0)) ∧
      ∀ o ∈ os, ∃ sz xs, (if ag then v.cells[o]? else if o = 0 then some v else none) = some (.list false sz xs) ∧ ∃ mo, c[o]? = some mo ∧ Own F ρ w (.h b o) sz xs.length mo
  | .arr g' _ cs => g = g' ∧ ∃ c ty, RelL K F β cs c.toList ∧ (∀ m ∈ c.toList, m.oneCell' = true) ∧ w.heap[k]? = some (.cells c ty (0, 0))
  | .map es => g = 0 ∧ ∃ ms clock, MapRel K F β es ms.toList ∧ w.heap[k]? = some (.map ms clock)

def Blk.under (n : Nat) : Blk → Bool
  | .cells _ _ v _ => v.under n
  | .arr _ _ cs => AV.underL n cs
  | .map es => AV.underL n (es.map (·.1)) && AV.underL n (es.map (·.2))

structure HSim (F : FZ) (β : BM) (ρ : Roles) (h : H) (w : World) : Prop where
  len : β.length = h.blks.length
  low : ∀ fl, fl ∈ h.floors → fl ≤ h.blks.length ∧ ∀ b x, b < fl → h.blks[b]? = some x → x.under fl = true
  blk : ∀ b x, h.blks[b]? = some x → ∃ g k, β[b]? = some (g, k) ∧ ρ k = some (.heap b) ∧ BlkOk K F β ρ w b g k x
  fz : ∀ k o x, F k o = some x → w.cell? ⟨k, o, none⟩ = some x
  free : ∀ k b, ρ k = some (.heap b) → ∀ o, F k o = none
  role : ∀ k r, ρ k = some r → k < w.heap.size
  ents : ∀ k b o, ρ k = some (.ent (.h b o)) → b < h.blks.length
  heaps : ∀ k b, ρ k = some (.heap b) → ∃ g, β[b]? = some (g, k)
  glob : ∀ k o x, K.G k o = some x → F k o = some x

end Go.Abs
