/- nnf, plainly: normal forms without a budget; turned twice; simpler ones. -/
import Derived.Test.YtiefbkjoldcebaaDoorXxPar5
namespace Go.Abs
open Fm

mutual
def Fm.er : Fm → Fm
  | .mk o n _ ks _ => .mk o n true (Fm.ers ks) 0
def Fm.ers : List Fm → List Fm
  | [] => []
  | k :: ks => Fm.er k :: Fm.ers ks
end
theorem ers_eq : ∀ ks, Fm.ers ks = ks.map Fm.er
  | [] => rfl
  | k :: ks => by rw [Fm.ers, ers_eq ks]; rfl
theorem er_mk (o n : List UInt8) (b : Bool) (ks : List Fm) (p : Int) : (Fm.mk o n b ks p).er = .mk o n true (ks.map Fm.er) 0 := by rw [Fm.er, ers_eq]
theorem same_er (a : Fm) : ∀ b, Fm.same a b = true ↔ a.er = b.er := by
  induction a using Fm.ind with
  | h o n nl ks p ih =>
    intro b
    obtain ⟨o', n', nl', ks', p'⟩ := b
    rw [Fm.same, er_mk, er_mk]
    have key : Fm.sames ks ks' = true ↔ ks.map Fm.er = ks'.map Fm.er := by
      induction ks generalizing ks' with
      | nil => cases ks' <;> simp [Fm.sames]
      | cons k ks ihk =>
        cases ks' with
        | nil => simp [Fm.sames]
        | cons k' ks' =>
          rw [Fm.sames, Bool.and_eq_true, ih k (by simp) k', ihk (fun x hx => ih x (List.mem_cons_of_mem _ hx)) ks']
          simp
    simp only [Bool.and_eq_true, beq_iff_eq, key, Fm.mk.injEq]
    constructor
    · rintro ⟨⟨h1, h2⟩, h3⟩; exact ⟨h1, h2, trivial, h3, trivial⟩
    · rintro ⟨h1, h2, _, h3, _⟩; exact ⟨⟨h1, h2⟩, h3⟩

/-- the normal form -/
def nf : Fm → Bool → Fm
  | .mk o n _ ks _, not => match ks with
    | [] => if o == oLabel then (if not then node oNot [.mk oLabel n true [] 0] else .mk oLabel n true [] 0) else plain (dn o not)
    | [a] => if o == oNot then nf a (!not) else if o == oX then node oX [nf a not] else if (o == oF) != not then node oU [plain oTrue, nf a not] else node oR [plain oFalse, nf a not]
    | [a, b] => if o == oImp then (if not then node oAnd [nf a false, nf b true] else node oOr [nf a true, nf b false])
      else if o == oW then node (if not then oU else oR) [nf b not, node (if not then oAnd else oOr) [nf a not, nf b not]]
      else node (dn o not) [nf a not, nf b not]
    | _ => zero
theorem size_node (o : List UInt8) (ks : List Fm) : (node o ks).size = 1 + Fm.sizes ks := by rw [node, Fm.size]
theorem size_plain (o : List UInt8) : (plain o).size = 1 := by simp [plain, Fm.size, Fm.sizes]
theorem make_nf (f : Fm) (hf : f.form = true) : ∀ not l, (((nf f not).size : Int) ≤ l → make f not l = (nf f not, l - (nf f not).size)) ∧ (l < (nf f not).size → (make f not l).2 < 0) := by
  induction f using Fm.ind with
  | h o n nl ks p ih =>
    intro not l
    have hb := make_bounds (.mk o n nl ks p) not l
    by_cases hl : l - 1 < 0
    · have h1 := size_pos (nf (.mk o n nl ks p) not)
      refine ⟨fun h => by omega, fun _ => by omega⟩
    · have neg : ∀ {g : Fm} {not : Bool} {l : Int}, l ≤ 0 → (make g not l).2 < 0 := by
        intro g not l hl
        have := make_bounds g not l
        omega
      rcases form_cases hf with ⟨rfl, ho⟩ | ⟨a, rfl, ha, ho⟩ | ⟨a, b, rfl, ha, hb', ho⟩
      · unfold make nf
        rw [if_neg hl]
        dsimp only
        split
        · split
          · simp only [size_node, Fm.sizes, Fm.size]
            split
            · exact ⟨fun h => by omega, fun _ => by dsimp only; omega⟩
            · exact ⟨fun h => by rw [show l - 1 - 1 = l - ((1 + (1 + 0 + 0) : Nat) : Int) from by omega], fun h => by omega⟩
          · simp only [Fm.size, Fm.sizes]
            exact ⟨fun h => by congr 1, fun h => by omega⟩
        · rw [size_plain]
          exact ⟨fun h => by congr 1, fun h => by omega⟩
      · have iha := ih a (by simp) ha
        unfold make nf
        rw [if_neg hl]
        dsimp only
        split
        · have := iha (!not) (l - 1 + 1)
          rw [show l - 1 + 1 = l from by omega] at this ⊢
          exact this
        split
        · obtain ⟨i1, i2⟩ := iha not (l - 1)
          simp only [size_node, Fm.sizes]
          refine ⟨fun h => ?_, fun h => ?_⟩
          · rw [i1 (by omega)]
            congr 1; dsimp only; omega
          · exact i2 (by omega)
        split
        · obtain ⟨i1, i2⟩ := iha not (l - 1 - 1)
          simp only [size_node, Fm.sizes, size_plain]
          refine ⟨fun h => ?_, fun h => ?_⟩
          · rw [i1 (by omega)]
            congr 1; dsimp only; omega
          · exact i2 (by omega)
        · obtain ⟨i1, i2⟩ := iha not (l - 1 - 1)
          simp only [size_node, Fm.sizes, size_plain]
          refine ⟨fun h => ?_, fun h => ?_⟩
          · rw [i1 (by omega)]
            congr 1; dsimp only; omega
          · exact i2 (by omega)
      · have iha := ih a (by simp) ha
        have ihb := ih b (by simp) hb'
        have two : ∀ (s t : Bool) (l : Int) (op : List UInt8),
            ((((nf a s).size + (nf b t).size : Nat) : Int) ≤ l → ((node op [(make a s l).1, (make b t (make a s l).2).1], (make b t (make a s l).2).2) : Fm × Int) = (node op [nf a s, nf b t], l - ((nf a s).size + (nf b t).size : Nat))) ∧
            (l < (((nf a s).size + (nf b t).size : Nat) : Int) → (make b t (make a s l).2).2 < 0) := by
          intro s t l op
          obtain ⟨i1, i2⟩ := iha s l
          refine ⟨fun h => ?_, fun h => ?_⟩
          · have e := i1 (by omega)
            rw [e]
            obtain ⟨j1, j2⟩ := ihb t (l - ((nf a s).size : Int))
            dsimp only
            rw [j1 (by omega)]
            congr 1; dsimp only; omega
          · by_cases hh : ((nf a s).size : Int) ≤ l
            · have e := i1 hh
              rw [e]
              obtain ⟨j1, j2⟩ := ihb t (l - ((nf a s).size : Int))
              exact j2 (by omega)
            · exact neg (by have := i2 (by omega); omega)
        unfold make nf
        rw [if_neg hl]
        dsimp only
        split
        · split
          · obtain ⟨t1, t2⟩ := two false true (l - 1) oAnd
            simp only [size_node, Fm.sizes]
            refine ⟨fun h => ?_, fun h => t2 (by omega)⟩
            rw [t1 (by omega)]; congr 1; omega
          · obtain ⟨t1, t2⟩ := two true false (l - 1) oOr
            simp only [size_node, Fm.sizes]
            refine ⟨fun h => ?_, fun h => t2 (by omega)⟩
            rw [t1 (by omega)]; congr 1; omega
        · split
          · obtain ⟨i1, i2⟩ := ihb not (l - 1 - 1)
            simp only [size_node, Fm.sizes]
            refine ⟨fun h => ?_, fun h => ?_⟩
            · rw [i1 (by omega)]
              dsimp only
              obtain ⟨t1, t2⟩ := two not not (l - 1 - 1 - ((nf b not).size : Int)) (if not = true then oAnd else oOr)
              have e := t1 (by omega)
              have e1 := congrArg Prod.fst e
              have e2 := congrArg Prod.snd e
              dsimp only at e1 e2
              rw [e1, e2]
              congr 1; omega
            · by_cases hh : ((nf b not).size : Int) ≤ l - 1 - 1
              · rw [i1 hh]
                dsimp only
                obtain ⟨t1, t2⟩ := two not not (l - 1 - 1 - ((nf b not).size : Int)) oAnd
                exact t2 (by omega)
              · have := i2 (by omega)
                exact neg (by have := neg (g := a) (not := not) (l := (make b not (l - 1 - 1)).2) (by omega); omega)
          · obtain ⟨t1, t2⟩ := two not not (l - 1) (dn o not)
            simp only [size_node, Fm.sizes]
            refine ⟨fun h => ?_, fun h => t2 (by omega)⟩
            rw [t1 (by omega)]; congr 1; omega
theorem normal_eq (f : Fm) (not : Bool) : normal f not = if f.form = false then (zero, errno 1) else if f.size > 4096 then (zero, errno 2) else if (nf f not).size > 4096 then (zero, errno 2) else (nf f not, .nili) := by
  unfold normal
  by_cases h1 : f.form = false
  · rw [if_pos h1, if_pos h1]
  rw [if_neg h1, if_neg h1]
  split
  · rfl
  · obtain ⟨a, b⟩ := make_nf f (by simpa using h1) not 4096
    by_cases h2 : (nf f not).size > 4096
    · rw [if_pos h2, if_pos (b (by omega))]
    · rw [if_neg h2, a (by omega), if_neg (by dsimp only; omega)]

/-! ### What normal forms are -/
mutual
/-- labels alone have names -/
def Fm.cln : Fm → Bool
  | .mk o n _ ks _ => (o == oLabel || n.isEmpty) && Fm.clns ks
def Fm.clns : List Fm → Bool
  | [] => true
  | k :: ks => Fm.cln k && Fm.clns ks
end
theorem cln_node (o : List UInt8) (ks : List Fm) : (node o ks).cln = Fm.clns ks := by simp [node, Fm.cln]
theorem isN1 {o : List UInt8} {k : Fm} (ho : o = oX) (hk : k.isN = true) : (node o [k]).isN = true := by
  subst ho; simp [node, Fm.isN, Fm.isNs, hk, kidsN]
theorem isN2 {o : List UInt8} {a b : Fm} (ho : o = oAnd ∨ o = oOr ∨ o = oU ∨ o = oR) (ha : a.isN = true) (hb : b.isN = true) : (node o [a, b]).isN = true := by
  rcases ho with rfl | rfl | rfl | rfl <;> simp [node, Fm.isN, Fm.isNs, ha, hb, kidsN]
theorem isN0 {o n : List UInt8} {nl : Bool} {p : Int} (ho : o = oTrue ∨ o = oFalse ∨ o = oLabel) : (Fm.mk o n nl [] p).isN = true := by
  rcases ho with rfl | rfl | rfl <;> simp [Fm.isN, Fm.isNs, kidsN]
theorem nf_isN (f : Fm) (hf : f.form = true) : ∀ not, (nf f not).isN = true ∧ (nf f not).cln = true := by
  induction f using Fm.ind with
  | h o n nl ks p ih =>
    intro not
    rcases form_cases hf with ⟨rfl, ho⟩ | ⟨a, rfl, ha, ho⟩ | ⟨a, b, rfl, ha, hb', ho⟩
    · rw [Bool.or_eq_true, Bool.or_eq_true, beq_iff_eq, beq_iff_eq, beq_iff_eq] at ho
      rcases ho with (rfl | rfl) | rfl <;> cases not <;> first | exact ⟨isN0 (by decide), by simp [nf, plain, dn, dual, Fm.cln, Fm.clns]⟩ | skip
      simp [nf, node, Fm.isN, Fm.cln, Fm.clns, notLabel]
    · have iha := ih a (by simp) ha
      rw [Bool.or_eq_true, Bool.or_eq_true, Bool.or_eq_true, beq_iff_eq, beq_iff_eq, beq_iff_eq, beq_iff_eq] at ho
      have cl : ∀ s, Fm.clns [nf a s] = true := fun s => by simp [Fm.clns, (iha s).2]
      have hp : ∀ x, x = oTrue ∨ x = oFalse → (plain x).isN = true ∧ (plain x).cln = true := by
        rintro x (rfl | rfl) <;> exact ⟨isN0 (by decide), by decide⟩
      rcases ho with ((rfl | rfl) | rfl) | rfl
      · exact iha _
      · exact ⟨isN1 rfl (iha _).1, by simp [nf, cln_node, Fm.clns, (iha not).2]⟩
      · cases not
        · exact ⟨isN2 (by decide) (hp _ (.inl rfl)).1 (iha _).1, by simp [nf, cln_node, Fm.clns, (iha false).2, (hp oTrue (.inl rfl)).2]⟩
        · exact ⟨isN2 (by decide) (hp _ (.inr rfl)).1 (iha _).1, by simp [nf, cln_node, Fm.clns, (iha true).2, (hp oFalse (.inr rfl)).2]⟩
      · cases not
        · exact ⟨isN2 (by decide) (hp _ (.inr rfl)).1 (iha _).1, by simp [nf, cln_node, Fm.clns, (iha false).2, (hp oFalse (.inr rfl)).2]⟩
        · exact ⟨isN2 (by decide) (hp _ (.inl rfl)).1 (iha _).1, by simp [nf, cln_node, Fm.clns, (iha true).2, (hp oTrue (.inl rfl)).2]⟩
    · have iha := ih a (by simp) ha
      have ihb := ih b (by simp) hb'
      rw [Bool.or_eq_true, Bool.or_eq_true, Bool.or_eq_true, Bool.or_eq_true, Bool.or_eq_true, beq_iff_eq, beq_iff_eq, beq_iff_eq, beq_iff_eq, beq_iff_eq, beq_iff_eq] at ho
      have ca := fun s => (iha s).2
      have cb := fun s => (ihb s).2
      rcases ho with ((((rfl | rfl) | rfl) | rfl) | rfl) | rfl <;> cases not <;>
        first
        | exact ⟨isN2 (by decide) (iha _).1 (ihb _).1, by simp [nf, cln_node, Fm.clns, ca, cb]⟩
        | exact ⟨isN2 (by decide) (ihb _).1 (isN2 (by decide) (iha _).1 (ihb _).1), by simp [nf, cln_node, Fm.clns, ca, cb]⟩

theorem isN_cases {o n : List UInt8} {nl : Bool} {ks : List Fm} {p : Int} (h : (Fm.mk o n nl ks p).isN = true) :
    (ks = [] ∧ (o = oTrue ∨ o = oFalse ∨ o = oLabel)) ∨ (o = oNot ∧ ∃ n' nl' p', ks = [.mk oLabel n' nl' [] p']) ∨ (o = oX ∧ ∃ a, ks = [a] ∧ a.isN = true) ∨
    ((o = oAnd ∨ o = oOr ∨ o = oU ∨ o = oR) ∧ ∃ a b, ks = [a, b] ∧ a.isN = true ∧ b.isN = true) := by
  rw [Fm.isN] at h
  split at h
  · cases h
  rename_i h1
  simp only [Bool.or_eq_true, beq_iff_eq, not_or] at h1
  split at h
  · rename_i h2
    rw [beq_iff_eq] at h2
    unfold notLabel at h
    split at h
    · rename_i o' n' nl' ks' p'
      simp only [Bool.and_eq_true, beq_iff_eq, List.isEmpty_iff] at h
      obtain ⟨rfl, rfl⟩ := h
      exact .inr (.inl ⟨h2, n', nl', p', rfl⟩)
    · cases h
  rename_i h2
  have h2 : o ≠ oNot := by simpa using h2
  simp only [Bool.and_eq_true, beq_iff_eq] at h
  obtain ⟨h3, h4⟩ := h
  rw [isNs_eq] at h4
  unfold kidsN at h3
  split at h3
  · rename_i hh
    have : ks = [] := List.length_eq_zero_iff.1 (by omega)
    refine .inl ⟨this, ?_⟩
    simp only [Bool.or_eq_true, beq_iff_eq] at hh
    rcases hh with (h | h) | h <;> simp [h]
  · split at h3
    · rename_i hh
      obtain ⟨a, rfl⟩ := List.length_eq_one_iff.1 (show ks.length = 1 by omega)
      simp only [Bool.or_eq_true, beq_iff_eq] at hh
      have : o = oX := by
        rcases hh with ((h | h) | h) | h
        · exact absurd h h2
        · exact h
        · exact absurd h h1.1.1.1
        · exact absurd h h1.1.1.2
      exact .inr (.inr (.inl ⟨this, a, rfl, by simpa using h4⟩))
    · split at h3
      · rename_i hh
        rcases ks with _ | ⟨a, _ | ⟨b, _ | ⟨c, r⟩⟩⟩ <;> simp only [List.length_nil, List.length_cons] at h3 <;> try omega
        simp at h4
        simp only [Bool.or_eq_true, beq_iff_eq] at hh
        refine .inr (.inr (.inr ⟨?_, a, b, rfl, h4.1, h4.2⟩))
        rcases hh with ((((h | h) | h) | h) | h) | h
        · exact .inl h
        · exact .inr (.inl h)
        · exact absurd h h1.2
        · exact .inr (.inr (.inl h))
        · exact absurd h h1.1.2
        · exact .inr (.inr (.inr h))
      · omega
theorem isN_form (f : Fm) (h : f.isN = true) : f.form = true := by
  induction f using Fm.ind with
  | h o n nl ks p ih =>
    rcases isN_cases h with ⟨rfl, h1⟩ | ⟨rfl, n', nl', p', rfl⟩ | ⟨rfl, a, rfl, ha⟩ | ⟨ho, a, b, rfl, ha, hb⟩
    · rcases h1 with rfl | rfl | rfl <;> exact form0 (by decide)
    · exact form1 (by decide) (form0 (by decide))
    · exact form1 (by decide) (ih a (by simp) ha)
    · rcases ho with rfl | rfl | rfl | rfl <;> exact form2 (by decide) (ih a (by simp) ha) (ih b (by simp) hb)
theorem cln_mk {o n : List UInt8} {nl : Bool} {ks : List Fm} {p : Int} (h : (Fm.mk o n nl ks p).cln = true) : (o = oLabel ∨ n = []) ∧ ∀ k ∈ ks, k.cln = true := by
  rw [Fm.cln, Bool.and_eq_true, Bool.or_eq_true, beq_iff_eq, List.isEmpty_iff] at h
  refine ⟨h.1, ?_⟩
  have : Fm.clns ks = ks.all Fm.cln := by
    clear h
    induction ks with
    | nil => rfl
    | cons k ks ih => rw [Fm.clns, ih]; rfl
  rw [this, List.all_eq_true] at h
  exact h.2
theorem er_node (o : List UInt8) (ks : List Fm) : (node o ks).er = .mk o [] true (ks.map Fm.er) 0 := by rw [node, er_mk]
theorem nf_id (x : Fm) (h : x.isN = true) (hc : x.cln = true) : (nf x false).er = x.er := by
  induction x using Fm.ind with
  | h o n nl ks p ih =>
    obtain ⟨hn, hk⟩ := cln_mk hc
    rcases isN_cases h with ⟨rfl, h1⟩ | ⟨rfl, n', nl', p', rfl⟩ | ⟨rfl, a, rfl, ha⟩ | ⟨ho, a, b, rfl, ha, hb⟩
    · rcases h1 with rfl | rfl | rfl
      · obtain rfl : n = [] := by rcases hn with h | h; exact absurd h (by decide); exact h
        simp [nf, dn, plain, er_mk]
      · obtain rfl : n = [] := by rcases hn with h | h; exact absurd h (by decide); exact h
        simp [nf, dn, plain, er_mk]
      · simp [nf, er_mk]
    · obtain rfl : n = [] := by rcases hn with h | h; exact absurd h (by decide); exact h
      simp [nf, er_node, er_mk]
    · obtain rfl : n = [] := by rcases hn with h | h; exact absurd h (by decide); exact h
      have := ih a (by simp) ha (hk a (by simp))
      simp [nf, er_node, er_mk, this]
    · have ia := ih a (by simp) ha (hk a (by simp))
      have ib := ih b (by simp) hb (hk b (by simp))
      have hn' : n = [] := by
        rcases hn with h | h
        · subst h; rcases ho with h | h | h | h <;> exact absurd h (by decide)
        · exact h
      subst hn'
      rcases ho with rfl | rfl | rfl | rfl <;> simp [nf, dn, er_node, er_mk, ia, ib]
theorem nf_dual (x : Fm) (h : x.isN = true) (hc : x.cln = true) : (nf (nf x true) true).er = x.er := by
  induction x using Fm.ind with
  | h o n nl ks p ih =>
    obtain ⟨hn, hk⟩ := cln_mk hc
    rcases isN_cases h with ⟨rfl, h1⟩ | ⟨rfl, n', nl', p', rfl⟩ | ⟨rfl, a, rfl, ha⟩ | ⟨ho, a, b, rfl, ha, hb⟩
    · rcases h1 with rfl | rfl | rfl
      · obtain rfl : n = [] := by rcases hn with h | h; exact absurd h (by decide); exact h
        simp [nf, dn, dual, plain, er_mk]
      · obtain rfl : n = [] := by rcases hn with h | h; exact absurd h (by decide); exact h
        simp [nf, dn, dual, plain, er_mk]
      · simp [nf, node, er_mk]
    · obtain rfl : n = [] := by rcases hn with h | h; exact absurd h (by decide); exact h
      simp [nf, er_node, er_mk]
    · obtain rfl : n = [] := by rcases hn with h | h; exact absurd h (by decide); exact h
      have := ih a (by simp) ha (hk a (by simp))
      simp [nf, node, er_mk, this]
    · have ia := ih a (by simp) ha (hk a (by simp))
      have ib := ih b (by simp) hb (hk b (by simp))
      have hn' : n = [] := by
        rcases hn with h | h
        · subst h; rcases ho with h | h | h | h <;> exact absurd h (by decide)
        · exact h
      subst hn'
      rcases ho with rfl | rfl | rfl | rfl <;> simp [nf, dn, dual, node, er_mk, ia, ib]
theorem er_size (f : Fm) : f.er.size = f.size := by
  induction f using Fm.ind with
  | h o n nl ks p ih =>
    rw [er_mk, Fm.size, Fm.size, sizes_eq, sizes_eq, List.map_map]
    congr 2
    exact List.map_congr_left fun k hk => ih k hk

/-! ### Simpler ones -/
theorem op_er (f : Fm) : f.er.op = f.op := by obtain ⟨o, n, nl, ks, p⟩ := f; rfl
theorem op_of_er {a b : Fm} (h : a.er = b.er) : a.op = b.op := by rw [← op_er a, h, op_er]
theorem const_of_er {a b : Fm} (h : a.er = b.er) : isConst a = isConst b := by simp only [isConst, op_of_er h]
theorem same_of_er {a b a' b' : Fm} (h : a.er = a'.er) (h' : b.er = b'.er) : a.same b = a'.same b' := by
  rw [Bool.eq_iff_iff, same_er, same_er, h, h']
theorem pairOr_er {u z : List UInt8} {a b a' b' : Fm} (h : a.er = a'.er) (h' : b.er = b'.er) : (pairOr u z a b).map Fm.er = (pairOr u z a' b').map Fm.er := by
  unfold pairOr
  rw [op_of_er h, op_of_er h']
  split
  · simp [h']
  split
  · simp [h]
  split <;> rfl
theorem pairU_er {u : List UInt8} {a b a' b' : Fm} (h : a.er = a'.er) (h' : b.er = b'.er) : (pairU u a b).map Fm.er = (pairU u a' b').map Fm.er := by
  unfold pairU
  rw [op_of_er h, const_of_er h']
  split
  · simp [h']
  · rfl
theorem pair_er {x a b x' a' b' : Fm} (hx : x.er = x'.er) (h : a.er = a'.er) (h' : b.er = b'.er) : (pair x a b).er = (pair x' a' b').er := by
  unfold pair
  rw [op_of_er hx, same_of_er h h']
  have fin : ∀ r r' : Option Fm, r.map Fm.er = r'.map Fm.er → (match r with | some r => r | none => if a'.same b' = true then a else x).er = (match r' with | some r => r | none => if a'.same b' = true then a' else x').er := by
    intro r r' hr
    cases r <;> cases r' <;> simp at hr
    · dsimp only; split <;> assumption
    · exact hr
  dsimp only
  refine fin _ _ ?_
  split
  · exact pairOr_er h h'
  split
  · exact pairOr_er h h'
  split
  · exact pairU_er h h'
  split
  · exact pairU_er h h'
  · rfl
/-- one step at the top -/
def top1 (o n : List UInt8) (ks : List Fm) : Fm := match ks with
  | [a] => if o == oX && isConst a then a else .mk o n false ks 0
  | [a, b] => pair (.mk o n false ks 0) a b
  | _ => .mk o n false ks 0
theorem simp_top (o n : List UInt8) (nl : Bool) (ks : List Fm) (p : Int) : (Fm.mk o n nl ks p).simp = top1 o n (ks.map Fm.simp) := by
  rw [Fm.simp, simps_eq]; rfl
theorem top1_er {o n : List UInt8} {ks ks' : List Fm} (h : ks.map Fm.er = ks'.map Fm.er) : (top1 o n ks).er = (top1 o n ks').er := by
  have hx : (Fm.mk o n false ks 0).er = (Fm.mk o n false ks' 0).er := by rw [er_mk, er_mk, h]
  have hl : ks.length = ks'.length := by have := congrArg List.length h; simpa using this
  rcases ks with _ | ⟨a, _ | ⟨b, _ | ⟨c, r⟩⟩⟩ <;> rcases ks' with _ | ⟨a', _ | ⟨b', _ | ⟨c', r'⟩⟩⟩ <;> simp only [List.length_nil, List.length_cons] at hl <;> try omega
  · exact hx
  · simp only [List.map_cons, List.map_nil, List.cons.injEq] at h
    show (if (o == oX && isConst a) = true then a else Fm.mk o n false [a] 0).er = (if (o == oX && isConst a') = true then a' else Fm.mk o n false [a'] 0).er
    rw [const_of_er h.1]
    split
    · exact h.1
    · exact hx
  · simp only [List.map_cons, List.map_nil, List.cons.injEq] at h
    exact pair_er hx h.1 h.2.1
  · exact hx
theorem simp_er (a : Fm) : ∀ b : Fm, a.er = b.er → a.simp.er = b.simp.er := by
  induction a using Fm.ind with
  | h o n nl ks p ih =>
    intro b hb
    obtain ⟨o', n', nl', ks', p'⟩ := b
    rw [er_mk, er_mk] at hb
    injection hb with h1 h2 _ h4 _
    subst h1; subst h2
    rw [simp_top, simp_top]
    apply top1_er
    have hlen : ks.length = ks'.length := by have := congrArg List.length h4; simpa using this
    clear p nl nl' p'
    induction ks generalizing ks' with
    | nil => cases ks' with
      | nil => rfl
      | cons k' ks' => simp at hlen
    | cons k ks ihk =>
      cases ks' with
      | nil => simp at hlen
      | cons k' ks' =>
        simp only [List.map_cons, List.cons.injEq] at h4 ⊢
        exact ⟨ih k (by simp) k' h4.1, ihk (fun x hx => ih x (List.mem_cons_of_mem _ hx)) ks' h4.2 (by simpa using hlen)⟩
theorem pair_cases (x a b : Fm) : pair x a b = a ∨ pair x a b = b ∨ pair x a b = plain oTrue ∨ pair x a b = plain oFalse ∨ pair x a b = x := by
  unfold pair pairOr pairU
  dsimp only
  repeat' split
  all_goals rename_i hh; first | (repeat' split at hh) | skip
  all_goals first | (injection hh with hh; subst hh; simp; done) | (cases hh; done) | simp
theorem simp_idem (f : Fm) : f.simp.simp.er = f.simp.er := by
  induction f using Fm.ind with
  | h o n nl ks p ih =>
    rw [simp_top]
    have hk : ∀ k ∈ ks.map Fm.simp, k.simp.er = k.er := by
      intro k hm
      obtain ⟨a, ha, rfl⟩ := List.mem_map.1 hm
      exact ih a ha
    generalize ks.map Fm.simp = ks' at hk
    have self : (top1 o n ks') = .mk o n false ks' 0 → (top1 o n ks').simp.er = (top1 o n ks').er := by
      intro e
      have e1 : (top1 o n (ks'.map Fm.simp)).er = (top1 o n ks').er := top1_er (by rw [List.map_map]; exact List.map_congr_left fun k hm => hk k hm)
      conv => lhs; rw [e, simp_top]
      exact e1
    have pl : ∀ z, (plain z).simp.er = (plain z).er := by intro z; rw [plain, simp_top]; simp [top1, er_mk]
    rcases ks' with _ | ⟨a, _ | ⟨b, _ | ⟨c, r⟩⟩⟩
    · exact self rfl
    · by_cases hc : (o == oX && isConst a) = true
      · have : top1 o n [a] = a := by simp only [top1]; rw [if_pos hc]
        rw [this]; exact hk a (by simp)
      · exact self (by simp only [top1]; rw [if_neg hc])
    · have e : top1 o n [a, b] = pair (.mk o n false [a, b] 0) a b := rfl
      rcases pair_cases (.mk o n false [a, b] 0) a b with h | h | h | h | h
      · rw [e, h]; exact hk a (by simp)
      · rw [e, h]; exact hk b (by simp)
      · rw [e, h]; exact pl _
      · rw [e, h]; exact pl _
      · exact self (by rw [e, h])
    · exact self rfl
theorem pair_size {x a b : Fm} (ha : a.size ≤ x.size) (hb : b.size ≤ x.size) : (pair x a b).size ≤ x.size := by
  have := size_pos x
  rcases pair_cases x a b with h | h | h | h | h <;> rw [h] <;> first | assumption | (rw [size_plain]; omega) | exact Nat.le_refl _
theorem simp_size (f : Fm) : f.simp.size ≤ f.size := by
  induction f using Fm.ind with
  | h o n nl ks p ih =>
    rw [simp_top]
    have hs : Fm.sizes (ks.map Fm.simp) ≤ Fm.sizes ks := by
      clear p nl
      induction ks with
      | nil => exact Nat.le_refl _
      | cons k ks ihk =>
        have h1 := ih k (by simp)
        have h2 := ihk fun x hx => ih x (List.mem_cons_of_mem _ hx)
        simp only [List.map_cons, Fm.sizes]; omega
    generalize ks.map Fm.simp = ks' at hs
    have hm : (Fm.mk o n false ks' 0).size ≤ (Fm.mk o n nl ks p).size := by simp only [Fm.size]; omega
    refine Nat.le_trans ?_ hm
    rcases ks' with _ | ⟨a, _ | ⟨b, _ | ⟨c, r⟩⟩⟩
    · exact Nat.le_refl _
    · simp only [top1]
      split
      · simp only [Fm.size, Fm.sizes]; omega
      · exact Nat.le_refl _
    · exact pair_size (by simp only [Fm.size, Fm.sizes]; omega) (by simp only [Fm.size, Fm.sizes]; omega)
    · exact Nat.le_refl _
theorem simp_isN (f : Fm) (h : f.isN = true) : f.simp.isN = true := by
  induction f using Fm.ind with
  | h o n nl ks p ih =>
    rw [simp_top]
    have pt : (plain oTrue).isN = true := by decide
    have pf : (plain oFalse).isN = true := by decide
    rcases isN_cases h with ⟨rfl, h1⟩ | ⟨rfl, n', nl', p', rfl⟩ | ⟨rfl, a, rfl, ha⟩ | ⟨ho, a, b, rfl, ha, hb⟩
    · exact isN0 h1
    · simp [top1, simp_top, isConst, Fm.isN, notLabel]
    · have ia := ih a (by simp) ha
      simp only [List.map_cons, List.map_nil, top1]
      split
      · exact ia
      · simp [Fm.isN, Fm.isNs, ia, kidsN]
    · have ia := ih a (by simp) ha
      have ib := ih b (by simp) hb
      show (pair (.mk o n false [a.simp, b.simp] 0) a.simp b.simp).isN = true
      rcases pair_cases (.mk o n false [a.simp, b.simp] 0) a.simp b.simp with h | h | h | h | h <;> rw [h] <;> try assumption
      rcases ho with rfl | rfl | rfl | rfl <;> simp [Fm.isN, Fm.isNs, ia, ib, kidsN]
end Go.Abs
