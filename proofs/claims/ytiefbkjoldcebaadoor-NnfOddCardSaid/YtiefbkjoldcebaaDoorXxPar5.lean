/- What Parse answers is a formula with operations that are, no larger than the text. -/
import Derived.Test.YtiefbkjoldcebaaDoorXxPar4
namespace Go.Abs
open Fm

theorem and_ok {r : PR} {k : Fm → Nat → PR} {g : Fm} (h : (andThen r k).1 = .ok g) : ∃ f, r.1 = .ok f ∧ (k f r.2).1 = .ok g ∧ andThen r k = k f r.2 := by
  unfold andThen at h ⊢
  split at h
  · rename_i f hf
    exact ⟨f, hf, h, rfl⟩
  · cases h
def GoodF (ts : List Tok) (f : Nat → PR) : Prop := ∀ a, a < ts.length → ∀ g, (f a).1 = .ok g → g.form = true ∧ g.size + a ≤ (f a).2
theorem form1 {o n : List UInt8} {nl : Bool} {f : Fm} {p : Int} (ho : kidsN o = 1) (hf : f.form = true) : (Fm.mk o n nl [f] p).form = true := by
  rw [form_mk, ho]; simp [hf]
theorem form2 {o n : List UInt8} {nl : Bool} {f g : Fm} {p : Int} (ho : kidsN o = 2) (hf : f.form = true) (hg : g.form = true) : (Fm.mk o n nl [f, g] p).form = true := by
  rw [form_mk, ho]; simp [hf, hg]
theorem form0 {o n : List UInt8} {nl : Bool} {p : Int} (ho : kidsN o = 0) : (Fm.mk o n nl [] p).form = true := by
  rw [form_mk, ho]; simp
theorem form_setPos (f : Fm) (p : Int) : (setPos f p).form = f.form ∧ (setPos f p).size = f.size := by
  obtain ⟨o, n, nl, ks, q⟩ := f
  exact ⟨by rw [setPos, form_mk, form_mk]; rfl, by simp [setPos, Fm.size, Fm.kids]⟩
theorem good_right {ts : List Tok} (ht : Toks ts) {next : Nat → PR} (hn : GoodF ts next) (gn : Goes ts next) : ∀ ops, (∀ op ∈ ops, kidsN op = 2) → ∀ f a, a < ts.length → f.form = true → ∀ g, (rightS ts next ops f a).1 = .ok g → g.form = true ∧ g.size + a ≤ (rightS ts next ops f a).2 + f.size
  | [], _, f, a, ha, hf, g, h => by
    simp only [rightS] at h ⊢
    injection h with h; subst h
    exact ⟨hf, by omega⟩
  | op :: ops, ho, f, a, ha, hf, g, h => by
    unfold rightS at h ⊢
    split at h
    · rename_i hi
      rw [if_pos hi]
      have h1 := next_lt ht ha (isTok_kind hi)
      obtain ⟨x, e1, e2, e3⟩ := and_ok h
      rw [e3]
      injection e2 with e2; subst e2
      obtain ⟨k1, k2⟩ := hn _ h1 x e1
      refine ⟨form2 (ho op (by simp)) hf k1, ?_⟩
      simp only [two, Fm.size, Fm.sizes]
      omega
    · rename_i hi
      rw [if_neg hi]
      exact good_right ht hn gn ops (fun o ho' => ho o (by simp [ho'])) f a ha hf g h
theorem good_chainL {ts : List Tok} (ht : Toks ts) {op : List UInt8} (hop : kidsN op = 2) {one : Nat → PR} (ho : GoodF ts one) (go : Goes ts one) : ∀ n f a, a < ts.length → f.form = true → ∀ g, (chainL ts op one n f a).1 = .ok g → g.form = true ∧ g.size + a ≤ (chainL ts op one n f a).2 + f.size
  | 0, f, a, ha, hf, g, h => by
    simp only [chainL] at h ⊢
    injection h with h; subst h
    exact ⟨hf, by omega⟩
  | n + 1, f, a, ha, hf, g, h => by
    unfold chainL at h ⊢
    split at h
    · rename_i hi
      rw [if_pos hi]
      have h1 := next_lt ht ha (isTok_kind hi)
      obtain ⟨x, e1, e2, e3⟩ := and_ok h
      rw [e3]
      obtain ⟨k1, k2⟩ := ho _ h1 x e1
      have := good_chainL ht hop ho go n (two op f x) (one (a + 1)).2 (go _ h1).2 (form2 hop hf k1) g e2
      refine ⟨this.1, ?_⟩
      have h3 := this.2
      simp only [two, Fm.size, Fm.sizes] at h3
      simp only [two]
      omega
    · rename_i hi
      rw [if_neg hi]
      injection h with h; subst h
      exact ⟨hf, by dsimp only; omega⟩
theorem good_chain {ts : List Tok} (ht : Toks ts) {op : List UInt8} (hop : kidsN op = 2) {one : Nat → PR} (ho : GoodF ts one) (go : Goes ts one) : GoodF ts (chainS ts op one) := by
  intro a ha g h
  unfold chainS at h ⊢
  obtain ⟨x, e1, e2, e3⟩ := and_ok h
  rw [e3]
  obtain ⟨k1, k2⟩ := ho _ ha x e1
  have := good_chainL ht hop ho go _ x _ (go _ ha).2 k1 g e2
  exact ⟨this.1, by omega⟩
theorem isTok_text {t : Tok} {x : List UInt8} (h : isTok t x = true) : t.text = x := by
  simp only [isTok, Bool.and_eq_true, beq_iff_eq] at h; exact h.2
theorem good_single {ts : List Tok} (ht : Toks ts) {s i : Nat → PR} (hs : GoodF ts s) (hi : GoodF ts i) : GoodF ts (singleB ts s i) := by
  intro a ha g h
  unfold singleB at h ⊢
  dsimp only at h ⊢
  split at h
  · rename_i hk
    rw [if_pos hk]
    injection h with h; subst h
    exact ⟨form0 (by decide), by simp [Fm.size, Fm.sizes]; omega⟩
  rename_i hk
  rw [if_neg hk]
  split at h
  · rename_i hk
    rw [if_pos hk]
    injection h with h; subst h
    refine ⟨form0 ?_, by simp [Fm.size, Fm.sizes]; omega⟩
    rcases Bool.or_eq_true_iff.1 hk with e | e <;> rw [isTok_text e] <;> decide
  rename_i hk
  rw [if_neg hk]
  split at h
  · rename_i hk
    rw [if_pos hk]
    have hk1 : kidsN (peek ts a).text = 1 ∧ (peek ts a).kind ≠ 0 := by
      rcases Bool.or_eq_true_iff.1 hk with e | e
      · rcases Bool.or_eq_true_iff.1 e with e | e
        · rcases Bool.or_eq_true_iff.1 e with e | e <;> exact ⟨by rw [isTok_text e]; decide, isTok_kind e⟩
        · exact ⟨by rw [isTok_text e]; decide, isTok_kind e⟩
      · exact ⟨by rw [isTok_text e]; decide, isTok_kind e⟩
    have h1 := next_lt ht ha hk1.2
    obtain ⟨x, e1, e2, e3⟩ := and_ok h
    rw [e3]
    injection e2 with e2; subst e2
    obtain ⟨k1, k2⟩ := hs _ h1 x e1
    refine ⟨form1 hk1.1 k1, ?_⟩
    simp only [Fm.size, Fm.sizes]
    omega
  rename_i hk
  rw [if_neg hk]
  split at h
  · rename_i hk
    rw [if_pos hk]
    have h1 := next_lt ht ha (isTok_kind hk)
    obtain ⟨x, e1, e2, e3⟩ := and_ok h
    rw [e3]
    obtain ⟨k1, k2⟩ := hi _ h1 x e1
    split at e2
    · rename_i hh
      rw [if_pos hh]
      injection e2 with e2; subst e2
      obtain ⟨q1, q2⟩ := form_setPos x (peek ts a).pos
      exact ⟨q1.trans k1, by rw [q2]; dsimp only; omega⟩
    · cases e2
  · cases h
theorem good_until {ts : List Tok} (ht : Toks ts) {s u : Nat → PR} (hs : GoodF ts s) (gs : Goes ts s) (hu : GoodF ts u) (gu : Goes ts u) : GoodF ts (untilB ts s u) := by
  intro a ha g h
  unfold untilB at h ⊢
  obtain ⟨x, e1, e2, e3⟩ := and_ok h
  rw [e3]
  obtain ⟨k1, k2⟩ := hs _ ha x e1
  have := good_right ht hu gu [oU, oW, oR] (by decide) x _ (gs a ha).2 k1 g e2
  exact ⟨this.1, by omega⟩
theorem good_imply {ts : List Tok} (ht : Toks ts) {u i : Nat → PR} (hu : GoodF ts u) (gu : Goes ts u) (hi : GoodF ts i) (gi : Goes ts i) : GoodF ts (implyB ts u i) := by
  intro a ha g h
  unfold implyB at h ⊢
  obtain ⟨x, e1, e2, e3⟩ := and_ok h
  rw [e3]
  have gc := goes_chain ht (op := oOr) (goes_chain ht (op := oAnd) gu)
  obtain ⟨k1, k2⟩ := good_chain ht (by decide) (good_chain ht (by decide) hu gu) (goes_chain ht gu) _ ha x e1
  have := good_right ht hi gi [oImp] (by decide) x _ (gc a ha).2 k1 g e2
  exact ⟨this.1, by omega⟩
theorem good_lev {ts : List Tok} (ht : Toks ts) : ∀ n, GoodF ts (lev ts n).s ∧ GoodF ts (lev ts n).u ∧ GoodF ts (lev ts n).i
  | 0 => by
    have : GoodF ts (deep ts) := fun a _ g h => by cases h
    exact ⟨this, this, this⟩
  | n + 1 => by
    obtain ⟨h1, h2, h3⟩ := good_lev ht n
    obtain ⟨g1, g2, g3⟩ := goes_lev ht n
    have hs := good_single ht h1 h3
    have gs := goes_single ht g1 g3
    have hu := good_until ht hs gs h2 g2
    have gu := goes_until ht gs g2
    exact ⟨hs, hu, good_imply ht hu gu h3 g3⟩
theorem toks_len {s : List UInt8} {d : Int} {ts : List Tok} (h : afterToks s d = .ok ts) : Toks ts ∧ 0 < ts.length ∧ ts.length ≤ s.length + 1 ∧ 1 ≤ d ∧ d ≤ 64 := by
  unfold afterToks at h
  split at h
  · cases h
  split at h
  · cases h
  split at h
  · cases h
  rename_i ts' ht
  injection h with h; subst h
  obtain ⟨k1, k2⟩ := tokens_ok (by omega) ht
  obtain ⟨_, h2, _⟩ := toksL_len _ _ _ ht
  rw [List.length_drop] at h2
  exact ⟨k1, k2, by omega, by omega, by omega⟩
theorem parse_form {s : List UInt8} {d : Int} {f : Fm} (h : parse s d = .ok f) : f.form = true ∧ f.size ≤ s.length := by
  unfold parse at h
  split at h
  · cases h
  rename_i ts ht
  obtain ⟨k1, k2, k3, _, _⟩ := toks_len ht
  have hg := (good_lev k1 d.toNat).2.2 0 k2
  have gg := (goes_lev k1 d.toNat).2.2 0 k2
  split at h
  · cases h
  · rename_i g a hr
    split at h
    · cases h
    · injection h with h; subst h
      rw [hr] at hg gg
      obtain ⟨q1, q2⟩ := hg g rfl
      exact ⟨q1, by dsimp only at q2 gg; omega⟩
end Go.Abs
