/- Formulas: their values; the functions of nnf and prop on them. -/
import Derived.Test.YtiefbkjoldcebaaDoorXxMono
namespace Go.Abs

inductive Fm where
  | mk (op name : List UInt8) (nl : Bool) (kids : List Fm) (pos : Int)
  deriving Inhabited
namespace Fm
def op : Fm → List UInt8 | mk o _ _ _ _ => o
def name : Fm → List UInt8 | mk _ n _ _ _ => n
def nl : Fm → Bool | mk _ _ b _ _ => b
def kids : Fm → List Fm | mk _ _ _ k _ => k
def pos : Fm → Int | mk _ _ _ _ p => p
theorem ind {P : Fm → Prop} (h : ∀ o n b ks p, (∀ k ∈ ks, P k) → P (mk o n b ks p)) : ∀ f, P f := by
  intro f
  induction f using Fm.rec (motive_2 := fun ks => ∀ k ∈ ks, P k) with
  | mk o n b ks p ih => exact h o n b ks p ih
  | nil => rename_i h; cases h
  | cons k ks ih1 ih2 =>
    rename_i x hx
    rcases List.mem_cons.1 hx with rfl | hx
    · exact ih1
    · exact ih2 x hx
mutual
def av : Fm → AV
  | mk o n b ks p => .agg [.str o, .str n, .list b 4 (avs ks), .int .i64 p]
def avs : List Fm → List AV
  | [] => []
  | k :: ks => av k :: avs ks
end
theorem avs_eq : ∀ ks : List Fm, avs ks = ks.map av
  | [] => rfl
  | k :: ks => by simp only [avs, List.map_cons, avs_eq ks]
theorem av_mk (o n : List UInt8) (b : Bool) (ks : List Fm) (p : Int) : (mk o n b ks p).av = .agg [.str o, .str n, .list b 4 (ks.map av), .int .i64 p] := by
  rw [av, avs_eq]
def zero : Fm := mk [] [] true [] 0
end Fm
open Fm

theorem shape_av (f : Fm) : shape 4 true f.av = some f.av := by
  cases f; rw [av_mk]; rfl
theorem shape_s (f : Fm) : std.shape 4 true f.av = some f.av := shape_av f
theorem ld_av (f : Fm) : std.ev (.ld 4 true) [.ro f.av 0] = some f.av := by
  cases f; rw [av_mk]; rfl
theorem box_av (f : Fm) : std.ev (.boxro 4 true) [f.av] = some (.ro f.av 0) := by
  cases f; rw [av_mk]; rfl
theorem idx_av {nl : Bool} {ks : List Fm} {i : Nat} (h : i < ks.length) : std.ev (.idxAddr 4) [.list nl 4 (ks.map av), .int .i64 (i : Int)] = some (.ro (ks[i]).av 0) :=
  ev_idx (by simp [h])

theorem mkl1 (a : Fm) : std.ev (.mkList 4 true) [a.av] = some (.list false 4 [a.av]) := by
  rw [std_ev]; simp only [evalP, shapes, shape_av]
theorem mkl2 (a b : Fm) : std.ev (.mkList 4 true) [a.av, b.av] = some (.list false 4 [a.av, b.av]) := by
  rw [std_ev]; simp only [evalP, shapes, shape_av]
/-! ### kids -/
abbrev oTrue : List UInt8 := [116, 114, 117, 101]
abbrev oFalse : List UInt8 := [102, 97, 108, 115, 101]
abbrev oLabel : List UInt8 := [108, 97, 98, 101, 108]
abbrev oNot : List UInt8 := [33]
abbrev oX : List UInt8 := [88]
abbrev oF : List UInt8 := [70]
abbrev oG : List UInt8 := [71]
abbrev oAnd : List UInt8 := [38]
abbrev oOr : List UInt8 := [124]
abbrev oImp : List UInt8 := [61, 62]
abbrev oU : List UInt8 := [85]
abbrev oW : List UInt8 := [87]
abbrev oR : List UInt8 := [82]
def kidsN (op : List UInt8) : Int :=
  if op == oTrue || op == oFalse || op == oLabel then 0
  else if op == oNot || op == oX || op == oF || op == oG then 1
  else if op == oAnd || op == oOr || op == oImp || op == oU || op == oW || op == oR then 2
  else -1
theorem kidsN_le (op : List UInt8) : kidsN op ≤ 2 := by unfold kidsN; split <;> (try split) <;> (try split) <;> omega
theorem c14 (op : List UInt8) (h : H) : Wc 14 [.str op] h = some (.int .i64 (kidsN op), h) := by
  refine w14 ?_
  unfold sh14
  (repeat' first | refine bv_s rfl ?_ | refine withK_s ?_)
  refine if_s (fun h1 => if_t h1 ?_) (fun h1 => ?_)
  · simp [kidsN, h1]; rfl
  (repeat' first | refine bv_s rfl ?_ | refine withK_s ?_)
  refine if_s (fun h2 => if_t h2 ?_) (fun h2 => ?_)
  · simp [kidsN, h2]; rfl
  (repeat' first | refine bv_s rfl ?_ | refine withK_s ?_)
  refine if_s (fun h3 => ?_) (fun h3 => ?_)
  · simp [kidsN, h3]; rfl
  show sh14_J3 std Wc (.str op) h = _
  unfold sh14_J3
  (repeat' first | refine bv_s rfl ?_ | refine withK_s ?_)
  refine if_s (fun h4 => if_t h4 ?_) (fun h4 => ?_)
  · simp [kidsN, h1, h2, h3, h4]; rfl
  (repeat' first | refine bv_s rfl ?_ | refine withK_s ?_)
  refine if_s (fun h5 => if_t h5 ?_) (fun h5 => ?_)
  · simp [kidsN, h1, h2, h3, h5]; rfl
  (repeat' first | refine bv_s rfl ?_ | refine withK_s ?_)
  refine if_s (fun h6 => if_t h6 ?_) (fun h6 => ?_)
  · simp [kidsN, h1, h2, h3, h6]; rfl
  (repeat' first | refine bv_s rfl ?_ | refine withK_s ?_)
  refine if_s (fun h7 => ?_) (fun h7 => ?_)
  · simp [kidsN, h1, h2, h3, h7]; rfl
  show sh14_J2 std Wc (.str op) h = _
  unfold sh14_J2
  (repeat' first | refine bv_s rfl ?_ | refine withK_s ?_)
  refine if_s (fun h8 => if_t h8 ?_) (fun h8 => ?_)
  · simp [kidsN, h1, h2, h3, h4, h5, h6, h7, h8]; rfl
  (repeat' first | refine bv_s rfl ?_ | refine withK_s ?_)
  refine if_s (fun h9 => if_t h9 ?_) (fun h9 => ?_)
  · simp [kidsN, h1, h2, h3, h4, h5, h6, h7, h8, h9]; rfl
  (repeat' first | refine bv_s rfl ?_ | refine withK_s ?_)
  refine if_s (fun h10 => ?_) (fun h10 => ?_)
  · simp [kidsN, h1, h2, h3, h4, h5, h6, h7, h8, h9, h10]; rfl
  show sh14_J1 std Wc (.str op) h = _
  unfold sh14_J1
  (repeat' first | refine bv_s rfl ?_ | refine withK_s ?_)
  refine if_s (fun h11 => if_t h11 ?_) (fun h11 => ?_)
  · simp [kidsN, h1, h2, h3, h4, h5, h6, h7, h8, h9, h10, h11]; rfl
  (repeat' first | refine bv_s rfl ?_ | refine withK_s ?_)
  refine if_s (fun h12 => if_t h12 ?_) (fun h12 => ?_)
  · simp [kidsN, h1, h2, h3, h4, h5, h6, h7, h8, h9, h10, h11, h12]; rfl
  (repeat' first | refine bv_s rfl ?_ | refine withK_s ?_)
  refine if_s (fun h13 => ?_) (fun h13 => ?_)
  · simp [kidsN, h1, h2, h3, h4, h5, h6, h7, h8, h9, h10, h11, h12, h13]; rfl
  · simp [kidsN, h1, h2, h3, h4, h5, h6, h7, h8, h9, h10, h11, h12, h13]; rfl

/-! ### form -/
mutual
def Fm.form : Fm → Bool
  | .mk o _ _ ks _ => (kidsN o == ks.length) && Fm.forms ks
def Fm.forms : List Fm → Bool
  | [] => true
  | k :: ks => Fm.form k && Fm.forms ks
end
theorem forms_eq : ∀ ks, Fm.forms ks = ks.all Fm.form
  | [] => rfl
  | k :: ks => by rw [Fm.forms, forms_eq ks]; rfl
theorem form_mk (o n : List UInt8) (b : Bool) (ks : List Fm) (p : Int) : (Fm.mk o n b ks p).form = ((kidsN o == ks.length) && ks.all Fm.form) := by
  rw [Fm.form, forms_eq]
theorem lt_dec {a b : Nat} : decide ((a : Int) < (b : Int)) = decide (a < b) := by simp
theorem wrapNat {n : Nat} (h : n < 9223372036854775808) : IntKind.i64.wrap (n : Int) = n := wrap64 (by omega) (by omega)
theorem drop_all {α : Type} (p : α → Bool) (xs : List α) (i : Nat) (h : i < xs.length) : (xs.drop i).all p = (p xs[i] && (xs.drop (i + 1)).all p) := by
  rw [List.drop_eq_getElem_cons h]; rfl

theorem succ64 {n : Nat} (h : n < 9223372036854775807) : IntKind.i64.wrap ((n : Int) + 1) = ((n + 1 : Nat) : Int) := wrap64 (by omega) (by omega)
theorem c15 (f : Fm) : ∀ (h : H), Wc 15 [f.av] h = some (.bool f.form, h) := by
  induction f using Fm.ind with
  | h o n b ks p ih =>
    intro h
    refine w15 ?_
    rw [av_mk]
    unfold sh15
    (repeat' first | refine bv_s rfl ?_ | refine withK_s ?_)
    refine br_s (c14 o h) ?_
    (repeat' first | refine bv_s rfl ?_ | refine withK_s ?_)
    refine if_s (fun hk => ?_) (fun hk => ?_)
    · have : (kidsN o == (ks.length : Int)) = false := by simpa using hk
      rw [form_mk, this]; rfl
    have hk' : (kidsN o == (ks.length : Int)) = true := by simpa using hk
    rw [form_mk, hk', Bool.true_and]
    (repeat' first | refine bv_s rfl ?_ | refine withK_s ?_)
    have := loop_ind (sh15_L1_F Wc) (σ := Nat) (fun i => i ≤ ks.length) (fun i => ([.list b 4 (ks.map av), .int .i64 ks.length, .int .i64 i], h)) (fun i => ks.length - i)
      (fun i => (.bool ((ks.drop i).all Fm.form), h)) (fun K i hi hK => by
        show sh15_L1 std Wc K (.list b 4 (ks.map av)) (.int .i64 ks.length) (.int .i64 i) h = _
        unfold sh15_L1
        (repeat' first | refine bv_s rfl ?_ | refine withK_s ?_)
        refine if_s (fun h1 => ?_) (fun h1 => ?_)
        · have hlt : i < ks.length := by simpa using h1
          refine bv_s (idx_av hlt) ?_
          refine bv_s (ld_av _) ?_
          (repeat' first | refine bv_s rfl ?_ | refine withK_s ?_)
          refine bv_s (shape_s _) ?_
          refine br_s (ih _ (List.getElem_mem hlt) h) ?_
          (repeat' first | refine bv_s rfl ?_ | refine withK_s ?_)
          rw [drop_all _ _ _ hlt]
          refine if_s (fun h2 => ?_) (fun h2 => ?_)
          · have : (ks[i]).form = false := by simpa using h2
            rw [this]; rfl
          · have : (ks[i]).form = true := by simpa using h2
            rw [this]
            (repeat' first | refine bv_s rfl ?_ | refine withK_s ?_)
            have hl : (ks.length : Int) ≤ 2 := by have := kidsN_le o; simp only [beq_iff_eq] at hk'; omega
            rw [succ64 (by omega)]
            exact hK (i + 1) hlt (by omega)
        · have : i = ks.length := by simp at h1; omega
          subst this
          simp; rfl) 0 (Nat.zero_le _)
    simpa using this
end Go.Abs
