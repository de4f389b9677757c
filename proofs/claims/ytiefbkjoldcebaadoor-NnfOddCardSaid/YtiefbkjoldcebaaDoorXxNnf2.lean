/- nnf: Size, Normal, Is, Same, Simple; Num. -/
import Derived.Test.YtiefbkjoldcebaaDoorXxNnf
namespace Go.Abs
open Fm

theorem ret_s {v : AV} {h : H} : std.ret v h = some (v, h) := rfl
theorem under_av (n : Nat) (f : Fm) : f.av.under n = true := by
  induction f using Fm.ind with
  | h o m nl ks p ih =>
    rw [av_mk]
    have : AV.underL n (ks.map av) = true := by
      induction ks with
      | nil => rfl
      | cons k ks ihk =>
        simp only [List.map_cons, AV.underL, Bool.and_eq_true]
        exact ⟨ih k (by simp), ihk fun x hx => ih x (List.mem_cons_of_mem _ hx)⟩
    simp [AV.under, AV.underL, this]

/-! ### Size -/
mutual
def Fm.size : Fm → Nat
  | .mk _ _ _ ks _ => 1 + Fm.sizes ks
def Fm.sizes : List Fm → Nat
  | [] => 0
  | k :: ks => Fm.size k + Fm.sizes ks
end
theorem size_pos (f : Fm) : 1 ≤ f.size := by cases f; simp [Fm.size]
theorem sizes_eq : ∀ ks, Fm.sizes ks = (ks.map Fm.size).sum
  | [] => rfl
  | k :: ks => by simp [Fm.sizes, sizes_eq ks]
mutual
/-- few kids everywhere -/
def Fm.few : Fm → Bool
  | .mk _ _ _ ks _ => Nat.ble ks.length 1000000 && Fm.fews ks
def Fm.fews : List Fm → Bool
  | [] => true
  | k :: ks => Fm.few k && Fm.fews ks
end
theorem fews_eq : ∀ ks, Fm.fews ks = ks.all Fm.few
  | [] => rfl
  | k :: ks => by rw [Fm.fews, fews_eq ks]; rfl
theorem few_mk {o n : List UInt8} {b : Bool} {ks : List Fm} {p : Int} (h : (Fm.mk o n b ks p).few = true) : ks.length ≤ 1000000 ∧ ∀ k ∈ ks, k.few = true := by
  rw [Fm.few, fews_eq, Bool.and_eq_true, List.all_eq_true] at h
  exact ⟨Nat.le_of_ble_eq_true h.1, h.2⟩
theorem few_of {o n : List UInt8} {b : Bool} {ks : List Fm} {p : Int} (h1 : ks.length ≤ 1000000) (h2 : ∀ k ∈ ks, k.few = true) : (Fm.mk o n b ks p).few = true := by
  rw [Fm.few, fews_eq, Bool.and_eq_true, List.all_eq_true]
  exact ⟨Nat.ble_eq_true_of_le h1, h2⟩
def sizeP (f : Fm) : Nat := min f.size 4097
theorem min_add (a b : Nat) : min (min (1 + a) 4097 + min b 4097) 4097 = min (1 + (a + b)) 4097 := by omega
theorem c16 (f : Fm) (hf : f.few = true) : ∀ (h : H), Wc 16 [f.av] h = some (.int .i64 (sizeP f), h) := by
  induction f using Fm.ind with
  | h o n b ks p ih =>
    intro h
    obtain ⟨hl, hk⟩ := few_mk hf
    refine w16 ?_
    rw [av_mk]
    unfold sh16
    (repeat' first | refine bv_s rfl ?_ | refine withK_s ?_)
    have := loop_ind (sh16_L1_F Wc) (σ := Nat) (fun i => i ≤ ks.length)
      (fun i => ([.int .i64 ((min (1 + Fm.sizes (ks.take i)) 4097 : Nat) : Int), .list b 4 (ks.map av), .int .i64 (ks.map av).length, .int .i64 i], h)) (fun i => ks.length - i)
      (fun i => (.int .i64 (sizeP (.mk o n b ks p)), h)) (fun K i hi hK => by
        show sh16_L1 std Wc K _ _ _ (.int .i64 i) h = _
        unfold sh16_L1
        (repeat' first | refine bv_s rfl ?_ | refine withK_s ?_)
        refine if_s (fun h1 => ?_) (fun h1 => ?_)
        · have hlt : i < ks.length := by simpa using h1
          refine bv_s (idx_av hlt) ?_
          refine bv_s (ld_av _) ?_
          (repeat' first | refine bv_s rfl ?_ | refine withK_s ?_)
          refine bv_s (shape_s _) ?_
          have hn := hK (i + 1) hlt (by omega)
          have et : Fm.sizes (ks.take (i + 1)) = Fm.sizes (ks.take i) + Fm.size ks[i] := by
            rw [sizes_eq, sizes_eq, List.take_add_one, List.getElem?_eq_getElem hlt, List.map_append, List.sum_append]; simp
          rw [et] at hn
          (repeat' first | refine bv_s rfl ?_ | refine withK_s ?_)
          refine if_s (fun h2 => ?_) (fun h2 => ?_)
          · refine br_s (ih _ (List.getElem_mem hlt) (hk _ (List.getElem_mem hlt)) h) ?_
            (repeat' first | refine bv_s rfl ?_ | refine withK_s ?_)
            have e4 : IntKind.i64.wrap (((min (1 + Fm.sizes (ks.take i)) 4097 : Nat) : Int) + ((sizeP ks[i] : Nat) : Int)) = ((min (1 + Fm.sizes (ks.take i)) 4097 : Nat) : Int) + ((sizeP ks[i] : Nat) : Int) := wrap64 (by omega) (by simp only [sizeP]; omega)
            have e3 : (if (4097 : Int) < ((min (1 + Fm.sizes (ks.take i)) 4097 : Nat) : Int) + ((sizeP ks[i] : Nat) : Int) then (4097 : Int) else ((min (1 + Fm.sizes (ks.take i)) 4097 : Nat) : Int) + ((sizeP ks[i] : Nat) : Int)) = ((min (1 + (Fm.sizes (ks.take i) + Fm.size ks[i])) 4097 : Nat) : Int) := by
              by_cases hh : (4097 : Int) < ((min (1 + Fm.sizes (ks.take i)) 4097 : Nat) : Int) + ((sizeP ks[i] : Nat) : Int)
              · rw [if_pos hh]; simp only [sizeP] at hh; omega
              · rw [if_neg hh]; simp only [sizeP] at hh ⊢; omega
            rw [succ64 (by omega), e4, e3]
            exact hn
          · (repeat' first | refine bv_s rfl ?_ | refine withK_s ?_)
            rw [succ64 (by omega)]
            have h2' : ¬ (((min (1 + Fm.sizes (ks.take i)) 4097 : Nat) : Int) ≤ 4096) := by simpa using h2
            have e2 : min (1 + (Fm.sizes (ks.take i) + Fm.size ks[i])) 4097 = min (1 + Fm.sizes (ks.take i)) 4097 := by omega
            rw [e2] at hn
            exact hn
        · have hlt : i = ks.length := by simp at h1; omega
          subst hlt
          simp only [List.take_length]
          show some (AV.int .i64 ((min (1 + Fm.sizes ks) 4097 : Nat) : Int), h) = _
          simp only [sizeP, Fm.size]) 0 (Nat.zero_le _)
    simpa [Fm.sizes] using this

/-! ### Normal -/
theorem depth_size (f : Fm) : f.depth ≤ f.size := by
  induction f using Fm.ind with
  | h o n nl ks p ih =>
    rcases ks with _ | ⟨a, _ | ⟨b, _ | ⟨c, r⟩⟩⟩
    · simp [Fm.depth, Fm.size, Fm.sizes]
    · have := ih a (by simp); simp [Fm.depth, Fm.size, Fm.sizes]; omega
    · have := ih a (by simp); have := ih b (by simp); simp [Fm.depth, Fm.size, Fm.sizes]; omega
    · simp [Fm.depth, Fm.size, Fm.sizes]
theorem few_form (f : Fm) (hf : f.form = true) : f.few = true := by
  induction f using Fm.ind with
  | h o n nl ks p ih =>
    rcases form_cases hf with ⟨rfl, _⟩ | ⟨a, rfl, ha, _⟩ | ⟨a, b, rfl, ha, hb, _⟩
    · exact few_of (by simp) (by simp)
    · exact few_of (by simp) (by intro k hk; simp at hk; subst hk; exact ih _ (by simp) ha)
    · exact few_of (by simp) (by intro k hk; simp at hk; rcases hk with rfl | rfl; exact ih _ (by simp) ha; exact ih _ (by simp) hb)
abbrev errno (n : Int) : AV := .iface 0 (.int .i64 n)
/-- what Normal answers -/
def normal (f : Fm) (not : Bool) : Fm × AV :=
  if f.form = false then (zero, errno 1)
  else if f.size > 4096 then (zero, errno 2)
  else if (make f not 4096).2 < 0 then (zero, errno 2)
  else ((make f not 4096).1, .nili)
theorem trunc_mk1 (h : H) (c : Blk) (fl : List Nat) (l : Int) : H.trunc (mk1 (({ h with floors := fl } : H).push c) h.size l) h.size h.floors = h := by
  cases h
  simp [H.trunc, mk1, H.set, H.push, H.size]
theorem rett_s {h0 h : H} {v : AV} {h' : H} (hu : v.under h0.size = true) (ht : h.trunc h0.size h0.floors = h') : std.rett h0 v h = some (v, h') := by
  show (if v.under h0.size = true then some (v, h.trunc h0.size h0.floors) else none) = _
  rw [if_pos hu, ht]
theorem trunc_self (h : H) (fl : List Nat) : H.trunc ({ h with floors := fl } : H) h.size h.floors = h := by
  cases h; simp [H.trunc, H.size]
theorem under_pair (n : Nat) (f : Fm) (e : AV) (he : e.under n = true) : (AV.tuple [f.av, e]).under n = true := by
  simp [AV.under, AV.underL, under_av, he]
theorem c3 (f : Fm) (not : Bool) (h : H) (hf : f.few = true) : Wc 3 [f.av, .bool not] h = some (.tuple [(normal f not).1.av, (normal f not).2], h) := by
  refine w3 ?_
  unfold sh3
  refine bv_s (box_av _) ?_
  (repeat' first | refine bv_s rfl ?_ | refine withK_s ?_)
  refine bv_s (ld_av _) ?_
  refine br_s (c15 f _) ?_
  (repeat' first | refine bv_s rfl ?_ | refine withK_s ?_)
  refine if_s (fun h1 => ?_) (fun h1 => ?_)
  · have h1' : f.form = false := by simpa using h1
    simp only [normal, h1', if_true]
    (repeat' first | refine bv_s rfl ?_ | refine withK_s ?_)
    exact rett_s (under_pair _ zero _ rfl) (trunc_self _ _)
  have h1' : f.form = true := by simpa using h1
  have e1 : ¬ (f.form = false) := by rw [h1']; simp
  simp only [normal, if_neg e1]
  refine bv_s (ld_av _) ?_
  refine br_s (c16 f hf _) ?_
  (repeat' first | refine bv_s rfl ?_ | refine withK_s ?_)
  refine if_s (fun h2 => ?_) (fun h2 => ?_)
  · have h2' : f.size > 4096 := by have h2 := of_decide_eq_true h2; simp only [sizeP] at h2; omega
    rw [if_pos h2']
    (repeat' first | refine bv_s rfl ?_ | refine withK_s ?_)
    exact rett_s (under_pair _ zero _ rfl) (trunc_self _ _)
  have h2' : ¬ (f.size > 4096) := by have h2 := of_decide_eq_false h2; simp only [sizeP] at h2; omega
  rw [if_neg h2']
  (repeat' first | refine bv_s rfl ?_ | refine withK_s ?_)
  refine bv_s (ld_av _) ?_
  have hpush : ∀ g : H, g.push (.cells 1 true (.agg [.int .i64 4096]) []) = mk1 (g.push (.cells 1 true (.agg [.int .i64 4096]) [])) g.size 4096 := by
    intro g; cases g; simp [H.push, mk1, H.set, H.size]
  have hb : ∀ (g : H) c, g.size < (g.push c).size := by intro g c; simp [H.push, H.size]
  have e := c17 f h1' (by have := depth_size f; omega) (({ h with floors := H.size h :: h.floors } : H).push (.cells 1 true (.agg [.int .i64 4096]) [])) (H.size ({ h with floors := H.size h :: h.floors } : H)) not 4096 (hb _ _) (by omega) (by omega)
  rw [← hpush] at e
  refine br_s e ?_
  (repeat' first | refine bv_s rfl ?_ | refine withK_s ?_)
  refine bv_s (shape_s _) ?_
  (repeat' first | refine bv_s rfl ?_ | refine withK_s ?_)
  refine bv_s (hload_mk1 (hb _ _) _) ?_
  (repeat' first | refine bv_s rfl ?_ | refine withK_s ?_)
  refine if_s (fun h3 => ?_) (fun h3 => ?_)
  · have h3' : (make f not 4096).2 < 0 := by simpa using h3
    rw [if_pos h3']
    (repeat' first | refine bv_s rfl ?_ | refine withK_s ?_)
    exact rett_s (under_pair _ zero _ rfl) (trunc_mk1 _ _ _ _)
  · have h3' : ¬ (make f not 4096).2 < 0 := by simpa using h3
    rw [if_neg h3']
    refine bv_s (shape_s _) ?_
    exact rett_s (under_pair _ _ _ rfl) (trunc_mk1 _ _ _ _)

/-! ### Is -/
theorem box_mk (o n : List UInt8) (nl : Bool) (ks : List Fm) (p : Int) : std.ev (.boxro 4 true) [(Fm.mk o n nl ks p).av] = some (.ro (.agg [.str o, .str n, .list nl 4 (ks.map av), .int .i64 p]) 0) := by
  rw [box_av, av_mk]
def notLabel : List Fm → Bool
  | [.mk o' _ _ ks' _] => o' == oLabel && ks'.isEmpty
  | _ => false
mutual
def Fm.isN : Fm → Bool
  | .mk o _ _ ks _ =>
    if o == oF || o == oG || o == oW || o == oImp then false
    else if o == oNot then notLabel ks
    else (kidsN o == ks.length) && Fm.isNs ks
def Fm.isNs : List Fm → Bool
  | [] => true
  | k :: ks => Fm.isN k && Fm.isNs ks
end
theorem isNs_eq : ∀ ks, Fm.isNs ks = ks.all Fm.isN
  | [] => rfl
  | k :: ks => by rw [Fm.isNs, isNs_eq ks]; rfl
theorem isEmpty_len {α : Type} (ks : List α) : (((ks.length : Nat) : Int) == 0) = ks.isEmpty := by
  cases ks with
  | nil => rfl
  | cons a b => simp; omega
theorem c2 (f : Fm) (hf : f.few = true) : ∀ (h : H), Wc 2 [f.av] h = some (.bool f.isN, h) := by
  induction f using Fm.ind with
  | h o n nl ks p ih =>
    intro h
    obtain ⟨hl, hk⟩ := few_mk hf
    refine w2 ?_
    have key : ∀ t7 : Bool, sh2_J2 std Wc (.ro (.agg [.str o, .str n, .list nl 4 (ks.map av), .int .i64 p]) 0) (.str o) (.bool t7) h = some (.bool (if t7 then false
    else if o == oNot then notLabel ks else (kidsN o == ks.length) && Fm.isNs ks), h) := by
      intro t7
      unfold sh2_J2
      refine if_s (fun h1 => ?_) (fun h1 => ?_)
      · rw [h1]; rfl
      rw [h1, if_neg (by simp)]
      (repeat' first | refine bv_s rfl ?_ | refine withK_s ?_)
      refine if_s (fun h2 => ?_) (fun h2 => ?_)
      · have h2' : (o == oNot) = true := h2
        rw [if_pos h2']
        rcases ks with _ | ⟨⟨o', n', nl', ks', p'⟩, _ | ⟨b, r⟩⟩
        · (repeat' first | refine bv_s rfl ?_ | refine withK_s ?_)
          rfl
        · rw [List.map_cons, av_mk]
          (repeat' first | refine bv_s rfl ?_ | refine withK_s ?_)
          simp only [notLabel]
          cases hb : (o' == oLabel)
          · (repeat' first | refine bv_s rfl ?_ | refine withK_s ?_)
            rfl
          · (repeat' first | refine bv_s rfl ?_ | refine withK_s ?_)
            rw [← isEmpty_len]
            show some (AV.bool (((ks'.map av).length : Int) == 0), h) = _
            rw [List.length_map, Bool.true_and]
        · have e : ((((Fm.mk o' n' nl' ks' p' :: b :: r).map av).length : Int) == (1 : Int)) = false := by simp; omega
          refine bv_s rfl ?_
          refine bv_s rfl ?_
          refine bv_s rfl ?_
          refine bv_s rfl ?_
          rw [e]
          (repeat' first | refine bv_s rfl ?_ | refine withK_s ?_)
          rfl
      · have h2' : (o == oNot) = false := h2
        rw [h2', if_neg (by simp)]
        (repeat' first | refine bv_s rfl ?_ | refine withK_s ?_)
        refine br_s (c14 o h) ?_
        (repeat' first | refine bv_s rfl ?_ | refine withK_s ?_)
        refine if_s (fun h3 => ?_) (fun h3 => ?_)
        · have : (kidsN o == (ks.length : Int)) = false := by simpa using h3
          rw [this]; rfl
        have h3' : (kidsN o == (ks.length : Int)) = true := by simpa using h3
        rw [h3', Bool.true_and, isNs_eq]
        (repeat' first | refine bv_s rfl ?_ | refine withK_s ?_)
        have := loop_ind (sh2_L1_F Wc) (σ := Nat) (fun i => i ≤ ks.length) (fun i => ([.list nl 4 (ks.map av), .int .i64 (ks.map av).length, .int .i64 i], h)) (fun i => ks.length - i)
          (fun i => (.bool ((ks.drop i).all Fm.isN), h)) (fun K i hi hK => by
            show sh2_L1 std Wc K (.list nl 4 (ks.map av)) (.int .i64 (ks.map av).length) (.int .i64 i) h = _
            unfold sh2_L1
            (repeat' first | refine bv_s rfl ?_ | refine withK_s ?_)
            refine if_s (fun h1 => ?_) (fun h1 => ?_)
            · have hlt : i < ks.length := by simpa using h1
              refine bv_s (idx_av hlt) ?_
              refine bv_s (ld_av _) ?_
              (repeat' first | refine bv_s rfl ?_ | refine withK_s ?_)
              refine bv_s (shape_s _) ?_
              refine br_s (ih _ (List.getElem_mem hlt) (hk _ (List.getElem_mem hlt)) h) ?_
              (repeat' first | refine bv_s rfl ?_ | refine withK_s ?_)
              rw [drop_all _ _ _ hlt]
              refine if_s (fun h2 => ?_) (fun h2 => ?_)
              · have : (ks[i]).isN = false := by simpa using h2
                rw [this]; rfl
              · have : (ks[i]).isN = true := by simpa using h2
                rw [this]
                (repeat' first | refine bv_s rfl ?_ | refine withK_s ?_)
                rw [succ64 (by omega)]
                exact hK (i + 1) hlt (by omega)
            · have : i = ks.length := by simp at h1; omega
              subst this
              simp; rfl) 0 (Nat.zero_le _)
        simpa using this
    unfold sh2
    refine bv_s (box_mk ..) ?_
    (repeat' first | refine bv_s rfl ?_ | refine withK_s ?_)
    rw [Fm.isN]
    refine if_s (fun g1 => ?_) (fun g1 => ?_)
    · have g1' : (o == oF) = true := g1
      have := key true
      simp only [g1', Bool.true_or, if_true] at this ⊢
      exact this
    have g1' : (o == oF) = false := g1
    (repeat' first | refine bv_s rfl ?_ | refine withK_s ?_)
    refine if_s (fun g2 => ?_) (fun g2 => ?_)
    · have g2' : (o == oG) = true := g2
      have := key true
      simp only [g1', g2', Bool.true_or, Bool.or_true, if_true] at this ⊢
      exact this
    have g2' : (o == oG) = false := g2
    (repeat' first | refine bv_s rfl ?_ | refine withK_s ?_)
    refine if_s (fun g3 => ?_) (fun g3 => ?_)
    · have g3' : (o == oW) = true := g3
      have := key true
      simp only [g1', g2', g3', Bool.true_or, Bool.or_true, if_true] at this ⊢
      exact this
    have g3' : (o == oW) = false := g3
    (repeat' first | refine bv_s rfl ?_ | refine withK_s ?_)
    have := key (o == oImp)
    simp only [g1', g2', g3', Bool.false_or] at this ⊢
    exact this

/-! ### Same -/
mutual
def Fm.same : Fm → Fm → Bool
  | .mk o n _ ks _, .mk o' n' _ ks' _ => o == o' && n == n' && Fm.sames ks ks'
def Fm.sames : List Fm → List Fm → Bool
  | [], [] => true
  | k :: ks, k' :: ks' => Fm.same k k' && Fm.sames ks ks'
  | _, _ => false
end
theorem sames_len : ∀ ks ks' : List Fm, ks.length ≠ ks'.length → Fm.sames ks ks' = false
  | [], [], h => (h rfl).elim
  | [], _ :: _, _ => by rw [Fm.sames]; all_goals simp
  | _ :: _, [], _ => by rw [Fm.sames]; all_goals simp
  | k :: ks, k' :: ks', h => by rw [Fm.sames, sames_len ks ks' (by simpa using h), Bool.and_false]
theorem sames_drop {ks ks' : List Fm} {i : Nat} (h : i < ks.length) (h' : i < ks'.length) : Fm.sames (ks.drop i) (ks'.drop i) = (Fm.same ks[i] ks'[i] && Fm.sames (ks.drop (i + 1)) (ks'.drop (i + 1))) := by
  rw [List.drop_eq_getElem_cons h, List.drop_eq_getElem_cons h', Fm.sames]
theorem c7 (f : Fm) (hf : f.few = true) : ∀ (g : Fm) (h : H), Wc 7 [f.av, g.av] h = some (.bool (f.same g), h) := by
  induction f using Fm.ind with
  | h o n nl ks p ih =>
    intro g h
    obtain ⟨o', n', nl', ks', p'⟩ := g
    obtain ⟨hl, hk⟩ := few_mk hf
    refine w7 ?_
    have c20 : Wc 20 [.list nl 4 (ks.map av), .list nl' 4 (ks'.map av), .func 7 [] []] h = some (.bool (Fm.sames ks ks'), h) := by
      refine w20 ?_
      unfold sh20
      (repeat' first | refine bv_s rfl ?_ | refine withK_s ?_)
      refine if_s (fun h1 => ?_) (fun h1 => ?_)
      · have : ks.length ≠ ks'.length := by intro e; simp [e] at h1
        rw [sames_len _ _ this]; rfl
      have hlen : ks.length = ks'.length := by simp at h1; omega
      (repeat' first | refine bv_s rfl ?_ | refine withK_s ?_)
      have := loop_ind (sh20_L1_F Wc) (σ := Nat) (fun i => i ≤ ks.length) (fun i => ([.list nl' 4 (ks'.map av), .func 7 [] [], .list nl 4 (ks.map av), .int .i64 (ks.map av).length, .int .i64 i], h)) (fun i => ks.length - i)
          (fun i => (.bool (Fm.sames (ks.drop i) (ks'.drop i)), h)) (fun K i hi hK => by
            show sh20_L1 std Wc K (.list nl' 4 (ks'.map av)) (.func 7 [] []) (.list nl 4 (ks.map av)) (.int .i64 (ks.map av).length) (.int .i64 i) h = _
            unfold sh20_L1
            (repeat' first | refine bv_s rfl ?_ | refine withK_s ?_)
            refine if_s (fun h1 => ?_) (fun h1 => ?_)
            · have hlt : i < ks.length := by simpa using h1
              refine bv_s (idx_av hlt) ?_
              refine bv_s (ld_av _) ?_
              (repeat' first | refine bv_s rfl ?_ | refine withK_s ?_)
              refine bv_s (shape_s _) ?_
              refine bv_s (idx_av (by omega)) ?_
              refine bv_s (ld_av _) ?_
              (repeat' first | refine bv_s rfl ?_ | refine withK_s ?_)
              refine bv_s (shape_s _) ?_
              refine br_s (show std.callV Wc (.func 7 [] []) [_, _] h = _ from ih _ (List.getElem_mem hlt) (hk _ (List.getElem_mem hlt)) _ h) ?_
              (repeat' first | refine bv_s rfl ?_ | refine withK_s ?_)
              rw [sames_drop hlt (by omega)]
              refine if_s (fun h2 => ?_) (fun h2 => ?_)
              · have : ks[i].same ks'[i] = false := by simpa using h2
                rw [this]; rfl
              · have : ks[i].same ks'[i] = true := by simpa using h2
                rw [this]
                (repeat' first | refine bv_s rfl ?_ | refine withK_s ?_)
                rw [succ64 (by omega)]
                exact hK (i + 1) hlt (by omega)
            · have : i = ks.length := by simp at h1; omega
              subst this
              rw [List.drop_length, hlen, List.drop_length]
              rfl) 0 (Nat.zero_le _)
      simpa using this
    unfold sh7
    refine bv_s (box_mk ..) ?_
    refine bv_s (box_mk ..) ?_
    (repeat' first | refine bv_s rfl ?_ | refine withK_s ?_)
    rw [Fm.same]
    cases h1 : (o == o')
    · (repeat' first | refine bv_s rfl ?_ | refine withK_s ?_)
      refine br_s (gr_f rfl) ?_
      (repeat' first | refine bv_s rfl ?_ | refine withK_s ?_)
      rfl
    · (repeat' first | refine bv_s rfl ?_ | refine withK_s ?_)
      cases h2 : (n == n')
      · (repeat' first | refine bv_s rfl ?_ | refine withK_s ?_)
        refine br_s (gr_f rfl) ?_
        (repeat' first | refine bv_s rfl ?_ | refine withK_s ?_)
        rfl
      · (repeat' first | refine bv_s rfl ?_ | refine withK_s ?_)
        refine br_s (gr_t rfl c20) ?_
        (repeat' first | refine bv_s rfl ?_ | refine withK_s ?_)
        rfl

/-! ### Simple -/
def isConst (f : Fm) : Bool := f.op == oTrue || f.op == oFalse
theorem c34 (f : Fm) (h : H) : Wc 34 [f.av] h = some (.bool (isConst f), h) := by
  obtain ⟨o, n, nl, ks, p⟩ := f
  refine w34 ?_
  unfold sh34
  refine bv_s (box_mk ..) ?_
  (repeat' first | refine bv_s rfl ?_ | refine withK_s ?_)
  simp only [isConst, Fm.op]
  cases h1 : (o == oTrue)
  · (repeat' first | refine bv_s rfl ?_ | refine withK_s ?_)
    rfl
  · (repeat' first | refine bv_s rfl ?_ | refine withK_s ?_)
    rfl
def pairOr (unit zero' : List UInt8) (a b : Fm) : Option Fm :=
  if a.op == unit then some b else if b.op == unit then some a else if a.op == zero' || b.op == zero' then some (plain zero') else none
def pairU (unit : List UInt8) (a b : Fm) : Option Fm :=
  if isConst b || a.op == unit then some b else none
def pair (x a b : Fm) : Fm :=
  let r := if x.op == oOr then pairOr oFalse oTrue a b else if x.op == oAnd then pairOr oTrue oFalse a b else if x.op == oU then pairU oFalse a b else if x.op == oR then pairU oTrue a b else none
  match r with
  | some r => r
  | none => if a.same b then a else x
theorem c35 (x a b : Fm) (h : H) (ha : a.few = true) : Wc 35 [x.av, a.av, b.av] h = some ((pair x a b).av, h) := by
  refine w35 ?_
  have k1 : ∀ l6, sh35_J1 std Wc (.ro x.av 0) (.ro a.av 0) (.ro b.av 0) l6 h = some ((if a.same b then a else x).av, h) := by
    intro l6
    unfold sh35_J1
    refine bv_s (ld_av _) ?_
    refine bv_s (ld_av _) ?_
    refine br_s (c7 a ha b h) ?_
    refine if_s (fun h1 => ?_) (fun h1 => ?_)
    · refine bv_s (ld_av _) ?_
      refine bv_s (shape_s _) ?_
      rw [h1]; rfl
    · refine bv_s (ld_av _) ?_
      refine bv_s (shape_s _) ?_
      rw [h1]; rfl
  have op0 : ∀ f : Fm, std.ev (.ld 1 false) [.ro f.av 0] = some (.str f.op) := by
    intro f; obtain ⟨o, n, nl, ks, p⟩ := f; rw [av_mk]; rfl
  have k2 : ∀ u l6, sh35_J2 std Wc (fun q => sh35_J1 std Wc (nth q.1 0) (nth q.1 1) (nth q.1 2) (nth q.1 3) q.2) (.ro x.av 0) (.ro a.av 0) (.ro b.av 0) (.str u) l6 h =
      some ((match pairU u a b with | some r => r | none => if a.same b then a else x).av, h) := by
    intro u l6
    unfold sh35_J2
    refine bv_s (ld_av _) ?_
    refine br_s (c34 _ _) ?_
    simp only [pairU]
    cases h1 : isConst b
    · have hop := op0 a
      refine bv_s (gt_t rfl (v := .ro a.av 0) (by obtain ⟨o, n, nl, ks, p⟩ := a; rfl)) ?_
      refine bv_s (gt_t rfl hop) ?_
      (repeat' first | refine bv_s rfl ?_ | refine withK_s ?_)
      simp only [Bool.false_or]
      refine if_s (fun h2 => ?_) (fun h2 => ?_)
      · refine bv_s (ld_av _) ?_
        refine bv_s (shape_s _) ?_
        rw [h2]; rfl
      · rw [h2]; exact k1 _
    · (repeat' first | refine bv_s rfl ?_ | refine withK_s ?_)
      simp only [Bool.true_or, if_true]
      refine if_t rfl ?_
      refine bv_s (ld_av _) ?_
      refine bv_s (shape_s _) ?_
      rfl
  have k3 : ∀ u z l6, sh35_J3 std Wc (fun q => sh35_J1 std Wc (nth q.1 0) (nth q.1 1) (nth q.1 2) (nth q.1 3) q.2) (.ro x.av 0) (.ro a.av 0) (.ro b.av 0) (.str u) (.str z) l6 h =
      some ((match pairOr u z a b with | some r => r | none => if a.same b then a else x).av, h) := by
    intro u z l6
    unfold sh35_J3
    have f0 : ∀ f : Fm, std.ev (.fieldAddr 0) [.ro f.av 0] = some (.ro f.av 0) := by intro f; rfl
    refine bv_s (f0 a) ?_
    refine bv_s (op0 a) ?_
    refine bv_s rfl ?_
    simp only [pairOr]
    refine if_s (fun h1 => ?_) (fun h1 => ?_)
    · refine bv_s (ld_av _) ?_
      refine bv_s (shape_s _) ?_
      rw [h1]; rfl
    rw [if_neg (by simp [h1])]
    refine bv_s (f0 b) ?_
    refine bv_s (op0 b) ?_
    refine bv_s rfl ?_
    refine if_s (fun h2 => ?_) (fun h2 => ?_)
    · refine bv_s (ld_av _) ?_
      refine bv_s (shape_s _) ?_
      rw [h2]; rfl
    rw [if_neg (by simp [h2])]
    refine bv_s (f0 a) ?_
    refine bv_s (op0 a) ?_
    refine bv_s rfl ?_
    cases h3 : (a.op == z)
    · refine bv_s (gt_t rfl (f0 b)) ?_
      refine bv_s (gt_t rfl (op0 b)) ?_
      (repeat' first | refine bv_s rfl ?_ | refine withK_s ?_)
      simp only [Bool.false_or]
      refine if_s (fun h4 => ?_) (fun h4 => ?_)
      · refine br_s (c33 _ _) ?_
        refine bv_s (shape_s _) ?_
        rw [h4]; rfl
      · rw [h4]; exact k1 _
    · (repeat' first | refine bv_s rfl ?_ | refine withK_s ?_)
      simp only [Bool.true_or, if_true]
      refine if_t rfl ?_
      refine br_s (c33 _ _) ?_
      refine bv_s (shape_s _) ?_
      rfl
  unfold sh35
  refine bv_s (box_av _) ?_
  refine bv_s (box_av _) ?_
  refine bv_s (box_av _) ?_
  refine bv_s rfl ?_
  refine withK_s ?_
  refine bv_s (v := .ro x.av 0) rfl ?_
  refine bv_s (op0 x) ?_
  refine withK_s ?_
  refine withK_s ?_
  refine bv_s rfl ?_
  unfold pair
  refine if_s (fun g1 => ?_) (fun g1 => ?_)
  · have g1' : (x.op == oOr) = true := g1
    rw [if_pos g1']
    exact k3 oFalse oTrue _
  have g1' : (x.op == oOr) = false := g1
  rw [g1', if_neg (by simp)]
  refine bv_s rfl ?_
  refine if_s (fun g2 => ?_) (fun g2 => ?_)
  · have g2' : (x.op == oAnd) = true := g2
    rw [if_pos g2']
    exact k3 oTrue oFalse _
  have g2' : (x.op == oAnd) = false := g2
  rw [g2', if_neg (by simp)]
  refine bv_s rfl ?_
  refine if_s (fun g3 => ?_) (fun g3 => ?_)
  · have g3' : (x.op == oU) = true := g3
    rw [if_pos g3']
    exact k2 oFalse _
  have g3' : (x.op == oU) = false := g3
  rw [g3', if_neg (by simp)]
  refine bv_s rfl ?_
  refine if_s (fun g4 => ?_) (fun g4 => ?_)
  · have g4' : (x.op == oR) = true := g4
    rw [if_pos g4']
    exact k2 oTrue _
  have g4' : (x.op == oR) = false := g4
  rw [g4', if_neg (by simp)]
  exact k1 _
mutual
def Fm.simp : Fm → Fm
  | .mk o n _ ks _ =>
    let ks' := Fm.simps ks
    match ks' with
    | [a] => if o == oX && isConst a then a else .mk o n false ks' 0
    | [a, b] => pair (.mk o n false ks' 0) a b
    | _ => .mk o n false ks' 0
def Fm.simps : List Fm → List Fm
  | [] => []
  | k :: ks => Fm.simp k :: Fm.simps ks
end
theorem simps_eq : ∀ ks, Fm.simps ks = ks.map Fm.simp
  | [] => rfl
  | k :: ks => by rw [Fm.simps, simps_eq ks]; rfl
theorem few_pair {x a b : Fm} (hx : x.few = true) (ha : a.few = true) (hb : b.few = true) : (pair x a b).few = true := by
  have h0 : (plain oTrue).few = true := by decide
  have h1 : (plain oFalse).few = true := by decide
  unfold pair pairOr pairU
  dsimp only
  repeat' split
  all_goals rename_i hh; first | assumption | (repeat' split at hh) <;> first | assumption | (cases hh; done) | (injection hh with hh; subst hh; assumption)
theorem few_simp (f : Fm) (hf : f.few = true) : f.simp.few = true := by
  induction f using Fm.ind with
  | h o n nl ks p ih =>
    obtain ⟨hl, hk⟩ := few_mk hf
    have hks : ∀ k ∈ Fm.simps ks, k.few = true := by
      intro k hm
      rw [simps_eq] at hm
      obtain ⟨a, ha, rfl⟩ := List.mem_map.1 hm
      exact ih a ha (hk a ha)
    have hlen : (Fm.simps ks).length ≤ 1000000 := by rw [simps_eq, List.length_map]; exact hl
    rw [Fm.simp]
    generalize Fm.simps ks = ks' at hks hlen
    split
    · split
      · exact hks _ (by simp)
      · exact few_of hlen hks
    · exact few_pair (few_of hlen hks) (hks _ (by simp)) (hks _ (by simp))
    · exact few_of hlen hks
theorem app_av {n m : Bool} {xs ys : List Fm} (h : (xs.length + ys.length) ≤ 2000000) : std.appList 4 64 (.list n 4 (xs.map av)) (.list m 4 (ys.map av)) = some (.list false 4 ((xs ++ ys).map av)) := by
  rw [std_app]
  simp only [xOp.appList, List.length_map, List.map_append]
  rw [if_pos ⟨trivial, trivial, by omega, by simp only [maxInt]; omega⟩]
theorem c19 (f : Fm) (hf : f.few = true) : ∀ h : H, Wc 19 [f.av] h = some (f.simp.av, h) := by
  induction f using Fm.ind with
  | h o n nl ks p ih =>
    intro h
    obtain ⟨hl, hk⟩ := few_mk hf
    refine w19 ?_
    unfold sh19
    refine bv_s (box_mk ..) ?_
    (repeat' first | refine bv_s rfl ?_ | refine withK_s ?_)
    have := loop_ind (sh19_L1_F Wc) (σ := Nat) (fun i => i ≤ ks.length) (fun i => ([.list nl 4 (ks.map av), .int .i64 (ks.map av).length, .int .i64 i, zero.av, .agg [.str o, .str n, .list false 4 ((Fm.simps (ks.take i)).map av), .int .i64 0]], h)) (fun i => ks.length - i)
          (fun i => ((Fm.mk o n nl ks p).simp.av, h)) (fun K i hi hK => by
            show sh19_L1 std Wc K (.list nl 4 (ks.map av)) (.int .i64 (ks.map av).length) (.int .i64 i) zero.av (.agg [.str o, .str n, .list false 4 ((Fm.simps (ks.take i)).map av), .int .i64 0]) h = _
            unfold sh19_L1
            (repeat' first | refine bv_s rfl ?_ | refine withK_s ?_)
            refine if_s (fun h1 => ?_) (fun h1 => ?_)
            · have hlt : i < ks.length := by simpa using h1
              refine bv_s (idx_av hlt) ?_
              refine bv_s (ld_av _) ?_
              (repeat' first | refine bv_s rfl ?_ | refine withK_s ?_)
              refine bv_s (shape_s _) ?_
              (repeat' first | refine bv_s rfl ?_ | refine withK_s ?_)
              refine br_s (ih _ (List.getElem_mem hlt) (hk _ (List.getElem_mem hlt)) h) ?_
              refine bv_s (mkl1 _) ?_
              refine bv_s (app_av (ys := [_]) (by rw [simps_eq, List.length_map, List.length_take]; simp only [List.length_singleton]; omega)) ?_
              (repeat' first | refine bv_s rfl ?_ | refine withK_s ?_)
              rw [succ64 (by omega)]
              have hn := hK (i + 1) hlt (by omega)
              have e : Fm.simps (ks.take (i + 1)) = Fm.simps (ks.take i) ++ [(ks[i]).simp] := by
                rw [simps_eq, simps_eq, List.take_add_one, List.getElem?_eq_getElem hlt, List.map_append]; rfl
              rw [e] at hn
              exact hn
            · have : i = ks.length := by simp at h1; omega
              subst this
              rw [List.take_length]
              rw [Fm.simp]
              have hl' : (Fm.simps ks).length ≤ 1000000 := by rw [simps_eq, List.length_map]; exact hl
              have hf' : ∀ k ∈ Fm.simps ks, k.few = true := by
                intro k hm
                rw [simps_eq] at hm
                obtain ⟨a, ha, rfl⟩ := List.mem_map.1 hm
                exact few_simp a (hk a ha)
              clear hK h1 hi ih hk hf hl
              generalize Fm.simps ks = ks' at hl' hf'
              rcases ks' with _ | ⟨a, _ | ⟨b, _ | ⟨c, r⟩⟩⟩
              · (repeat' first | refine bv_s rfl ?_ | refine withK_s ?_ | refine if_t rfl ?_ | refine if_f rfl ?_)
                rw [av_mk]; rfl
              · (repeat' first | refine bv_s rfl ?_ | refine withK_s ?_ | refine if_t rfl ?_ | refine if_f rfl ?_)
                show _ = some ((if o == oX && isConst a then a else Fm.mk o n false [a] 0).av, h)
                cases hX : (o == oX)
                · refine onG_f rfl ?_
                  (repeat' first | refine bv_s rfl ?_ | refine withK_s ?_ | refine if_t rfl ?_ | refine if_f rfl ?_)
                  refine br_s (gr_f rfl) ?_
                  (repeat' first | refine bv_s rfl ?_ | refine withK_s ?_ | refine if_t rfl ?_ | refine if_f rfl ?_)
                  rw [Bool.false_and, if_neg (by simp), av_mk]; rfl
                · refine onG_t rfl ?_
                  refine bv_s rfl ?_
                  refine bv_s (gt_t rfl (idx_av (ks := [a]) (i := 0) (by simp))) ?_
                  refine bv_s (gt_t rfl (ld_av _)) ?_
                  refine br_s (gr_t rfl (c34 _ _)) ?_
                  refine bv_s rfl ?_
                  rw [Bool.true_and]
                  show std.ifB (.bool (isConst a)) _ _ = _
                  refine if_s (fun h2 => ?_) (fun h2 => ?_)
                  · have h2' : isConst a = true := h2
                    rw [if_pos h2']
                    refine bv_s rfl ?_
                    refine bv_s (idx_av (ks := [a]) (i := 0) (by simp)) ?_
                    refine bv_s (ld_av _) ?_
                    refine bv_s (shape_s _) ?_
                    rfl
                  · have h2' : isConst a = false := h2
                    rw [h2', if_neg (by simp), av_mk]
                    (repeat' first | refine bv_s rfl ?_ | refine withK_s ?_ | refine if_t rfl ?_ | refine if_f rfl ?_)
                    rfl
              · (repeat' first | refine bv_s rfl ?_ | refine withK_s ?_ | refine if_t rfl ?_ | refine if_f rfl ?_)
                refine bv_s (ld_av _) ?_
                refine bv_s rfl ?_
                refine bv_s rfl ?_
                refine bv_s (ld_av _) ?_
                have e := c35 (.mk o n false [a, b] 0) a b h (hf' a (by simp))
                rw [av_mk] at e
                refine br_s e ?_
                refine bv_s (shape_s _) ?_
                rfl
              · have e1 : (((a :: b :: c :: r).map av).length : Int) == 1 ↔ False := by simp; omega
                have e2 : (((a :: b :: c :: r).map av).length : Int) == 2 ↔ False := by simp; omega
                refine bv_s rfl ?_
                refine bv_s rfl ?_
                refine bv_s rfl ?_
                refine if_f (by simpa using e1) ?_
                refine bv_s rfl ?_
                refine if_f (by simpa using e2) ?_
                rw [av_mk]
                (repeat' first | refine bv_s rfl ?_ | refine withK_s ?_)
                rfl) 0 (Nat.zero_le _)
    exact this
def simple (f : Fm) : Fm × AV :=
  if f.isN = false then (zero, errno 1) else if f.size > 4096 then (zero, errno 2) else (f.simp, .nili)
theorem c5 (f : Fm) (hf : f.few = true) (h : H) : Wc 5 [f.av] h = some (.tuple [(simple f).1.av, (simple f).2], h) := by
  refine w5 ?_
  unfold sh5
  refine bv_s (box_av _) ?_
  refine bv_s rfl ?_
  refine bv_s (ld_av _) ?_
  refine br_s (c2 f hf h) ?_
  refine bv_s rfl ?_
  unfold simple
  refine if_s (fun h1 => ?_) (fun h1 => ?_)
  · have h1' : f.isN = false := by simpa using h1
    rw [if_pos h1']
    (repeat' first | refine bv_s rfl ?_ | refine withK_s ?_)
    rfl
  have h1' : ¬ (f.isN = false) := by simpa using h1
  rw [if_neg h1']
  refine bv_s (ld_av _) ?_
  refine br_s (c16 f hf h) ?_
  (repeat' first | refine bv_s rfl ?_ | refine withK_s ?_)
  refine if_s (fun h2 => ?_) (fun h2 => ?_)
  · have h2' : f.size > 4096 := by have h2 := of_decide_eq_true h2; simp only [sizeP] at h2; omega
    rw [if_pos h2']
    (repeat' first | refine bv_s rfl ?_ | refine withK_s ?_)
    rfl
  have h2' : ¬ (f.size > 4096) := by have h2 := of_decide_eq_false h2; simp only [sizeP] at h2; omega
  rw [if_neg h2']
  refine bv_s (ld_av _) ?_
  refine br_s (c19 f hf h) ?_
  refine bv_s (shape_s _) ?_
  rfl

/-! ### Num -/
/-- an error's number; 0: none -/
def num : AV → Int
  | .nili => 0
  | e => (asErrno e).getD (-1)
theorem c4_nil (h : H) : Wc 4 [.nili] h = some (.int .i64 0, h) := by
  refine w4 ?_
  unfold sh4
  (repeat' first | refine bv_s rfl ?_ | refine withK_s ?_ | refine if_t rfl ?_ | refine if_f rfl ?_)
  exact rett_s rfl (trunc_self _ _)
/-- the block that Num lays is taken away again -/
def nblk (h : H) (n : Int) : H := H.push ({ h with floors := H.size h :: h.floors } : H) (.cells 1 false (.int .i64 n) [])
theorem nblk_get (h : H) (n : Int) : (nblk h n).get h.size = some (.cells 1 false (.int .i64 n) []) := by
  cases h; simp [nblk, H.push, H.get, H.size]
theorem nblk_set (h : H) (n m : Int) : (nblk h n).set h.size (.cells 1 false (.int .i64 m) []) = nblk h m := by
  cases h; simp [nblk, H.push, H.set, H.size]
theorem X18 (e : AV) (h : H) (n : Int) (he : isErr e = true) : Wc 18 [e, .iface 1 (.ptr h.size 0 0)] (nblk h n) = (match asErrno e with
    | some n => some (.bool true, nblk h n)
    | none => some (.bool false, nblk h n)) := by
  rw [show Wc 18 [e, .iface 1 (.ptr h.size 0 0)] (nblk h n) = X 18 [e, .iface 1 (.ptr h.size 0 0)] (nblk h n) from callW_ext T X rfl _ _]
  simp only [X, nblk_get, he, if_true, nblk_set]
  cases asErrno e <;> rfl
theorem nblk_trunc (h : H) (n : Int) : (nblk h n).trunc h.size h.floors = h := by
  cases h; simp [nblk, H.push, H.trunc, H.size]
theorem c4 (e : AV) (he : isErr e = true) (h : H) : Wc 4 [e] h = some (.int .i64 (num e), h) := by
  by_cases hn : e = .nili
  · subst hn; exact c4_nil h
  refine w4 ?_
  unfold sh4
  have h0 : std.ev (.eq false .i) [e, .nili] = some (.bool false) := by
    cases e <;> first | (exact (hn rfl).elim) | (cases he; done) | rfl
  refine bv_s h0 ?_
  refine if_f rfl ?_
  (repeat' first | refine bv_s rfl ?_ | refine withK_s ?_)
  have hx := X18 e h 0 he
  have hnum : num e = (asErrno e).getD (-1) := by
    cases e <;> first | (exact (hn rfl).elim) | rfl
  cases ha : asErrno e with
  | none =>
    rw [ha] at hx hnum
    refine br_s hx ?_
    refine if_f rfl ?_
    rw [hnum]
    exact rett_s rfl (nblk_trunc h 0)
  | some n =>
    rw [ha] at hx hnum
    refine br_s hx ?_
    refine if_t rfl ?_
    refine bv_s (v := .int .i64 n) ?_ ?_
    · rw [std_hload]
      show hload (nblk h n) (.ptr h.size 0 0) 1 false = _
      simp only [hload, nblk_get]
      rfl
    rw [hnum]
    exact rett_s rfl (nblk_trunc h n)
end Go.Abs
