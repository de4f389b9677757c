/- Regions in the text's order. -/
import Derived.Test.YtiefbkjoldcebaaDoorXxOps
import Derived.LoopN
namespace Go.Abs
variable {K : Seat} {F F' : FZ} {β β' : BM} {ρ ρ' : Roles} {w w' : World} {s : S} {a : Act}

def dstEq (x y : Option Nat) (N : Nat) : Bool := match x, y with
  | none, none => true
  | some a, some b => Nat.beq a b && Nat.blt b N
  | _, _ => false
theorem dstEq_eq {x y : Option Nat} {N : Nat} (h : dstEq x y N = true) : x = y ∧ ∀ d, y = some d → d < N := by
  unfold dstEq at h
  split at h
  · exact ⟨rfl, fun _ h => by cases h⟩
  · simp only [Bool.and_eq_true, blt_iff] at h
    rw [beq_true.1 h.1]
    exact ⟨rfl, fun d hd => by injection hd with hd; subst hd; exact h.2⟩
  · cases h
def grdOk (L : List Oper) (x y : Option (Nat × Bool)) : Bool := match x, y with
  | none, none => true
  | some (t, b), some (j, b') => (match b, b' with | true, true => true | false, false => true | _, _ => false) && (match L[j]? with | some o => (match o.dst with | some d => Nat.beq d t | none => false) | none => false)
  | _, _ => false
def checkOper (K : Seat) (N : Nat) (L : List Oper) (io : IOper) (o : Oper) : Bool := dstEq io.dst o.dst N && grdOk L io.guard o.guard && checkX K io.op o.dst o.op
def checkOps (K : Seat) (N : Nat) (L : List Oper) : List IOper → List Oper → Bool
  | [], [] => true
  | io :: ios, o :: os => checkOper K N L io o && checkOps K N L ios os
  | _, _ => false

theorem Post.next {F1 : FZ} {β1 : BM} {ρ1 : Roles} {w1 : World} {s1 : S} {a1 : Act} {k : S → R} {r : AV × H} {next : Act → World → Prop}
    (hp : Post K F β ρ w s a k r next) (h1 : a1.tmps.size = a.tmps.size) (h2 : Keep F β ρ w F1 β1 ρ1 w1) (h3 : s1.h.floors = s.h.floors) : Post K F1 β1 ρ1 w1 s1 a1 k r next :=
  fun s' F' β' ρ' a' w' q1 q2 q3 q4 q5 => hp s' F' β' ρ' a' w' q1 (q2.trans h1) (h2.trans q3) (q4.trans h3) q5

/-- a guard, looked at -/
theorem wanted_ok (hs : FSim K F β ρ s a w) {ops : Array Oper} {io : IOper} {o : Oper} (h : grdOk ops.toList io.guard o.guard = true) {b : Bool} (e : guardOk s io.guard = some b) : Region.wanted o (yielded ops a.tmps) = b := by
  unfold grdOk at h
  split at h
  · rename_i h1 h2
    rw [h1] at e
    simp only [guardOk] at e
    injection e with e
    subst e
    simp [Region.wanted, h2]
  · rename_i t x j x' h1 h2
    simp only [Bool.and_eq_true] at h
    obtain ⟨hx, h⟩ := h
    have hx := agg_eq hx
    subst hx
    rw [h1] at e
    simp only [guardOk] at e
    split at h <;> try (cases h; done)
    rename_i oj hj
    split at h <;> try (cases h; done)
    rename_i d hd
    have h := beq_true.1 h
    subst h
    split at e <;> try (cases e; done)
    case h_2 =>
      rename_i vs hy
      obtain ⟨hlt, hr⟩ := hs.env d _ hy
      injection e with e
      subst e
      have hyv : yielded ops a.tmps j = none := by
        unfold yielded
        have hj' : ops[j]? = some oj := by simpa using hj
        have : ∃ m, a.tmps[d]? = some (.tuple m) := by
          generalize hm : a.tmps.getD d undef = m at hr
          cases hr with
          | tuple _ ms _ =>
            refine ⟨ms.toArray, ?_⟩
            rw [Array.getElem?_eq_getElem hlt]
            rw [Array.getD_eq_getD_getElem?, Array.getElem?_eq_getElem hlt] at hm
            simpa using hm
        obtain ⟨m, hm⟩ := this
        simp [hj', hd, hm]
      simp only [Region.wanted, h2, hyv]
      rfl
    rename_i y hy
    obtain ⟨hlt, hr⟩ := hs.env d _ hy
    have hm := hr.bool_inv
    have hyv : yielded ops a.tmps j = some y := by
      unfold yielded
      have hj' : ops[j]? = some oj := by simpa using hj
      have : a.tmps[d]? = some (.bool y) := by
        rw [Array.getElem?_eq_getElem hlt]
        rw [Array.getD_eq_getD_getElem?, Array.getElem?_eq_getElem hlt] at hm
        simpa using hm
      simp [hj', hd, this]
    injection e with e
    subst e
    simp only [Region.wanted, h2, hyv]
    cases y <;> cases x <;> rfl
  · cases h

theorem ops_ok {C : Call} (hC : CallsOK K C) {ops : Array Oper} {N : Nat} {Q : Exit → Act → World → Prop} : ∀ (ios : List IOper) (os : List Oper) (i : Nat), ops.toList.drop i = os → checkOps K N ops.toList ios os = true →
    ∀ {s : S} {F : FZ} {β : BM} {ρ : Roles} {a : Act} {w : World} {k : S → R} {r : AV × H}, FSim K F β ρ s a w → a.tmps.size = N → xOps C ios s k = some r → Post K F β ρ w s a k r (Q .normal) → wpOps K.P ops Q (List.range' i ios.length) a w := by
  intro ios
  induction ios with
  | nil =>
    intro os i _ _ s F β ρ a w k r hs _ e hp
    simp only [xOps] at e
    simp only [List.length_nil, List.range'_zero, wpOps]
    exact hp s F β ρ a w hs rfl (Keep.refl _ _ _ _) rfl e
  | cons io ios ih =>
    intro os i hos hc s F β ρ a w k r hs hN e hp
    cases os with
    | nil => cases hc
    | cons o os =>
      simp only [checkOps, Bool.and_eq_true] at hc
      obtain ⟨hc1, hc2⟩ := hc
      have hoi : ops[i]? = some o := by
        have := congrArg (fun l => l[0]?) hos
        simpa using this
      have hos' : ops.toList.drop (i + 1) = os := by
        have := congrArg List.tail hos
        simpa using this
      simp only [checkOper, Bool.and_eq_true] at hc1
      obtain ⟨⟨hd, hg⟩, hx⟩ := hc1
      obtain ⟨hd1, hd2⟩ := dstEq_eq hd
      simp only [List.length_cons, List.range'_succ, wpOps, hoi]
      simp only [xOps] at e
      split at e <;> try (cases e; done)
      · rename_i hgv
        rw [wanted_ok hs hg hgv, if_pos rfl]
        left
        rw [hd1] at e
        refine op_ok hs hC hx (fun d h => by rw [hN]; exact hd2 d h) e ?_
        intro s' F' β' ρ' a' w' q1 q2 q3 q4 q5
        exact ih os (i + 1) hos' hc2 q1 (q2.trans hN) q5 (hp.next q2 q3 q4)
      · rename_i hgv
        rw [wanted_ok hs hg hgv, if_neg (by simp)]
        have h1 : FSim K F β ρ (s.out io.dst undefAV) (a.put o.dst undef) w := by
          rw [hd1]
          exact hs.out o.dst undefAV undef (fun d h => by rw [hN]; exact hd2 d h) (.tuple [] [] .nil)
        exact ih os (i + 1) hos' hc2 h1 ((put_size _ _ _).trans hN) e (hp.next (put_size _ _ _) (Keep.refl _ _ _ _) (by rw [floors_out]))
theorem checkOps_len {N : Nat} {L : List Oper} : ∀ {ios : List IOper} {os : List Oper}, checkOps K N L ios os = true → ios.length = os.length
  | [], [], _ => rfl
  | io :: ios, o :: os, h => by
    simp only [checkOps, Bool.and_eq_true] at h
    simp [checkOps_len h.2]
  | [], _ :: _, h => by cases h
  | _ :: _, [], h => by cases h
theorem region_ok {C : Call} (hC : CallsOK K C) {ops : Array Oper} {N id : Nat} {Q : Exit → Act → World → Prop} {ios : List IOper} (hc : checkOps K N ops.toList ios ops.toList = true) {k : S → R} {r : AV × H}
    (hs : FSim K F β ρ s a w) (hN : a.tmps.size = N) (e : xOps C ios s k = some r) (hp : Post K F β ρ w s a k r (Q .normal)) : (Code.region id ops false).wp K.P Q a w := by
  refine wp_region ?_
  have hl := checkOps_len hc
  have := ops_ok hC ios ops.toList 0 (by simp) hc hs hN e hp
  rw [hl, Array.length_toList] at this
  rw [List.range_eq_range']; exact this
theorem FSim.sub {s1 : S} (hs : FSim K F β ρ s a w) (hh : s1.h = s.h) (he : ∀ t v, get s1.env t = some v → get s.env t = some v) (hl : ∀ t x, get s1.lp t = some x → get s.lp t = some x)
    (hc : ∀ l x, get s1.loc l = some x → get s.loc l = some x) (ho : ∀ e, e.isFrame = true → hasE s1.own e = true → hasE s.own e = true ∧ ∀ t, e = .t t → ∃ v, get s1.env t = some v) : FSim K F β ρ s1 a w where
  heap := by rw [hh]; exact hs.heap
  env := fun t v h => hs.env t v (he t v h)
  lp := fun t l o h => hs.lp t l o (hl t _ h)
  loc := by
    intro l x hx
    obtain ⟨k, hr, m', ty, h1, h2, h3, h4⟩ := hs.loc l x (hc l x hx)
    exact ⟨k, hr, m', ty, h1, h2, h3, fun o h => h4 o (ho _ rfl h).1⟩
  locs := hs.locs
  own := by
    intro t ht
    obtain ⟨h1, h2⟩ := ho _ rfl ht
    obtain ⟨v, hv⟩ := h2 t rfl
    obtain ⟨sz, xs, e, hown⟩ := hs.own t h1
    have := he t v hv
    rw [e] at this
    injection this with this
    subst this
    exact ⟨sz, xs, hv, hown⟩
  defers := hs.defers

end Go.Abs
