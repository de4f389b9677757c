/- The parser: its levels; Parse. -/
import Derived.Test.YtiefbkjoldcebaaDoorXxPar2
namespace Go.Abs
open Fm

section
variable {h : H} {p b : Nat} {d : Int} {ts : List Tok}
def Lv (h : H) (p b : Nat) (ts : List Tok) (f : Nat) (level : Int) (spec : Nat → PR) : Prop :=
  ∀ a, a < ts.length → Wc f [.ptr p 0 0, .int .i64 level] (rd h b ts a) = some (eAV (spec a).1, rd h b ts (spec a).2)
theorem c43_deep (pc : PC h p b d ts) {level : Int} (hl : d < level) : Lv h p b ts 43 level (deep ts) := by
  intro a ha
  refine w43 ?_
  unfold sh43
  (repeat' first | refine bv_s rfl ?_ | refine withK_s ?_)
  refine bv_s (p_d pc a) ?_
  refine bv_s rfl ?_
  refine if_t (decide_eq_true hl) ?_
  (repeat' first | refine bv_s rfl ?_ | refine withK_s ?_)
  refine br_s (c13 pc ha 21) ?_
  rfl
theorem c42_deep (pc : PC h p b d ts) {level : Int} (hl : d < level) : Lv h p b ts 42 level (deep ts) := by
  intro a ha
  refine w42 ?_
  unfold sh42
  (repeat' first | refine bv_s rfl ?_ | refine withK_s ?_)
  refine bv_s (p_d pc a) ?_
  refine bv_s rfl ?_
  refine if_t (decide_eq_true hl) ?_
  (repeat' first | refine bv_s rfl ?_ | refine withK_s ?_)
  refine br_s (c13 pc ha 21) ?_
  rfl
theorem c11_deep (pc : PC h p b d ts) {level : Int} (hl : d < level) : Lv h p b ts 11 level (deep ts) := by
  intro a ha
  refine w11 ?_
  unfold sh11
  (repeat' first | refine bv_s rfl ?_ | refine withK_s ?_)
  refine bv_s (p_d pc a) ?_
  refine bv_s rfl ?_
  refine if_t (decide_eq_true hl) ?_
  (repeat' first | refine bv_s rfl ?_ | refine withK_s ?_)
  refine br_s (c13 pc ha 21) ?_
  rfl
theorem c43 (pc : PC h p b d ts) {level : Int} (hl : level ≤ d) (hl0 : 0 ≤ level ∧ level ≤ 1000) {s i : Nat → PR} (hs : Lv h p b ts 43 (level + 1) s) (hi : Lv h p b ts 11 (level + 1) i) (_gs : Goes ts s) (gi : Goes ts i) :
    Lv h p b ts 43 level (singleB ts s i) := by
  intro a ha
  have hpt : ∀ x : Tok, std.shape 3 true x.av = some x.av := fun _ => rfl
  refine w43 ?_
  unfold sh43 singleB
  dsimp only
  (repeat' first | refine bv_s rfl ?_ | refine withK_s ?_)
  refine bv_s (p_d pc a) ?_
  refine bv_s rfl ?_
  refine if_f (decide_eq_false (by omega)) ?_
  (repeat' first | refine bv_s rfl ?_ | refine withK_s ?_)
  refine bv_s (p_r pc a) ?_
  refine br_s (c12 pc.lt ha) ?_
  (repeat' first | refine bv_s rfl ?_ | refine withK_s ?_)
  refine if_s (fun h1 => ?_) (fun h1 => ?_)
  · have h1' : (peek ts a).kind = 3 := by simpa using h1
    rw [if_pos h1']
    (repeat' first | refine bv_s rfl ?_ | refine withK_s ?_)
    refine bv_s (p_r pc a) ?_
    refine br_s (c37 pc.lt pc.ok ha) ?_
    have : adv ts a = a + 1 := by rw [adv, if_neg (by omega)]
    rw [this]
    (repeat' first | refine bv_s rfl ?_ | refine withK_s ?_)
    simp only [eAV, av_mk]
    rfl
  have h1' : ¬ (peek ts a).kind = 3 := by simpa using h1
  rw [if_neg h1']
  have k2 : ∀ t42 : Bool, t42 = (isTok (peek ts a) oTrue || isTok (peek ts a) oFalse) →
      sh43_J2 std Wc (.ptr p 0 0) (.int .i64 level) (.bool t42) zero.av (peek ts a).av (rd h b ts a) =
      some (eAV (if isTok (peek ts a) oTrue || isTok (peek ts a) oFalse then (.ok (Fm.mk (peek ts a).text [] true [] (peek ts a).pos), a + 1)
  else if isTok (peek ts a) oNot || isTok (peek ts a) oX || isTok (peek ts a) oF || isTok (peek ts a) oG then andThen (s (a + 1)) fun f a' => (.ok (.mk (peek ts a).text [] false [f] (peek ts a).pos), a')
  else if isTok (peek ts a) [40] then andThen (i (a + 1)) fun f a' => if isTok (peek ts a') [41] then (.ok (setPos f (peek ts a).pos), a' + 1) else (.error ((peek ts a').pos, 20), a')
  else (.error ((peek ts a).pos, 20), a) : PR).1,
        rd h b ts (if isTok (peek ts a) oTrue || isTok (peek ts a) oFalse then (.ok (Fm.mk (peek ts a).text [] true [] (peek ts a).pos), a + 1)
  else if isTok (peek ts a) oNot || isTok (peek ts a) oX || isTok (peek ts a) oF || isTok (peek ts a) oG then andThen (s (a + 1)) fun f a' => (.ok (.mk (peek ts a).text [] false [f] (peek ts a).pos), a')
  else if isTok (peek ts a) [40] then andThen (i (a + 1)) fun f a' => if isTok (peek ts a') [41] then (.ok (setPos f (peek ts a).pos), a' + 1) else (.error ((peek ts a').pos, 20), a')
  else (.error ((peek ts a).pos, 20), a) : PR).2) := by
    intro t42 ht
    unfold sh43_J2
    refine if_s (fun g1 => ?_) (fun g1 => ?_)
    · rw [g1] at ht
      rw [← ht]
      have hk : (peek ts a).kind ≠ 0 := by rcases Bool.or_eq_true_iff.1 ht.symm with e | e <;> exact isTok_kind e
      simp only [if_true]
      (repeat' first | refine bv_s rfl ?_ | refine withK_s ?_)
      refine bv_s (p_r pc a) ?_
      refine br_s (c37 pc.lt pc.ok ha) ?_
      have : adv ts a = a + 1 := by rw [adv, if_neg hk]
      rw [this]
      (repeat' first | refine bv_s rfl ?_ | refine withK_s ?_)
      simp only [eAV, av_mk]
      rfl
    rw [g1] at ht
    rw [← ht]
    simp only [Bool.false_eq_true, if_false]
    have k1 : ∀ t63 : Bool, t63 = (isTok (peek ts a) oNot || isTok (peek ts a) oX || isTok (peek ts a) oF || isTok (peek ts a) oG) →
      sh43_J1 std Wc (.ptr p 0 0) (.int .i64 level) (.bool t63) zero.av (peek ts a).av (rd h b ts a) =
      some (eAV (if isTok (peek ts a) oNot || isTok (peek ts a) oX || isTok (peek ts a) oF || isTok (peek ts a) oG then andThen (s (a + 1)) fun f a' => (.ok (.mk (peek ts a).text [] false [f] (peek ts a).pos), a')
  else if isTok (peek ts a) [40] then andThen (i (a + 1)) fun f a' => if isTok (peek ts a') [41] then (.ok (setPos f (peek ts a).pos), a' + 1) else (.error ((peek ts a').pos, 20), a')
  else (.error ((peek ts a).pos, 20), a) : PR).1,
        rd h b ts (if isTok (peek ts a) oNot || isTok (peek ts a) oX || isTok (peek ts a) oF || isTok (peek ts a) oG then andThen (s (a + 1)) fun f a' => (.ok (.mk (peek ts a).text [] false [f] (peek ts a).pos), a')
  else if isTok (peek ts a) [40] then andThen (i (a + 1)) fun f a' => if isTok (peek ts a') [41] then (.ok (setPos f (peek ts a).pos), a' + 1) else (.error ((peek ts a').pos, 20), a')
  else (.error ((peek ts a).pos, 20), a) : PR).2) := by
      intro t63 ht
      unfold sh43_J1
      refine if_s (fun g2 => ?_) (fun g2 => ?_)
      · rw [g2] at ht
        rw [← ht]
        have hk : (peek ts a).kind ≠ 0 := by
          rcases Bool.or_eq_true_iff.1 ht.symm with e | e
          · rcases Bool.or_eq_true_iff.1 e with e | e
            · rcases Bool.or_eq_true_iff.1 e with e | e <;> exact isTok_kind e
            · exact isTok_kind e
          · exact isTok_kind e
        have ha1 := next_lt pc.ok ha hk
        simp only [if_true]
        (repeat' first | refine bv_s rfl ?_ | refine withK_s ?_)
        refine bv_s (p_r pc a) ?_
        refine br_s (c37 pc.lt pc.ok ha) ?_
        have : adv ts a = a + 1 := by rw [adv, if_neg hk]
        rw [this]
        refine bv_s rfl ?_
        rw [wrap64 (by omega) (by omega)]
        refine br_s (hs _ ha1) ?_
        cases hr : (s (a + 1)).1 with
        | error e =>
          simp only [andThen, hr]
          (repeat' first | refine bv_s rfl ?_ | refine withK_s ?_ | refine if_t rfl ?_ | refine if_f rfl ?_)
          rfl
        | ok f =>
          simp only [andThen, hr]
          (repeat' first | refine bv_s rfl ?_ | refine withK_s ?_)
          refine bv_s (shape_s _) ?_
          (repeat' first | refine bv_s rfl ?_ | refine withK_s ?_ | refine if_t rfl ?_ | refine if_f rfl ?_)
          refine bv_s (mkl1 _) ?_
          (repeat' first | refine bv_s rfl ?_ | refine withK_s ?_)
          simp only [eAV, av_mk]
          rfl
      rw [g2] at ht
      rw [← ht]
      simp only [Bool.false_eq_true, if_false]
      (repeat' first | refine bv_s rfl ?_ | refine withK_s ?_)
      refine bv_s (p_r pc a) ?_
      refine br_s (c38 pc.lt pc.ok ha [40]) ?_
      cases hp : isTok (peek ts a) [40]
      · have hsk : skipN ts a [40] = a := by rw [skipN, hp]; rfl
        rw [hsk]
        simp only [Bool.false_eq_true, if_false]
        (repeat' first | refine bv_s rfl ?_ | refine withK_s ?_ | refine if_t rfl ?_ | refine if_f rfl ?_)
        rfl
      · have hsk : skipN ts a [40] = a + 1 := by rw [skipN, hp]; rfl
        rw [hsk]
        simp only [if_true]
        have ha1 := next_lt pc.ok ha (isTok_kind hp)
        have hgi := gi _ ha1
        refine bv_s rfl ?_
        refine if_f rfl ?_
        refine bv_s rfl ?_
        rw [wrap64 (by omega) (by omega)]
        refine br_s (hi _ ha1) ?_
        cases hr : (i (a + 1)).1 with
        | error e =>
          simp only [andThen, hr]
          (repeat' first | refine bv_s rfl ?_ | refine withK_s ?_ | refine if_t rfl ?_ | refine if_f rfl ?_)
          rfl
        | ok f =>
          simp only [andThen, hr]
          (repeat' first | refine bv_s rfl ?_ | refine withK_s ?_)
          refine bv_s (shape_s _) ?_
          (repeat' first | refine bv_s rfl ?_ | refine withK_s ?_ | refine if_t rfl ?_ | refine if_f rfl ?_)
          refine bv_s (p_r pc _) ?_
          refine br_s (c38 pc.lt pc.ok hgi.2 [41]) ?_
          cases hq : isTok (peek ts (i (a + 1)).2) [41]
          · have hsk : skipN ts (i (a + 1)).2 [41] = (i (a + 1)).2 := by rw [skipN, hq]; rfl
            rw [hsk]
            simp only [Bool.false_eq_true, if_false]
            (repeat' first | refine bv_s rfl ?_ | refine withK_s ?_ | refine if_t rfl ?_ | refine if_f rfl ?_)
            rfl
          · have hsk : skipN ts (i (a + 1)).2 [41] = (i (a + 1)).2 + 1 := by rw [skipN, hq]; rfl
            rw [hsk]
            simp only [if_true]
            obtain ⟨o, n, nl, ks, q⟩ := f
            simp only [eAV, setPos, av_mk]
            (repeat' first | refine bv_s rfl ?_ | refine withK_s ?_ | refine if_t rfl ?_ | refine if_f rfl ?_)
            rfl
    refine withK_s ?_
    (repeat' first | refine bv_s rfl ?_ | refine withK_s ?_)
    refine bv_s (p_r pc a) ?_
    refine br_s (c44 pc.lt ha _) ?_
    refine if_s (fun q1 => ?_) (fun q1 => ?_)
    · exact k1 _ (by rw [q1]; rfl)
    (repeat' first | refine bv_s rfl ?_ | refine withK_s ?_)
    refine bv_s (p_r pc a) ?_
    refine br_s (c44 pc.lt ha _) ?_
    refine if_s (fun q2 => ?_) (fun q2 => ?_)
    · exact k1 _ (by rw [q1, q2]; rfl)
    (repeat' first | refine bv_s rfl ?_ | refine withK_s ?_)
    refine bv_s (p_r pc a) ?_
    refine br_s (c44 pc.lt ha _) ?_
    refine if_s (fun q3 => ?_) (fun q3 => ?_)
    · exact k1 _ (by rw [q1, q2, q3]; rfl)
    (repeat' first | refine bv_s rfl ?_ | refine withK_s ?_)
    refine bv_s (p_r pc a) ?_
    refine br_s (c44 pc.lt ha _) ?_
    exact k1 _ (by rw [q1, q2, q3]; rfl)
  (repeat' first | refine bv_s rfl ?_ | refine withK_s ?_)
  refine bv_s (p_r pc a) ?_
  refine br_s (c44 pc.lt ha _) ?_
  refine if_s (fun q1 => ?_) (fun q1 => ?_)
  · exact k2 _ (by rw [q1]; rfl)
  (repeat' first | refine bv_s rfl ?_ | refine withK_s ?_)
  refine bv_s (p_r pc a) ?_
  refine br_s (c44 pc.lt ha _) ?_
  exact k2 _ (by rw [q1]; rfl)
theorem c42 (pc : PC h p b d ts) {level : Int} (hl : level ≤ d) (hl0 : 0 ≤ level ∧ level ≤ 1000) {s u : Nat → PR} (hs : Lv h p b ts 43 level s) (hu : Lv h p b ts 42 (level + 1) u) (gs : Goes ts s) :
    Lv h p b ts 42 level (untilB ts s u) := by
  intro a ha
  have hgs := gs a ha
  refine w42 ?_
  unfold sh42 untilB
  (repeat' first | refine bv_s rfl ?_ | refine withK_s ?_)
  refine bv_s (p_d pc a) ?_
  refine bv_s rfl ?_
  refine if_f (decide_eq_false (by omega)) ?_
  refine br_s (hs a ha) ?_
  cases hr : (s a).1 with
  | error e =>
    simp only [andThen, hr]
    (repeat' first | refine bv_s rfl ?_ | refine withK_s ?_ | refine if_t rfl ?_ | refine if_f rfl ?_)
    rfl
  | ok f =>
    simp only [andThen, hr]
    (repeat' first | refine bv_s rfl ?_ | refine withK_s ?_)
    refine bv_s (shape_s _) ?_
    (repeat' first | refine bv_s rfl ?_ | refine withK_s ?_ | refine if_t rfl ?_ | refine if_f rfl ?_)
    refine br_s (c26 pc hl0 (F := .func 42 [.ptr p 0 0] []) (next := u) (fun a ha => hu a ha) [oU, oW, oR] (by decide) f hgs.2) ?_
    cases hq : (rightS ts u [oU, oW, oR] f (s a).2).1 with
    | error e =>
      (repeat' first | refine bv_s rfl ?_ | refine withK_s ?_ | refine if_t rfl ?_ | refine if_f rfl ?_)
      rfl
    | ok g =>
      (repeat' first | refine bv_s rfl ?_ | refine withK_s ?_)
      refine bv_s (shape_s _) ?_
      rfl
theorem c24 (pc : PC h p b d ts) {level : Int} {u : Nat → PR} (hu : Lv h p b ts 42 level u) (gu : Goes ts u) {a : Nat} (ha : a < ts.length) :
    Wc 24 [.int .i64 level, .ro (.ptr p 0 0) 0] (rd h b ts a) = some (eAV (chainS ts oAnd u a).1, rd h b ts (chainS ts oAnd u a).2) := by
  refine w24 ?_
  unfold sh24
  (repeat' first | refine bv_s rfl ?_ | refine withK_s ?_)
  refine br_s (c25 pc (F := .func 42 [.ptr p 0 0] []) (fun a ha => hu a ha) gu oAnd ha) ?_
  cases hq : (chainS ts oAnd u a).1 with
  | error e =>
    (repeat' first | refine bv_s rfl ?_ | refine withK_s ?_ | refine if_t rfl ?_ | refine if_f rfl ?_)
    rfl
  | ok g =>
    (repeat' first | refine bv_s rfl ?_ | refine withK_s ?_)
    refine bv_s (shape_s _) ?_
    rfl
theorem c11 (pc : PC h p b d ts) {level : Int} (hl : level ≤ d) (hl0 : 0 ≤ level ∧ level ≤ 1000) {u i : Nat → PR} (hu : Lv h p b ts 42 level u) (hi : Lv h p b ts 11 (level + 1) i) (gu : Goes ts u) :
    Lv h p b ts 11 level (implyB ts u i) := by
  intro a ha
  have gc := goes_chain pc.ok (op := oOr) (goes_chain pc.ok (op := oAnd) gu)
  have hgc := gc a ha
  refine w11 ?_
  unfold sh11 implyB
  (repeat' first | refine bv_s rfl ?_ | refine withK_s ?_)
  refine bv_s (p_d pc a) ?_
  refine bv_s rfl ?_
  refine if_f (decide_eq_false (by omega)) ?_
  (repeat' first | refine bv_s rfl ?_ | refine withK_s ?_)
  refine br_s (c25 pc (F := .func 24 [] [.ro (.ptr p 0 0) 0]) (fun a ha => c24 pc hu gu ha) (goes_chain pc.ok gu) oOr ha) ?_
  cases hr : (chainS ts oOr (chainS ts oAnd u) a).1 with
  | error e =>
    simp only [andThen, hr]
    (repeat' first | refine bv_s rfl ?_ | refine withK_s ?_ | refine if_t rfl ?_ | refine if_f rfl ?_)
    rfl
  | ok f =>
    simp only [andThen, hr]
    (repeat' first | refine bv_s rfl ?_ | refine withK_s ?_)
    refine bv_s (shape_s _) ?_
    (repeat' first | refine bv_s rfl ?_ | refine withK_s ?_ | refine if_t rfl ?_ | refine if_f rfl ?_)
    refine br_s (c26 pc hl0 (F := .func 11 [.ptr p 0 0] []) (next := i) (fun a ha => hi a ha) [oImp] (by decide) f hgc.2) ?_
    cases hq : (rightS ts i [oImp] f (chainS ts oOr (chainS ts oAnd u) a).2).1 with
    | error e =>
      (repeat' first | refine bv_s rfl ?_ | refine withK_s ?_ | refine if_t rfl ?_ | refine if_f rfl ?_)
      rfl
    | ok g =>
      (repeat' first | refine bv_s rfl ?_ | refine withK_s ?_)
      refine bv_s (shape_s _) ?_
      rfl
theorem lev_ok (pc : PC h p b d ts) (hd : d ≤ 64) : ∀ (n : Nat) (level : Int), level = d + 1 - n → 0 ≤ level → Lv h p b ts 43 level (lev ts n).s ∧ Lv h p b ts 42 level (lev ts n).u ∧ Lv h p b ts 11 level (lev ts n).i
  | 0, level, he, h0 => ⟨c43_deep pc (by omega), c42_deep pc (by omega), c11_deep pc (by omega)⟩
  | n + 1, level, he, h0 => by
    obtain ⟨h1, h2, h3⟩ := lev_ok pc hd n (level + 1) (by omega) (by omega)
    obtain ⟨g1, g2, g3⟩ := goes_lev pc.ok n
    have hl : level ≤ d := by omega
    have hl0 : 0 ≤ level ∧ level ≤ 1000 := by omega
    have s := c43 pc hl hl0 h1 h3 g1 g3
    have gs := goes_single pc.ok g1 g3
    have u := c42 pc hl hl0 s h2 gs
    have gu := goes_until pc.ok gs g2
    exact ⟨s, u, c11 pc hl hl0 u h3 gu⟩
end
end Go.Abs
