/- The parser: the contracts of its functions. -/
import Derived.Test.YtiefbkjoldcebaaDoorXxPar
namespace Go.Abs
open Fm

structure PC (h : H) (p b : Nat) (d : Int) (ts : List Tok) : Prop where
  hp : h.get p = some (.cells 2 true (.agg [.ptr b 0 0, .int .i64 d]) [])
  lt : b < h.size
  ne : p ≠ b
  ok : Toks ts
section
variable {h : H} {p b : Nat} {d : Int} {ts : List Tok}
theorem p_r (pc : PC h p b d ts) (a : Nat) : std.hload (rd h b ts a) (.ptr p 0 (0 + 0)) 1 false = some (.ptr b 0 0) := by
  rw [std_hload]
  simp only [hload, get_rd_ne pc.ne, pc.hp]
  rfl
theorem p_d (pc : PC h p b d ts) (a : Nat) : std.hload (rd h b ts a) (.ptr p 0 (0 + 1)) 1 false = some (.int .i64 d) := by
  rw [std_hload]
  simp only [hload, get_rd_ne pc.ne, pc.hp]
  rfl
theorem c13 (pc : PC h p b d ts) {a : Nat} (ha : a < ts.length) (n : Int) : Wc 13 [.ptr p 0 0, errno n] (rd h b ts a) = some (errAt (peek ts a).pos n, rd h b ts a) := by
  refine w13 ?_
  unfold sh13
  (repeat' first | refine bv_s rfl ?_ | refine withK_s ?_)
  refine bv_s (p_r pc a) ?_
  refine br_s (c12 pc.lt ha) ?_
  (repeat' first | refine bv_s rfl ?_ | refine withK_s ?_)
  rfl
theorem c41 (op : List UInt8) (f g : Fm) (h : H) : Wc 41 [.str op, f.av, g.av] h = some ((two op f g).av, h) := by
  refine w41 ?_
  unfold sh41
  refine bv_s (box_av _) ?_
  refine bv_s (box_av _) ?_
  refine bv_s rfl ?_
  refine bv_s (ld_av _) ?_
  refine bv_s (ld_av _) ?_
  refine bv_s (mkl2 _ _) ?_
  obtain ⟨o, n, nl, ks, q⟩ := f
  rw [two, av_mk (o := op)]
  simp only [av_mk]
  (repeat' first | refine bv_s rfl ?_ | refine withK_s ?_)
  simp only [List.map_cons, List.map_nil, av_mk]
  rfl
/-- a function value of the parser, at a level -/
def Ans (h : H) (b : Nat) (ts : List Tok) (F : AV) (level : Int) (spec : Nat → PR) : Prop :=
  ∀ a, a < ts.length → std.callV Wc F [.int .i64 level] (rd h b ts a) = some (eAV (spec a).1, rd h b ts (spec a).2)
theorem c26 (pc : PC h p b d ts) {F : AV} {level : Int} {next : Nat → PR} (hl : 0 ≤ level ∧ level ≤ 1000) (hF : Ans h b ts F (level + 1) next) (ops : List (List UInt8)) (ho : ops.length ≤ 10) (f : Fm) {a : Nat} (ha : a < ts.length) :
    Wc 26 [.ptr p 0 0, .int .i64 level, f.av, F, .list false 1 (ops.map .str)] (rd h b ts a) = some (eAV (rightS ts next ops f a).1, rd h b ts (rightS ts next ops f a).2) := by
  refine w26 ?_
  unfold sh26
  refine bv_s (box_av _) ?_
  (repeat' first | refine bv_s rfl ?_ | refine withK_s ?_)
  have := loop_ind (sh26_L1_F Wc) (σ := Nat) (fun i => i ≤ ops.length) (fun i => ([.ptr p 0 0, .int .i64 level, F, .ro f.av 0, .list false 1 (ops.map .str), .int .i64 (ops.map AV.str).length, .int .i64 i, zero.av], rd h b ts a)) (fun i => ops.length - i)
          (fun i => (eAV (rightS ts next (ops.drop i) f a).1, rd h b ts (rightS ts next (ops.drop i) f a).2)) (fun K i hi hK => by
            show sh26_L1 std Wc K (.ptr p 0 0) (.int .i64 level) F (.ro f.av 0) (.list false 1 (ops.map .str)) (.int .i64 (ops.map AV.str).length) (.int .i64 i) zero.av (rd h b ts a) = _
            unfold sh26_L1
            refine bv_s rfl ?_
            refine if_s (fun g1 => ?_) (fun g1 => ?_)
            · have hlt : i < ops.length := by simpa using g1
              have hn := hK (i + 1) hlt (by omega)
              have hd := drop_cons_get hlt
              refine bv_s (ev_idx (x := .str ops[i]) (by simp [hlt])) ?_
              (repeat' first | refine bv_s rfl ?_ | refine withK_s ?_)
              refine bv_s (p_r pc a) ?_
              refine br_s (c36 pc.lt pc.ok ha _) ?_
              rw [hd, rightS]
              refine if_s (fun g2 => ?_) (fun g2 => ?_)
              · rw [if_pos g2]
                have hs : skipN ts a ops[i] = a + 1 := by rw [skipN, if_pos g2]
                rw [hs]
                refine bv_s rfl ?_
                rw [wrap64 (by omega) (by omega)]
                have ha1 := next_lt pc.ok ha (isTok_kind g2)
                refine br_s (hF _ ha1) ?_
                cases hr : (next (a + 1)).1 with
                | error e =>
                  simp only [andThen, hr]
                  (repeat' first | refine bv_s rfl ?_ | refine withK_s ?_ | refine if_t rfl ?_ | refine if_f rfl ?_)
                  rfl
                | ok g =>
                  simp only [andThen, hr]
                  (repeat' first | refine bv_s rfl ?_ | refine withK_s ?_)
                  refine bv_s (shape_s _) ?_
                  (repeat' first | refine bv_s rfl ?_ | refine withK_s ?_ | refine if_t rfl ?_ | refine if_f rfl ?_)
                  refine bv_s (ld_av _) ?_
                  refine br_s (c41 _ _ _ _) ?_
                  refine bv_s (shape_s _) ?_
                  rfl
              · rw [g2, if_neg (by simp)]
                have hs : skipN ts a ops[i] = a := by rw [skipN, g2]; rfl
                rw [hs]
                refine bv_s rfl ?_
                rw [succ64 (by omega)]
                exact hn
            · have : i = ops.length := by simp at g1; omega
              subst this
              rw [List.drop_length, rightS]
              refine bv_s (ld_av _) ?_
              refine bv_s (shape_s _) ?_
              rfl) 0 (by omega)
  exact this
theorem chainL_fuel (ht : Toks ts) {op : List UInt8} {one : Nat → PR} (ho : Goes ts one) : ∀ n m f a, a < ts.length → ts.length - a ≤ n → ts.length - a ≤ m → chainL ts op one n f a = chainL ts op one m f a
  | 0, _, _, a, h, hn, _ => by omega
  | _, 0, _, a, h, _, hm => by omega
  | n + 1, m + 1, f, a, h, hn, hm => by
    unfold chainL
    split
    · rename_i hi
      have h1 := next_lt ht h (isTok_kind hi)
      have := ho (a + 1) h1
      unfold andThen
      split
      · exact chainL_fuel ht ho n m _ _ this.2 (by omega) (by omega)
      · rfl
    · rfl
theorem c25 (pc : PC h p b d ts) {F : AV} {level : Int} {one : Nat → PR} (hF : Ans h b ts F level one) (hg : Goes ts one) (op : List UInt8) {a : Nat} (ha : a < ts.length) :
    Wc 25 [.ptr p 0 0, .str op, .int .i64 level, F] (rd h b ts a) = some (eAV (chainS ts op one a).1, rd h b ts (chainS ts op one a).2) := by
  refine w25 ?_
  unfold sh25
  (repeat' first | refine bv_s rfl ?_ | refine withK_s ?_)
  refine br_s (hF a ha) ?_
  have hga := hg a ha
  let errv : Option (Int × Int) → AV := fun e => match e with | none => .nili | some e => errAt e.1 e.2
  have key := loop_ind (sh25_L1_F Wc) (σ := Option (Int × Int) × Fm × Nat) (fun x => x.2.2 < ts.length)
          (fun x => ([.ptr p 0 0, .str op, .int .i64 level, F, errv x.1, zero.av, x.2.1.av], rd h b ts x.2.2)) (fun x => match x.1 with | none => ts.length - x.2.2 + 1 | some _ => 0)
          (fun x => match x.1 with
            | none => (eAV (chainL ts op one (ts.length - x.2.2) x.2.1 x.2.2).1, rd h b ts (chainL ts op one (ts.length - x.2.2) x.2.1 x.2.2).2)
            | some e => (eAV (.error e), rd h b ts x.2.2)) (fun K x hi hK => by
            obtain ⟨e, f, a⟩ := x
            dsimp only at hi
            show sh25_L1 std Wc K (.ptr p 0 0) (.str op) (.int .i64 level) F (errv e) zero.av f.av (rd h b ts a) = _
            unfold sh25_L1
            cases e with
            | some e =>
              (repeat' first | refine bv_s rfl ?_ | refine withK_s ?_)
              refine br_s (gr_f rfl) ?_
              (repeat' first | refine bv_s rfl ?_ | refine withK_s ?_ | refine if_t rfl ?_ | refine if_f rfl ?_)
              rfl
            | none =>
              (repeat' first | refine bv_s rfl ?_ | refine withK_s ?_)
              refine bv_s (gt_t rfl (p_r pc a)) ?_
              (repeat' first | refine bv_s rfl ?_ | refine withK_s ?_)
              refine br_s (gr_t rfl (c36 pc.lt pc.ok hi op)) ?_
              refine bv_s rfl ?_
              show std.ifB (.bool (isTok (peek ts a) op)) _ _ = _
              obtain ⟨n, hn⟩ : ∃ n, ts.length - a = n + 1 := ⟨ts.length - a - 1, by omega⟩
              rw [hn]
              simp only [chainL]
              refine if_s (fun g2 => ?_) (fun g2 => ?_)
              · rw [if_pos g2]
                have hs : skipN ts a op = a + 1 := by rw [skipN, if_pos g2]
                rw [hs]
                have ha1 := next_lt pc.ok hi (isTok_kind g2)
                have hg1 := hg _ ha1
                (repeat' first | refine bv_s rfl ?_ | refine withK_s ?_)
                refine br_s (hF _ ha1) ?_
                cases hr : (one (a + 1)).1 with
                | error e =>
                  simp only [andThen, hr]
                  (repeat' first | refine bv_s rfl ?_ | refine withK_s ?_ | refine if_t rfl ?_ | refine if_f rfl ?_)
                  exact hK (some e, f, _) hg1.2 (by dsimp only; omega)
                | ok g =>
                  simp only [andThen, hr]
                  (repeat' first | refine bv_s rfl ?_ | refine withK_s ?_)
                  refine bv_s (shape_s _) ?_
                  (repeat' first | refine bv_s rfl ?_ | refine withK_s ?_ | refine if_t rfl ?_ | refine if_f rfl ?_)
                  refine br_s (c41 _ _ _ _) ?_
                  refine bv_s (shape_s _) ?_
                  have := hK (none, two op f g, (one (a + 1)).2) hg1.2 (by dsimp only; omega)
                  dsimp only at this
                  rw [chainL_fuel pc.ok hg (ts.length - (one (a + 1)).2) n _ _ hg1.2 (by omega) (by omega)] at this
                  exact this
              · rw [g2, if_neg (by simp)]
                have hs : skipN ts a op = a := by rw [skipN, g2]; rfl
                rw [hs]
                (repeat' first | refine bv_s rfl ?_ | refine withK_s ?_ | refine if_t rfl ?_ | refine if_f rfl ?_)
                refine bv_s (shape_s _) ?_
                rfl)
  unfold chainS
  cases hr : (one a).1 with
  | error e =>
    simp only [andThen, hr]
    (repeat' first | refine bv_s rfl ?_ | refine withK_s ?_ | refine if_t rfl ?_ | refine if_f rfl ?_)
    exact key (some e, zero, _) hga.2
  | ok g =>
    simp only [andThen, hr]
    (repeat' first | refine bv_s rfl ?_ | refine withK_s ?_)
    refine bv_s (shape_s _) ?_
    exact key (none, g, _) hga.2
end
end Go.Abs
