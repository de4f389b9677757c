/- Steps through a printed text; loops. -/
import Derived.Test.YtiefbkjoldcebaaDoorXxT
namespace Go.Abs

theorem std_ev' : std.ev = evalP := rfl
theorem bv_s {x : Option AV} {v : AV} {k : AV → R} {r : AV × H} (h : x = some v) (hk : k v = some r) : std.bv x k = some r := by
  subst h; exact hk
theorem br_s {x : R} {v : AV} {h' : H} {k : AV → H → R} {r : AV × H} (h : x = some (v, h')) (hk : k v h' = some r) : std.br x k = some r := by
  subst h; exact hk
theorem bh_s {x : Option H} {h' : H} {k : H → R} {r : AV × H} (h : x = some h') (hk : k h' = some r) : std.bh x k = some r := by
  subst h; exact hk
theorem if_s {b : Bool} {A B : R} {r : AV × H} (hA : b = true → A = some r) (hB : b = false → B = some r) : std.ifB (.bool b) A B = some r := by
  cases b
  · exact hB rfl
  · exact hA rfl
theorem if_t {b : Bool} {A B : R} {r : AV × H} (hb : b = true) (hA : A = some r) : std.ifB (.bool b) A B = some r := by
  subst hb; exact hA
theorem if_f {b : Bool} {A B : R} {r : AV × H} (hb : b = false) (hB : B = some r) : std.ifB (.bool b) A B = some r := by
  subst hb; exact hB
/-- a guarded value: with the guard as a hypothesis -/
theorem gt_s {b w : Bool} {x : Option AV} {v : AV} (h : (b = w) → x = some v) : std.gt (std.gv (.bool b) w) x = some (if b = w then v else undefAV) := by
  cases b <;> cases w <;> first | (have := h rfl; subst this; rfl) | rfl
theorem gt_t {b w : Bool} {x : Option AV} {v : AV} (hb : b = w) (h : x = some v) : std.gt (std.gv (.bool b) w) x = some v := by
  subst hb; subst h; cases b <;> rfl
theorem gt_f {b w : Bool} {x : Option AV} (hb : b = !w) : std.gt (std.gv (.bool b) w) x = some undefAV := by
  subst hb; cases w <;> rfl
set_option linter.unusedVariables false
theorem k_pt {a b : AV} {k : AV → R} {r : AV × H} (hk : k a = some r) : std.bv (std.ev .pick [.bool true, a, b]) k = some r := hk
theorem k_pf {a b : AV} {k : AV → R} {r : AV × H} (hk : k b = some r) : std.bv (std.ev .pick [.bool false, a, b]) k = some r := hk
theorem k_es {s t : List UInt8} {k : AV → R} {r : AV × H} (hk : k (.bool (s == t)) = some r) : std.bv (std.ev (.bin .eql) [.str s, .str t]) k = some r := hk
theorem k_ns {s t : List UInt8} {k : AV → R} {r : AV × H} (hk : k (.bool (!(s == t))) = some r) : std.bv (std.ev (.bin .neq) [.str s, .str t]) k = some r := hk
theorem k_not {p : Bool} {k : AV → R} {r : AV × H} (hk : k (.bool (!p)) = some r) : std.bv (std.ev (.un .not) [.bool p]) k = some r := hk
theorem k_eb {b : AV} {p q : Bool} {k : AV → R} {r : AV × H} (hk : k (.bool (p == q)) = some r) : std.bv (std.ev (.eq false .b) [.bool p, .bool q]) k = some r := hk
theorem k_nb {b : AV} {p q : Bool} {k : AV → R} {r : AV × H} (hk : k (.bool (!(p == q))) = some r) : std.bv (std.ev (.eq true .b) [.bool p, .bool q]) k = some r := hk
theorem ktt_s {a : AV} {k : AV → R} {r : AV × H} (hk : k a = some r) : std.bv (std.gt (std.gv (.bool true) true) (some a)) k = some r := hk
theorem ktt_pt {a b : AV} {k : AV → R} {r : AV × H} (hk : k a = some r) : std.bv (std.gt (std.gv (.bool true) true) (std.ev .pick [.bool true, a, b])) k = some r := hk
theorem ktt_pf {a b : AV} {k : AV → R} {r : AV × H} (hk : k b = some r) : std.bv (std.gt (std.gv (.bool true) true) (std.ev .pick [.bool false, a, b])) k = some r := hk
theorem ktt_es {s t : List UInt8} {k : AV → R} {r : AV × H} (hk : k (.bool (s == t)) = some r) : std.bv (std.gt (std.gv (.bool true) true) (std.ev (.bin .eql) [.str s, .str t])) k = some r := hk
theorem ktt_ns {s t : List UInt8} {k : AV → R} {r : AV × H} (hk : k (.bool (!(s == t))) = some r) : std.bv (std.gt (std.gv (.bool true) true) (std.ev (.bin .neq) [.str s, .str t])) k = some r := hk
theorem ktt_not {p : Bool} {k : AV → R} {r : AV × H} (hk : k (.bool (!p)) = some r) : std.bv (std.gt (std.gv (.bool true) true) (std.ev (.un .not) [.bool p])) k = some r := hk
theorem ktt_eb {b : AV} {p q : Bool} {k : AV → R} {r : AV × H} (hk : k (.bool (p == q)) = some r) : std.bv (std.gt (std.gv (.bool true) true) (std.ev (.eq false .b) [.bool p, .bool q])) k = some r := hk
theorem ktt_nb {b : AV} {p q : Bool} {k : AV → R} {r : AV × H} (hk : k (.bool (!(p == q))) = some r) : std.bv (std.gt (std.gv (.bool true) true) (std.ev (.eq true .b) [.bool p, .bool q])) k = some r := hk
theorem kff_s {a : AV} {k : AV → R} {r : AV × H} (hk : k a = some r) : std.bv (std.gt (std.gv (.bool false) false) (some a)) k = some r := hk
theorem kff_pt {a b : AV} {k : AV → R} {r : AV × H} (hk : k a = some r) : std.bv (std.gt (std.gv (.bool false) false) (std.ev .pick [.bool true, a, b])) k = some r := hk
theorem kff_pf {a b : AV} {k : AV → R} {r : AV × H} (hk : k b = some r) : std.bv (std.gt (std.gv (.bool false) false) (std.ev .pick [.bool false, a, b])) k = some r := hk
theorem kff_es {s t : List UInt8} {k : AV → R} {r : AV × H} (hk : k (.bool (s == t)) = some r) : std.bv (std.gt (std.gv (.bool false) false) (std.ev (.bin .eql) [.str s, .str t])) k = some r := hk
theorem kff_ns {s t : List UInt8} {k : AV → R} {r : AV × H} (hk : k (.bool (!(s == t))) = some r) : std.bv (std.gt (std.gv (.bool false) false) (std.ev (.bin .neq) [.str s, .str t])) k = some r := hk
theorem kff_not {p : Bool} {k : AV → R} {r : AV × H} (hk : k (.bool (!p)) = some r) : std.bv (std.gt (std.gv (.bool false) false) (std.ev (.un .not) [.bool p])) k = some r := hk
theorem kff_eb {b : AV} {p q : Bool} {k : AV → R} {r : AV × H} (hk : k (.bool (p == q)) = some r) : std.bv (std.gt (std.gv (.bool false) false) (std.ev (.eq false .b) [.bool p, .bool q])) k = some r := hk
theorem kff_nb {b : AV} {p q : Bool} {k : AV → R} {r : AV × H} (hk : k (.bool (!(p == q))) = some r) : std.bv (std.gt (std.gv (.bool false) false) (std.ev (.eq true .b) [.bool p, .bool q])) k = some r := hk
theorem k_tf {x : Option AV} {k : AV → R} {r : AV × H} (hk : k undefAV = some r) : std.bv (std.gt (std.gv (.bool true) false) x) k = some r := hk
theorem k_ft {x : Option AV} {k : AV → R} {r : AV × H} (hk : k undefAV = some r) : std.bv (std.gt (std.gv (.bool false) true) x) k = some r := hk
theorem k_uu {x : Option AV} {w : Bool} {k : AV → R} {r : AV × H} (hk : k undefAV = some r) : std.bv (std.gt (std.gv undefAV w) x) k = some r := hk
theorem k_ei {i : IntKind} {m n : Int} {k : AV → R} {r : AV × H} (hk : k (.bool (m == n)) = some r) : std.bv (std.ev (.bin .eql) [.int i m, .int i n]) k = some r := by
  have : std.ev (.bin .eql) [.int i m, .int i n] = some (.bool (m == n)) := by rw [std_ev']; simp [evalP, evalBin, evalInt]
  rw [this]; exact hk
theorem k_ni {i : IntKind} {m n : Int} {k : AV → R} {r : AV × H} (hk : k (.bool (m != n)) = some r) : std.bv (std.ev (.bin .neq) [.int i m, .int i n]) k = some r := by
  have : std.ev (.bin .neq) [.int i m, .int i n] = some (.bool (m != n)) := by rw [std_ev']; simp [evalP, evalBin, evalInt]
  rw [this]; exact hk
theorem ktt_ei {i : IntKind} {m n : Int} {k : AV → R} {r : AV × H} (hk : k (.bool (m == n)) = some r) : std.bv (std.gt (std.gv (.bool true) true) (std.ev (.bin .eql) [.int i m, .int i n])) k = some r := by
  have : std.ev (.bin .eql) [.int i m, .int i n] = some (.bool (m == n)) := by rw [std_ev']; simp [evalP, evalBin, evalInt]
  rw [this]; exact hk
theorem ktt_ni {i : IntKind} {m n : Int} {k : AV → R} {r : AV × H} (hk : k (.bool (m != n)) = some r) : std.bv (std.gt (std.gv (.bool true) true) (std.ev (.bin .neq) [.int i m, .int i n])) k = some r := by
  have : std.ev (.bin .neq) [.int i m, .int i n] = some (.bool (m != n)) := by rw [std_ev']; simp [evalP, evalBin, evalInt]
  rw [this]; exact hk
theorem kff_ei {i : IntKind} {m n : Int} {k : AV → R} {r : AV × H} (hk : k (.bool (m == n)) = some r) : std.bv (std.gt (std.gv (.bool false) false) (std.ev (.bin .eql) [.int i m, .int i n])) k = some r := by
  have : std.ev (.bin .eql) [.int i m, .int i n] = some (.bool (m == n)) := by rw [std_ev']; simp [evalP, evalBin, evalInt]
  rw [this]; exact hk
theorem kff_ni {i : IntKind} {m n : Int} {k : AV → R} {r : AV × H} (hk : k (.bool (m != n)) = some r) : std.bv (std.gt (std.gv (.bool false) false) (std.ev (.bin .neq) [.int i m, .int i n])) k = some r := by
  have : std.ev (.bin .neq) [.int i m, .int i n] = some (.bool (m != n)) := by rw [std_ev']; simp [evalP, evalBin, evalInt]
  rw [this]; exact hk
theorem gr_t {b w : Bool} {x : R} {h : H} {v : AV × H} (hb : b = w) (hx : x = some v) : std.gr (std.gv (.bool b) w) x h = some v := by
  subst hb; subst hx; cases b <;> rfl
theorem gr_f {b w : Bool} {x : R} {h : H} (hb : b = !w) : std.gr (std.gv (.bool b) w) x h = some (undefAV, h) := by
  subst hb; cases w <;> rfl
theorem onG_t {b w : Bool} {A B : R} {r : AV × H} (hb : b = w) (hA : A = some r) : std.onG (std.gv (.bool b) w) A B = some r := by
  subst hb; subst hA; cases b <;> rfl
theorem onG_f {b w : Bool} {A B : R} {r : AV × H} (hb : b = !w) (hB : B = some r) : std.onG (std.gv (.bool b) w) A B = some r := by
  subst hb; subst hB; cases w <;> rfl
theorem onG_u {w : Bool} {A B : R} {r : AV × H} (hB : B = some r) : std.onG (std.gv undefAV w) A B = some r := hB
theorem gr_u {w : Bool} {x : R} {h : H} : std.gr (std.gv undefAV w) x h = some (undefAV, h) := rfl
theorem chk_s {xs : List (Option AV)} {v : AV} {K : R} {r : AV × H} (hx : ∀ x ∈ xs, x = some v) (hK : K = some r) : std.chk (some true) xs v K = some r := by
  have : allAre v xs = true := by
    induction xs with
    | nil => rfl
    | cons x xs ih => rw [hx x (List.mem_cons_self ..)]; simp [allAre, ih fun x h => hx x (List.mem_cons_of_mem _ h)]
  show chkV (some true) xs v K = some r
  simp only [chkV, this, hK]

theorem std_ev : std.ev = evalP := rfl
theorem std_hload : std.hload = hload := rfl
theorem std_hstore : std.hstore = hstore := rfl
theorem std_app : std.appList = xOp.appList := rfl
theorem std_part : std.part = part := rfl
theorem std_setPart : std.setPart = setPart := rfl
theorem std_claim : std.claim = claim := rfl
theorem std_shape : std.shape = shape := rfl
theorem std_callV : std.callV = xOp.callV := rfl
/-! ### Numbers -/
theorem wrap64 {n : Int} (h1 : -9223372036854775808 ≤ n) (h2 : n ≤ 9223372036854775807) : IntKind.i64.wrap n = n := by
  simp [IntKind.wrap, IntKind.bits, IntKind.signed]
  omega
theorem ev_idx {nl : Bool} {sz : Nat} {xs : List AV} {k : IntKind} {i : Nat} {x : AV} (h : xs[i]? = some x) : std.ev (.idxAddr sz) [.list nl sz xs, .int k (i : Int)] = some (.ro x 0) := by
  rw [std_ev]
  have h0 : Nat.beq sz sz = true := Nat.beq_refl sz
  simp only [evalP, h0, Int.toNat_natCast, h, Int.natCast_nonneg, decide_true]

theorem withK_s {K : St → R} {b : (St → R) → R} {r : AV × H} (h : b K = some r) : std.withK K b = some r := h
/-! ### Loops -/
theorem loop_ind {F : (St → R) → St → R} (hF : LeF F F) {σ : Type} (inv : σ → Prop) (enc : σ → St) (μ : σ → Nat) (res : σ → AV × H)
    (step : ∀ (K : St → R) s, inv s → (∀ s', inv s' → μ s' < μ s → K (enc s') = some (res s')) → F K (enc s) = some (res s)) (s : σ) (hs : inv s) :
    std.loop F (enc s) = some (res s) := by
  have key : ∀ n s, inv s → μ s < n → loopN n F (enc s) = some (res s) := by
    intro n
    induction n with
    | zero => intro s _ h; omega
    | succ n ih =>
      intro s hi hm
      exact step (loopN n F) s hi fun s' hi' hm' => ih s' hi' (by omega)
  exact (loopW_iff hF (enc s) (res s)).2 ⟨μ s + 1, key _ s hs (by omega)⟩

/-! ### Texts grow with what they go on with -/
theorem bv_m {x : Option AV} {k k' : AV → R} (h : ∀ v, Le (k v) (k' v)) : Le (std.bv x k) (std.bv x k') := Le.bind (Le.refl _) h
theorem br_m {x : R} {k k' : AV → H → R} (h : ∀ v g, Le (k v g) (k' v g)) : Le (std.br x k) (std.br x k') := Le.bind (Le.refl _) fun _ => h _ _
theorem bh_m {x : Option H} {k k' : H → R} (h : ∀ v, Le (k v) (k' v)) : Le (std.bh x k) (std.bh x k') := Le.bind (Le.refl _) h
theorem if_m {x : AV} {A A' B B' : R} (h1 : Le A A') (h2 : Le B B') : Le (std.ifB x A B) (std.ifB x A' B') := by
  show Le (ifB _ _ _) (ifB _ _ _)
  unfold ifB
  split
  · split
    · exact h1
    · exact h2
  · exact Le.none _
theorem onG_m {g : Option Bool} {A A' B B' : R} (h1 : Le A A') (h2 : Le B B') : Le (std.onG g A B) (std.onG g A' B') := by
  show Le (onG _ _ _) (onG _ _ _)
  unfold onG
  split
  · exact h1
  · exact h2
  · exact Le.none _
theorem chk_m {g : Option Bool} {xs : List (Option AV)} {v : AV} {K K' : R} (h : Le K K') : Le (std.chk g xs v K) (std.chk g xs v K') := by
  show Le (chkV _ _ _ _) (chkV _ _ _ _)
  unfold chkV
  split
  · exact h
  · split
    · exact h
    · exact Le.none _
  · exact Le.none _
theorem withK_m {K K' : St → R} {b b' : (St → R) → R} (h1 : LeK K K') (h2 : ∀ K K', LeK K K' → Le (b K) (b' K')) : Le (std.withK K b) (std.withK K' b') := h2 K K' h1
theorem loop_m {F F' : (St → R) → St → R} {st : St} (h : ∀ k k', LeK k k' → LeK (F k) (F k')) (h' : ∀ k k', LeK k k' → LeK (F' k) (F' k')) (h2 : ∀ k k', LeK k k' → LeK (F k) (F' k')) :
    Le (std.loop F st) (std.loop F' st) := loopW_mono F F' h h' h2 st
end Go.Abs
