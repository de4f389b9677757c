/- The run with fuel, its limit, and the limit's equations. -/
import Derived.Test.YtiefbkjoldcebaaDoorXxAbs
namespace Go.Abs

def Le {α : Type} (x y : Option α) : Prop := ∀ v, x = some v → y = some v
def LeK {σ : Type} (k k' : σ → R) : Prop := ∀ s, Le (k s) (k' s)
def LeC (C C' : Call) : Prop := ∀ f a h, Le (C f a h) (C' f a h)
def LeF (F F' : (St → R) → St → R) : Prop := ∀ k k', LeK k k' → LeK (F k) (F' k')
def LeL (L L' : Loop) : Prop := ∀ F F', LeF F F → LeF F' F' → LeF F F' → LeK (L F) (L' F')

theorem Le.refl {α : Type} (x : Option α) : Le x x := fun _ h => h
theorem Le.trans {α : Type} {x y z : Option α} (h : Le x y) (h' : Le y z) : Le x z := fun v e => h' v (h v e)
theorem Le.none {α : Type} (x : Option α) : Le Option.none x := fun _ h => by cases h
theorem Le.bind {α β : Type} {x x' : Option α} {f f' : α → Option β} (h : Le x x') (hf : ∀ a, Le (f a) (f' a)) : Le (x.bind f) (x'.bind f') := by
  intro v e
  cases x with
  | none => cases e
  | some a => rw [h a rfl]; exact hf a v e

theorem xOp_mono {C C' : Call} (hC : LeC C C') (o : IOp) (d : Option Nat) (s : S) {k k' : S → R} (hk : LeK k k') : Le (xOp C o d s k) (xOp C' o d s k') := by
  cases o with
  | call f xs =>
    simp only [xOp]
    split
    · exact Le.bind (hC _ _ _) fun _ => hk _
    · exact Le.none _
  | callv x xs =>
    simp only [xOp]
    split
    · refine Le.bind ?_ fun _ => hk _
      unfold xOp.callV
      split
      · exact hC _ _ _
      · exact Le.none _
    · exact Le.none _
  | _ =>
    simp only [xOp]
    repeat' split
    all_goals first
      | exact Le.none _
      | exact hk _
      | exact Le.bind (Le.refl _) fun _ => hk _
      | exact Le.bind (Le.refl _) fun _ => Le.bind (Le.refl _) fun _ => hk _

theorem xOps_mono {C C' : Call} (hC : LeC C C') (ops : List IOper) : ∀ (s : S) {k k' : S → R}, LeK k k' → Le (xOps C ops s k) (xOps C' ops s k') := by
  induction ops with
  | nil => intro s k k' hk; exact hk s
  | cons o os ih =>
    intro s k k' hk
    simp only [xOps]
    split
    · exact xOp_mono hC _ _ _ fun s => ih s hk
    · exact ih _ hk
    · exact Le.none _

theorem xDrawn_mono {C C' : Call} (hC : LeC C C') (ops : List IOper) : ∀ (s : S) (hs : List H) {k k' : S → List H → R}, (∀ s hs, Le (k s hs) (k' s hs)) → Le (xDrawn C ops s hs k) (xDrawn C' ops s hs k') := by
  induction ops with
  | nil => intro s hs k k' hk; exact hk s hs
  | cons o os ih =>
    intro s hs k k' hk
    simp only [xDrawn]
    split
    · exact xOp_mono hC _ _ _ fun s => ih s _ hk
    · exact ih _ _ hk
    · exact Le.none _

theorem exec_mono (c : IC) : ∀ {C C' : Call} {L L' : Loop}, LeC C C' → LeL L L → LeL L' L' → LeL L L' → ∀ (s : S) {kn kn' kr kr' : S → R} {kx kx' : Nat → S → R},
    LeK kn kn' → LeK kr kr' → (∀ i, LeK (kx i) (kx' i)) → Le (exec C L c s kn kr kx) (exec C' L' c s kn' kr' kx') := by
  induction c with
  | skip => intro _ _ _ _ _ _ _ _ s _ _ _ _ _ _ h _ _; exact h s
  | region ops => intro _ _ _ _ hC _ _ _ s _ _ _ _ _ _ h _ _; exact xOps_mono hC ops s h
  | drawn ops chk =>
    intro _ _ _ _ hC _ _ _ s _ _ _ _ _ _ h _ _
    refine xDrawn_mono hC ops s _ fun s' hs => ?_
    split
    · exact h _
    · exact Le.none _
  | seq a b iha ihb => intro _ _ _ _ hC h1 h2 h3 s _ _ _ _ _ _ h hr hx; exact iha hC h1 h2 h3 s (fun s => ihb hC h1 h2 h3 s h hr hx) hr hx
  | cond x a b iha ihb =>
    intro _ _ _ _ hC h1 h2 h3 s _ _ _ _ _ _ h hr hx
    simp only [exec]
    split
    · split
      · exact iha hC h1 h2 h3 s h hr hx
      · exact ihb hC h1 h2 h3 s h hr hx
    · exact Le.none _
  | block id c ih =>
    intro _ _ _ _ hC h1 h2 h3 s _ _ _ _ _ _ h hr hx
    refine ih hC h1 h2 h3 s h hr fun i s => ?_
    split
    · exact h s
    · exact hx i s
  | loop hd c ih =>
    intro C C' L L' hC h1 h2 h3 s kn kn' kr kr' kx kx' h hr hx
    have round : ∀ {C C' : Call} {L L' : Loop} {kr kr' : S → R} {kx kx' : Nat → S → R}, LeC C C' → LeL L L → LeL L' L' → LeL L L' → LeK kr kr' → (∀ i, LeK (kx i) (kx' i)) →
        LeF (fun self st => exec C L c (hd.open st.1 st.2) (fun s => match hd.pack s with
          | some vs => self (vs, s.h)
          | none => none) kr kx) (fun self st => exec C' L' c (hd.open st.1 st.2) (fun s => match hd.pack s with
          | some vs => self (vs, s.h)
          | none => none) kr' kx') := by
      intro C C' L L' kr kr' kx kx' hC h1 h2 h3 hr hx k k' hk st
      refine ih hC h1 h2 h3 _ (fun s => ?_) hr hx
      split
      · exact hk _
      · exact Le.none _
    simp only [exec]
    split
    · exact h3 _ _ (round (fun _ _ _ => Le.refl _) h1 h1 h1 (fun _ => Le.refl _) fun _ _ => Le.refl _) (round (fun _ _ _ => Le.refl _) h2 h2 h2 (fun _ => Le.refl _) fun _ _ => Le.refl _) (round hC h1 h2 h3 hr hx) _
    · exact Le.none _
  | join hd a b iha ihb =>
    intro _ _ _ _ hC h1 h2 h3 s _ _ _ _ _ _ h hr hx
    refine iha hC h1 h2 h3 s (fun s => ?_) hr hx
    split
    · exact ihb hC h1 h2 h3 _ h hr hx
    · exact Le.none _
  | exit id => intro _ _ _ _ _ _ _ _ s _ _ _ _ _ _ _ _ hx; exact hx id s
  | ret => intro _ _ _ _ _ _ _ _ s _ _ _ _ _ _ _ hr _; exact hr s

theorem execF_mono {C C' : Call} {L L' : Loop} (hC : LeC C C') (h1 : LeL L L) (h2 : LeL L' L') (h3 : LeL L L') (f : IFunc) (args : List AV) (h : H) : Le (execF C L f args h) (execF C' L' f args h) := by
  unfold execF
  split
  · exact exec_mono _ hC h1 h2 h3 _ (fun _ => Le.refl _) (fun _ => Le.refl _) (fun _ _ => Le.refl _)
  · exact Le.none _

/-! ### Fuel -/
def loopN : Nat → Loop
  | 0, _, _ => none
  | n + 1, F, s => F (loopN n F) s
theorem loopN_mono {n m : Nat} (h : n ≤ m) : LeL (loopN n) (loopN m) := by
  intro F F' _ _ hF
  induction n generalizing m with
  | zero => intro s; exact Le.none _
  | succ n ih =>
    obtain ⟨m, rfl⟩ : ∃ m', m = m' + 1 := ⟨m - 1, by omega⟩
    exact hF _ _ (ih (by omega))

section
variable (T : Nat → Option IFunc) (X : Call)
def callN : Nat → Call
  | 0, _, _, _ => none
  | n + 1, f, args, h => match T f with
    | some ir => execF (callN n) (loopN n) ir args h
    | none => X f args h
theorem callN_mono {n m : Nat} (h : n ≤ m) : LeC (callN T X n) (callN T X m) := by
  induction n generalizing m with
  | zero => intro f a h; exact Le.none _
  | succ n ih =>
    obtain ⟨m, rfl⟩ : ∃ m', m = m' + 1 := ⟨m - 1, by omega⟩
    intro f a h
    simp only [callN]
    split
    · exact execF_mono (ih (by omega)) (loopN_mono (Nat.le_refl _)) (loopN_mono (Nat.le_refl _)) (loopN_mono (by omega)) _ _ _
    · exact Le.refl _

open Classical in
noncomputable def lim {α : Type} (f : Nat → Option α) : Option α := if h : ∃ n v, f n = some v then some (Classical.choose (Classical.choose_spec h)) else none
theorem lim_iff {α : Type} {f : Nat → Option α} (hf : ∀ n m, n ≤ m → Le (f n) (f m)) (v : α) : lim f = some v ↔ ∃ n, f n = some v := by
  unfold lim
  constructor
  · intro h
    split at h
    · rename_i hx
      have := Classical.choose_spec (Classical.choose_spec hx)
      injection h with h
      exact ⟨_, h ▸ this⟩
    · cases h
  · intro ⟨n, hn⟩
    have hx : ∃ n v, f n = some v := ⟨n, v, hn⟩
    rw [dif_pos hx]
    have h1 := Classical.choose_spec (Classical.choose_spec hx)
    have h2 := hf _ _ (Nat.le_max_left (Classical.choose hx) n) _ h1
    have h3 := hf _ _ (Nat.le_max_right (Classical.choose hx) n) _ hn
    rw [h2] at h3
    exact h3

noncomputable def callW : Call := fun f args h => lim fun n => callN T X n f args h
noncomputable def loopW : Loop := fun F s => lim fun n => loopN n F s

theorem callW_iff (f : Nat) (args : List AV) (h : H) (r : AV × H) : callW T X f args h = some r ↔ ∃ n, callN T X n f args h = some r :=
  lim_iff (fun _ _ hm => callN_mono T X hm f args h) r
theorem loopW_iff {F : (St → R) → St → R} (hF : LeF F F) (s : St) (r : AV × H) : loopW F s = some r ↔ ∃ n, loopN n F s = some r :=
  lim_iff (fun _ _ hm => loopN_mono hm F F hF hF hF s) r
theorem loopW_mono : LeL loopW loopW := by
  intro F F' h1 h2 h3 s r h
  obtain ⟨n, hn⟩ := (loopW_iff h1 s r).1 h
  exact (loopW_iff h2 s r).2 ⟨n, loopN_mono (Nat.le_refl n) F F' h1 h2 h3 s r hn⟩
end

/-! ### The limit is met with fuel -/
def UpK {σ : Type} (kn : Nat → σ → R) : Prop := ∀ n m, n ≤ m → LeK (kn n) (kn m)
def Met {σ : Type} (k : σ → R) (kn : Nat → σ → R) : Prop := UpK kn ∧ ∀ s r, k s = some r → ∃ n, kn n s = some r
structure MetC (C : Call) (Cn : Nat → Call) : Prop where
  up : ∀ n m, n ≤ m → LeC (Cn n) (Cn m)
  met : ∀ f a h r, C f a h = some r → ∃ n, Cn n f a h = some r
structure MetL (L : Loop) (Ln : Nat → Loop) : Prop where
  up : ∀ n m, n ≤ m → LeL (Ln n) (Ln m)
  met : ∀ (F : (St → R) → St → R) (Fn : Nat → (St → R) → St → R), LeF F F → (∀ n m, n ≤ m → LeF (Fn n) (Fn m)) →
    (∀ k kn, Met k kn → ∀ s r, F k s = some r → ∃ n, Fn n (kn n) s = some r) → ∀ s r, L F s = some r → ∃ n, Ln n (Fn n) s = some r

theorem Met.const {σ : Type} (k : σ → R) : Met k (fun _ => k) := ⟨fun _ _ _ _ => Le.refl _, fun _ _ h => ⟨0, h⟩⟩

section
variable {C : Call} {Cn : Nat → Call}
theorem call_met (hC : MetC C Cn) {f : Nat} {a : List AV} {h : H} {k : AV × H → R} {kn : Nat → AV × H → R} (hk : Met k kn) (r : AV × H)
    (e : (C f a h).bind k = some r) : ∃ n, (Cn n f a h).bind (kn n) = some r := by
  cases hc : C f a h with
  | none => rw [hc] at e; cases e
  | some x =>
    rw [hc] at e
    obtain ⟨n, hn⟩ := hC.met _ _ _ _ hc
    obtain ⟨m, hm⟩ := hk.2 x r e
    refine ⟨max n m, ?_⟩
    rw [hC.up _ _ (Nat.le_max_left n m) _ _ _ _ hn]
    exact hk.1 _ _ (Nat.le_max_right n m) _ _ hm
theorem xOp_met (hC : MetC C Cn) (o : IOp) (d : Option Nat) (s : S) {k : S → R} {kn : Nat → S → R} (hk : Met k kn) (r : AV × H)
    (e : xOp C o d s k = some r) : ∃ n, xOp (Cn n) o d s (kn n) = some r := by
  cases o with
  | call f xs =>
    simp only [xOp] at e ⊢
    split at e
    · exact call_met hC (k := fun x => k { s.out d x.1 with h := x.2 }) (kn := fun n x => kn n { s.out d x.1 with h := x.2 }) ⟨fun n m h x => hk.1 n m h _, fun x r h => hk.2 _ r h⟩ r e
    · cases e
  | callv x xs =>
    simp only [xOp] at e ⊢
    split at e
    · rename_i x' vs' hx hvs
      simp only [xOp.callV] at e ⊢
      cases x' <;> simp only [Option.bind_none] at e <;> try (cases e; done)
      exact call_met hC (k := fun x => k { s.out d x.1 with h := x.2 }) (kn := fun n x => kn n { s.out d x.1 with h := x.2 }) ⟨fun n m h x => hk.1 n m h _, fun x r h => hk.2 _ r h⟩ r e
    · cases e
  | _ =>
    simp only [xOp] at e ⊢
    repeat' (first | split at e)
    all_goals first
      | (cases e; done)
      | exact hk.2 _ _ e
      | (simp only [Option.bind_eq_some_iff] at e; obtain ⟨v, hv, e⟩ := e; obtain ⟨n, hn⟩ := hk.2 _ _ e; exact ⟨n, by simp only [hv, Option.bind_some]; exact hn⟩)
      | (simp only [Option.bind_eq_some_iff] at e; obtain ⟨v, hv, u, hu, e⟩ := e; obtain ⟨n, hn⟩ := hk.2 _ _ e; exact ⟨n, by simp only [hv, Option.bind_some, hu]; exact hn⟩)
theorem xOps_met (hC : MetC C Cn) (ops : List IOper) : ∀ (s : S) {k : S → R} {kn : Nat → S → R}, Met k kn → ∀ r, xOps C ops s k = some r → ∃ n, xOps (Cn n) ops s (kn n) = some r := by
  induction ops with
  | nil => intro s k kn hk r e; exact hk.2 s r e
  | cons o os ih =>
    intro s k kn hk r e
    simp only [xOps] at e ⊢
    split at e
    · exact xOp_met hC _ _ _ ⟨fun n m h s => xOps_mono (hC.up n m h) os s (hk.1 n m h), fun s r h => ih s hk r h⟩ r e
    · exact ih _ hk r e
    · cases e
theorem xDrawn_met (hC : MetC C Cn) (ops : List IOper) : ∀ (s : S) (hs : List H) {k : S → List H → R} {kn : Nat → S → List H → R}, (∀ n m, n ≤ m → ∀ s hs, Le (kn n s hs) (kn m s hs)) → (∀ s hs r, k s hs = some r → ∃ n, kn n s hs = some r) →
    ∀ r, xDrawn C ops s hs k = some r → ∃ n, xDrawn (Cn n) ops s hs (kn n) = some r := by
  induction ops with
  | nil => intro s hs k kn _ hk r e; exact hk s hs r e
  | cons o os ih =>
    intro s hs k kn hu hk r e
    simp only [xDrawn] at e ⊢
    split at e
    · exact xOp_met hC _ _ _ (k := fun s => xDrawn C os s (hs ++ [s.h]) k) (kn := fun n s => xDrawn (Cn n) os s (hs ++ [s.h]) (kn n)) ⟨fun n m h s => xDrawn_mono (hC.up n m h) os s _ (hu n m h), fun s r h => ih s _ hu hk r h⟩ r e
    · exact ih _ _ hu hk r e
    · cases e
end

theorem LeC.refl (C : Call) : LeC C C := fun _ _ _ => Le.refl _
theorem LeK.refl {σ : Type} (k : σ → R) : LeK k k := fun _ => Le.refl _

/-- one round of a loop -/
def rnd (C : Call) (L : Loop) (hd : Head) (c : IC) (kr : S → R) (kx : Nat → S → R) : (St → R) → St → R :=
  fun self st => exec C L c (hd.open st.1 st.2) (fun s => match hd.pack s with
    | some vs => self (vs, s.h)
    | none => none) kr kx
theorem rnd_mono {C C' : Call} {L L' : Loop} {kr kr' : S → R} {kx kx' : Nat → S → R} (hd : Head) (c : IC) (hC : LeC C C') (h1 : LeL L L) (h2 : LeL L' L') (h3 : LeL L L') (hr : LeK kr kr') (hx : ∀ i, LeK (kx i) (kx' i)) :
    LeF (rnd C L hd c kr kx) (rnd C' L' hd c kr' kx') := by
  intro k k' hk st
  refine exec_mono c hC h1 h2 h3 _ (fun s => ?_) hr hx
  split
  · exact hk _
  · exact Le.none _

theorem exec_met {C : Call} {Cn : Nat → Call} (hC : MetC C Cn) {L : Loop} {Ln : Nat → Loop} (hL : MetL L Ln) (hLL : LeL L L) (c : IC) :
    ∀ (s : S) {kn kr : S → R} {kx : Nat → S → R} {knn krn : Nat → S → R} {kxn : Nat → Nat → S → R}, Met kn knn → Met kr krn → (∀ i, Met (kx i) (fun n => kxn n i)) →
      ∀ r, exec C L c s kn kr kx = some r → ∃ n, exec (Cn n) (Ln n) c s (knn n) (krn n) (kxn n) = some r := by
  induction c with
  | skip => intro s _ _ _ _ _ _ h _ _ r e; exact h.2 s r e
  | region ops => intro s _ _ _ _ _ _ h _ _ r e; exact xOps_met hC ops s h r e
  | drawn ops chk =>
    intro s kn kr kx knn krn kxn h _ _ r e
    refine xDrawn_met hC ops s [s.h] (kn := fun n s' hs => match stable ops s' hs chk with | true => knn n s' | false => none) (fun n m hm s hs => ?_) (fun s hs r e => ?_) r e
    · cases stable ops s hs chk
      · exact Le.none _
      · exact h.1 n m hm _
    · cases hb : stable ops s hs chk <;> simp only [hb] at e ⊢
      · cases e
      · exact h.2 _ _ e
  | seq a b iha ihb =>
    intro s kn kr kx knn krn kxn h hr hx r e
    exact iha s (knn := fun n s => exec (Cn n) (Ln n) b s (knn n) (krn n) (kxn n))
      ⟨fun n m hm s => exec_mono b (hC.up n m hm) (hL.up n n (Nat.le_refl _)) (hL.up m m (Nat.le_refl _)) (hL.up n m hm) s (h.1 n m hm) (hr.1 n m hm) (fun i => (hx i).1 n m hm), fun s r e => ihb s h hr hx r e⟩ hr hx r e
  | cond x a b iha ihb =>
    intro s kn kr kx knn krn kxn h hr hx r e
    simp only [exec] at e ⊢
    split at e
    · split at e
      · exact iha s h hr hx r e
      · exact ihb s h hr hx r e
    · cases e
  | block id c ih =>
    intro s kn kr kx knn krn kxn h hr hx r e
    refine ih s h hr (kxn := fun n j s => match Nat.beq j id with | true => knn n s | false => kxn n j s) (fun i => ⟨fun n m hm s => ?_, fun s r e => ?_⟩) r e
    · cases Nat.beq i id
      · exact (hx i).1 n m hm s
      · exact h.1 n m hm s
    · cases hb : Nat.beq i id <;> simp only [hb] at e ⊢
      · exact (hx i).2 s r e
      · exact h.2 s r e
  | loop hd c ih =>
    intro s kn kr kx knn krn kxn h hr hx r e
    simp only [exec] at e ⊢
    split at e
    · refine hL.met (rnd C L hd c kr kx) (fun n => rnd (Cn n) (Ln n) hd c (krn n) (kxn n)) (rnd_mono hd c (LeC.refl _) hLL hLL hLL (LeK.refl _) (fun _ => LeK.refl _)) (fun n m hm => ?_) (fun k k' hk st r e => ?_) _ r e
      · exact rnd_mono hd c (hC.up n m hm) (hL.up n n (Nat.le_refl _)) (hL.up m m (Nat.le_refl _)) (hL.up n m hm) (hr.1 n m hm) (fun i => (hx i).1 n m hm)
      · refine ih _ (knn := fun n s => match hd.pack s with | some vs => k' n (vs, s.h) | none => none) ⟨fun n m hm s => ?_, fun s r e => ?_⟩ hr hx r e
        · dsimp only
          cases hd.pack s
          · exact Le.none _
          · exact hk.1 n m hm _
        · cases hb : hd.pack s <;> simp only [hb] at e ⊢
          · cases e
          · exact hk.2 _ r e
    · cases e
  | join hd a b iha ihb =>
    intro s kn kr kx knn krn kxn h hr hx r e
    refine iha s (knn := fun n s => match hd.pack s with | some vs => exec (Cn n) (Ln n) b (hd.open vs s.h) (knn n) (krn n) (kxn n) | none => none) ⟨fun n m hm s => ?_, fun s r e => ?_⟩ hr hx r e
    · dsimp only
      cases hd.pack s
      · exact Le.none _
      · exact exec_mono b (hC.up n m hm) (hL.up n n (Nat.le_refl _)) (hL.up m m (Nat.le_refl _)) (hL.up n m hm) _ (h.1 n m hm) (hr.1 n m hm) (fun i => (hx i).1 n m hm)
    · cases hb : hd.pack s <;> simp only [hb] at e ⊢
      · cases e
      · exact ihb _ h hr hx r e
  | exit id => intro s _ _ _ _ _ _ _ _ hx r e; exact (hx id).2 s r e
  | ret => intro s _ _ _ _ _ _ _ hr _ r e; exact hr.2 s r e

/-- loops with fuel meet their limit, over any loops that converge with them -/
theorem loopN_met : MetL loopW loopN := by
  refine ⟨fun n m h => loopN_mono h, fun F Fn hFF hFn hF s r e => ?_⟩
  obtain ⟨N, hN⟩ := (loopW_iff hFF s r).1 e
  have up : ∀ n m, n ≤ m → LeK (loopN n (Fn n)) (loopN m (Fn m)) := fun n m h => loopN_mono h _ _ (hFn n n (Nat.le_refl _)) (hFn m m (Nat.le_refl _)) (hFn n m h)
  have key : ∀ N s r, loopN N F s = some r → ∃ n, loopN n (Fn n) s = some r := by
    intro N
    induction N with
    | zero => intro s r h; cases h
    | succ N ih =>
      intro s r h
      obtain ⟨n, hn⟩ := hF (loopN N F) (fun n => loopN n (Fn n)) ⟨up, fun s r h => ih s r h⟩ s r h
      have h2 : loopN (n + 1) (Fn n) s = some r := hn
      have h3 := loopN_mono (Nat.le_refl (n + 1)) _ _ (hFn n n (Nat.le_refl _)) (hFn (n + 1) (n + 1) (Nat.le_refl _)) (hFn n (n + 1) (by omega)) s r h2
      exact ⟨n + 1, h3⟩
  exact key N s r hN
theorem loopW_met : MetL loopW (fun _ => loopW) := by
  refine ⟨fun _ _ _ => loopW_mono, fun F Fn hFF hFn hF s r e => ?_⟩
  obtain ⟨n, hn⟩ := loopN_met.met F Fn hFF hFn hF s r e
  exact ⟨n, (loopW_iff (hFn n n (Nat.le_refl _)) s r).2 ⟨n, hn⟩⟩

section
variable (T : Nat → Option IFunc) (X : Call)
theorem callW_met : MetC (callW T X) (callN T X) := ⟨fun _ _ h => callN_mono T X h, fun f a h r e => (callW_iff T X f a h r).1 e⟩

/-- a function of the table -/
theorem callW_eq {f : Nat} {ir : IFunc} (hT : T f = some ir) (args : List AV) (h : H) : callW T X f args h = execF (callW T X) loopW ir args h := by
  have h1 : ∀ r, callW T X f args h = some r → execF (callW T X) loopW ir args h = some r := by
    intro r e
    obtain ⟨n, hn⟩ := (callW_iff T X f args h r).1 e
    cases n with
    | zero => cases hn
    | succ n =>
      simp only [callN, hT] at hn
      refine execF_mono (C := callN T X n) (L := loopN n) (fun f a h r e => (callW_iff T X f a h r).2 ⟨n, e⟩) (loopN_mono (Nat.le_refl _)) loopW_mono ?_ ir args h r hn
      intro F F' h1 h2 h3 s r e
      exact (loopW_iff h2 s r).2 ⟨n, loopN_mono (Nat.le_refl n) F F' h1 h2 h3 s r e⟩
  have h2 : ∀ r, execF (callW T X) loopW ir args h = some r → callW T X f args h = some r := by
    intro r e
    unfold execF at e
    split at e
    · rename_i hl
      obtain ⟨n, hn⟩ := exec_met (callW_met T X) loopN_met loopW_mono ir.body _ (Met.const _) (Met.const _) (fun _ => Met.const _) r e
      refine (callW_iff T X f args h r).2 ⟨n + 1, ?_⟩
      simp only [callN, hT]
      unfold execF
      rw [if_pos hl]
      exact hn
    · cases e
  cases hc : callW T X f args h with
  | some r => exact (h1 r hc).symm
  | none =>
    cases he : execF (callW T X) loopW ir args h with
    | none => rfl
    | some r => rw [h2 r he] at hc; cases hc
/-- a function that stands outside the table -/
theorem callW_ext {f : Nat} (hT : T f = none) (args : List AV) (h : H) : callW T X f args h = X f args h := by
  cases hx : X f args h with
  | some r => exact (callW_iff T X f args h r).2 ⟨1, by simp only [callN, hT]; exact hx⟩
  | none =>
    cases hc : callW T X f args h with
    | none => rfl
    | some r =>
      obtain ⟨n, hn⟩ := (callW_iff T X f args h r).1 hc
      cases n with
      | zero => cases hn
      | succ n => simp only [callN, hT, hx] at hn; cases hn

/-- a loop is its round -/
theorem loop_eq (hd : Head) (c : IC) (kr : S → R) (kx : Nat → S → R) (st : St) :
    loopW (rnd (callW T X) loopW hd c kr kx) st = rnd (callW T X) loopW hd c kr kx (loopW (rnd (callW T X) loopW hd c kr kx)) st := by
  have hFF : LeF (rnd (callW T X) loopW hd c kr kx) (rnd (callW T X) loopW hd c kr kx) := rnd_mono hd c (LeC.refl _) loopW_mono loopW_mono loopW_mono (LeK.refl _) (fun _ => LeK.refl _)
  have h1 : ∀ r, loopW (rnd (callW T X) loopW hd c kr kx) st = some r → rnd (callW T X) loopW hd c kr kx (loopW (rnd (callW T X) loopW hd c kr kx)) st = some r := by
    intro r e
    obtain ⟨n, hn⟩ := (loopW_iff hFF st r).1 e
    cases n with
    | zero => cases hn
    | succ n => exact hFF (loopN n (rnd (callW T X) loopW hd c kr kx)) (loopW (rnd (callW T X) loopW hd c kr kx)) (fun s r e => (loopW_iff hFF s r).2 ⟨n, e⟩) st r hn
  have h2 : ∀ r, rnd (callW T X) loopW hd c kr kx (loopW (rnd (callW T X) loopW hd c kr kx)) st = some r → loopW (rnd (callW T X) loopW hd c kr kx) st = some r := by
    intro r e
    obtain ⟨n, hn⟩ := exec_met (C := callW T X) (Cn := fun _ => callW T X) ⟨fun _ _ _ => LeC.refl _, fun f a h r e => ⟨0, e⟩⟩ loopW_met loopW_mono c (hd.open st.1 st.2)
      (knn := fun n s => match hd.pack s with | some vs => loopN n (rnd (callW T X) loopW hd c kr kx) (vs, s.h) | none => none) (krn := fun _ => kr) (kxn := fun _ => kx)
      ⟨fun n m hm s => by
          dsimp only
          cases hd.pack s
          · exact Le.none _
          · exact loopN_mono hm _ _ hFF hFF hFF _, fun s r e => by
          cases hb : hd.pack s <;> simp only [hb] at e ⊢
          · cases e
          · exact (loopW_iff hFF _ r).1 e⟩ (Met.const _) (fun _ => Met.const _) r e
    exact (loopW_iff hFF st r).2 ⟨n + 1, hn⟩
  cases ha : loopW (rnd (callW T X) loopW hd c kr kx) st with
  | some r => exact (h1 r ha).symm
  | none =>
    cases hb : rnd (callW T X) loopW hd c kr kx (loopW (rnd (callW T X) loopW hd c kr kx)) st with
    | none => rfl
    | some r => rw [h2 r hb] at ha; cases ha
end
end Go.Abs
