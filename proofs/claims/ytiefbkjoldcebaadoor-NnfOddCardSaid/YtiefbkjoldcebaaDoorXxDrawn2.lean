/- Regions whose order is drawn: any order does what the text's order does. -/
import Derived.Test.YtiefbkjoldcebaaDoorXxDrawn
namespace Go.Abs
variable {K : Seat} {F F' : FZ} {β β' : BM} {ρ ρ' : Roles} {w w' : World} {s : S} {a : Act}

def mem0 (c : Nat) : List Nat → Bool
  | [] => false
  | x :: r => match Nat.beq x c with
    | true => true
    | false => mem0 c r
theorem mem0_iff {c : Nat} {l : List Nat} : mem0 c l = true ↔ c ∈ l := by
  induction l with
  | nil => simp [mem0]
  | cons x r ih =>
    simp only [mem0, List.mem_cons]
    cases h : Nat.beq x c
    · have := beq_false.1 h
      simp only [ih]
      constructor
      · exact .inr
      · rintro (h | h)
        · exact absurd h.symm this
        · exact h
    · simp [(beq_true.1 h)]
def disj (x y : List Nat) : Bool := x.all fun c => !mem0 c y
theorem disj_spec {x y : List Nat} (h : disj x y = true) {c : Nat} (h1 : c ∈ x) (h2 : c ∈ y) : False := by
  have := List.all_eq_true.1 h c h1
  rw [mem0_iff.2 h2] at this; cases this
def spec (chk : List (Nat × List Nat)) (i : Nat) : Bool := chk.any fun x => Nat.beq x.1 i
def Wf (ios : List IOper) (i : Nat) : List Nat := match ios[i]? with | some io => io.wr | none => []
def Rf (ios : List IOper) (chk : List (Nat × List Nat)) (i : Nat) : List Nat := match ios[i]? with | some io => io.rd (spec chk i) | none => []
def confOk (ios : List IOper) (chk : List (Nat × List Nat)) (ms : List Nat) (n : Nat) : Bool := (List.range n).all fun j => (List.range j).all fun i =>
  (ms.getD j 0).testBit i || (disj (Wf ios i) (Rf ios chk j) && disj (Wf ios i) (Wf ios j) && disj (Rf ios chk i) (Wf ios j))
def chkOk (ios : List IOper) (ms : List Nat) (n : Nat) (chk : List (Nat × List Nat)) : Bool := chk.all fun x => match ios[x.1]? with
  | some ⟨some d, g, .hload _ _ q⟩ => Nat.blt x.1 n && !mem0 (d + 3) (gcell g ++ q.rd) && (List.range n).all (fun i => Nat.ble i x.1 || disj ((d + 3) :: (gcell g ++ q.rd)) (Wf ios i)) &&
      ((List.range n).any (fun h => mem0 0 (Wf ios h) && (ms.getD x.1 0).testBit h) || mem0 0 x.2) &&
      (List.range n).all (fun h => !mem0 0 (Wf ios h) || (ms.getD h 0).testBit x.1 || (List.range n).any (fun h' => Nat.blt h h' && mem0 0 (Wf ios h') && (ms.getD x.1 0).testBit h') || mem0 (h + 1) x.2)
  | _ => false
def checkD (K : Seat) (N : Nat) (ios : List IOper) (L : List Oper) (chk : List (Nat × List Nat)) : Bool :=
  let ms := mkMasks L []
  checkOps K N L ios L && masksOk ms 0 L ms && ios.all (fun io => io.op.movable) && confOk ios chk ms L.length && chkOk ios ms L.length chk

theorem checkOps_at {N : Nat} {L0 : List Oper} : ∀ {ios : List IOper} {L : List Oper}, checkOps K N L0 ios L = true → ∀ (i : Nat) (o : Oper), L[i]? = some o → ∃ io, ios[i]? = some io ∧ checkOper K N L0 io o = true
  | [], [], _, i, o, h => by simp at h
  | io :: ios, x :: L, hc, i, o, h => by
    simp only [checkOps, Bool.and_eq_true] at hc
    cases i with
    | zero => simp at h; subst h; exact ⟨io, rfl, hc.1⟩
    | succ i => simpa using checkOps_at hc.2 i o (by simpa using h)
  | [], _ :: _, hc, _, _, _ => by cases hc
  | _ :: _, [], hc, _, _, _ => by cases hc

theorem FSim.congr {s1 : S} (hs : FSim K F β ρ s a w) (h : ∀ c, Agree c s s1) : FSim K F β ρ s1 a w := by
  refine hs.sub (h 0).symm (fun t v hv => by rw [(h (t + 3)).1]; exact hv) (fun t x hx => by rw [(h (t + 3)).2.1]; exact hx) (fun l x hx => by rw [show get s.loc l = get s1.loc l from h 1 l]; exact hx) (fun e he ho => ?_)
  cases e with
  | t n =>
    have := (h (n + 3)).2.2
    rw [ho] at this
    refine ⟨this, fun t ht => ?_⟩
    injection ht with ht; subst ht
    obtain ⟨sz, xs, hg, _⟩ := hs.own n this
    exact ⟨_, by rw [← (h (n + 3)).1]; exact hg⟩
  | l i o =>
    have := h 2 i o
    rw [ho] at this
    exact ⟨this, fun t ht => by cases ht⟩
  | h b o => cases he

theorem stable_at {ios : List IOper} {sf : S} {hs : List H} : ∀ {chk : List (Nat × List Nat)}, stable ios sf hs chk = true → ∀ j at_, (j, at_) ∈ chk → ∀ d g n ag q, ios[j]? = some ⟨some d, g, .hload n ag q⟩ →
    guardOk sf g = some true → ∃ pv v, q.val sf = some pv ∧ get sf.env d = some v ∧ ∀ m ∈ at_, ∃ h, hs[m]? = some h ∧ Abs.hload h pv n ag = some v
  | [], _, _, _, h, _, _, _, _, _, _, _ => by cases h
  | (j', at') :: r, hst, j, at_, hm, d, g, n, ag, q, hi, hg => by
    simp only [stable, Bool.and_eq_true] at hst
    rcases List.mem_cons.1 hm with h | h
    · injection h with h1 h2
      subst h1; subst h2
      have h1 := hst.1
      rw [hi] at h1
      simp only [hg] at h1
      split at h1 <;> try (cases h1; done)
      rename_i pv v hq hv
      refine ⟨pv, v, hq, hv, fun m hmm => ?_⟩
      have := List.all_eq_true.1 h1 m hmm
      split at this <;> try (cases this; done)
      rename_i h hh
      split at this <;> try (cases this; done)
      rename_i u hu
      have := of_decide_eq_true this
      subst this
      exact ⟨h, hh, hu⟩
    · exact stable_at hst.2 j at_ h d g n ag q hi hg

theorem out_env (s : S) (d : Nat) (v : AV) : get (s.out (some d) v).env d = some v := by simp [S.out, S.put, get_cons]

theorem drawn_ok {C : Call} (hC : CallsOK K C) {ops : Array Oper} {N id : Nat} {Q : Exit → Act → World → Prop} {ios : List IOper} {chk : List (Nat × List Nat)} (hc : checkD K N ios ops.toList chk = true) {k : S → R} {r : AV × H}
    (hs : FSim K F β ρ s a w) (hN : a.tmps.size = N) (e : xDrawn C ios s [s.h] (fun s' hs => match stable ios s' hs chk with | true => k s' | false => none) = some r) (hp : Post K F β ρ w s a k r (Q .normal)) : (Code.region id ops true).wp K.P Q a w := by
  simp only [checkD, Bool.and_eq_true] at hc
  obtain ⟨⟨⟨⟨hc1, hc2⟩, hc3⟩, hc4⟩, hc5⟩ := hc
  generalize hms : mkMasks ops.toList [] = ms at *
  have hlen := checkOps_len hc1
  obtain ⟨st, h0, hst, hk⟩ := trace e
  generalize hn : ios.length = n at *
  rw [← hlen] at hc4 hc5
  have hnops : n = ops.size := by simpa using hlen
  have hstab : stable ios (st n) ([s.h] ++ (List.range n).map fun i => (st (i + 1)).h) chk = true ∧ k (st n) = some r := by
    split at hk
    · exact ⟨by assumption, hk⟩
    · cases hk
  obtain ⟨hstab, hk⟩ := hstab
  have hheap : ∀ m, m ≤ n → ([s.h] ++ (List.range n).map fun i => (st (i + 1)).h)[m]? = some (st m).h := by
    intro m hm
    cases m with
    | zero => simp [h0]
    | succ m =>
      rw [List.getElem?_append_right (by simp)]
      simp [List.getElem?_range (show m < n by omega)]
  have hio : ∀ i, i < n → ∃ io, ios[i]? = some io := fun i hi => ⟨ios[i], List.getElem?_eq_getElem (by omega)⟩
  have hmov : ∀ (i : Nat) (io : IOper), ios[i]? = some io → io.op.movable = true := fun i io h => List.all_eq_true.1 hc3 io (List.mem_of_getElem? h)
  have hold : ∀ i, i < n → ∀ c, c ∉ Wf ios i → Agree c (st i) (st (i + 1)) := by
    intro i hi c hcw
    obtain ⟨io, h⟩ := hio i hi
    exact step_old (hmov i io h) (hst i io h) (by simpa [Wf, h] using hcw)
  have noW : ∀ c m i, m ≤ i → i ≤ n → (∀ j, m ≤ j → j < i → c ∉ Wf ios j) → Agree c (st m) (st i) := by
    intro c m i
    induction i with
    | zero => intro h _ _; have : m = 0 := by omega
              subst this; exact Agree.refl _ _
    | succ i ih =>
      intro h hi hno
      by_cases he : m = i + 1
      · subst he; exact Agree.refl _ _
      · exact (ih (by omega) (by omega) (fun j h1 h2 => hno j h1 (by omega))).trans (hold i (by omega) c (hno i (by omega) (by omega)))
  have hconf : ∀ i j, i < j → j < n → (ms.getD j 0).testBit i = true ∨ ∀ c, (c ∈ Wf ios i → c ∉ Rf ios chk j ∧ c ∉ Wf ios j) ∧ (c ∈ Wf ios j → c ∉ Rf ios chk i) := by
    intro i j hij hj
    have h1 := List.all_eq_true.1 (List.all_eq_true.1 hc4 j (List.mem_range.2 hj)) i (List.mem_range.2 hij)
    simp only [Bool.or_eq_true, Bool.and_eq_true] at h1
    rcases h1 with h1 | ⟨⟨h1, h2⟩, h3⟩
    · exact .inl h1
    · exact .inr fun c => ⟨fun hcw => ⟨fun h => disj_spec h1 hcw h, fun h => disj_spec h2 hcw h⟩, fun hcw h => disj_spec h3 h hcw⟩
  have hsp := masks_spec hc2 (by simp)
  have main : ∀ (fuel : Nat) (listed : Array Bool) (F1 : FZ) (β1 : BM) (ρ1 : Roles) (a1 : Act) (w1 : World) (s1 : S), listed.size = n → cnt (fun i => listed.getD i false) n ≤ fuel →
      (∀ (i : Nat) (o : Oper), ops.toList[i]? = some o → listed.getD i false = true → ∀ e ∈ edgesOf o, listed.getD e false = true) → (∀ c, Agree c s1 (st (lw (Wf ios) (fun i => listed.getD i false) c n))) →
      FSim K F1 β1 ρ1 s1 a1 w1 → a1.tmps.size = a.tmps.size → Keep F β ρ w F1 β1 ρ1 w1 → s1.h.floors = s.h.floors → wpAny K.P .any ops Q fuel listed a1 w1 := by
    -- all have come
    have done : ∀ (listed : Array Bool) (F1 : FZ) (β1 : BM) (ρ1 : Roles) (a1 : Act) (w1 : World) (s1 : S), (∀ i, i < n → listed.getD i false = true) → (∀ c, Agree c s1 (st (lw (Wf ios) (fun i => listed.getD i false) c n))) →
        FSim K F1 β1 ρ1 s1 a1 w1 → a1.tmps.size = a.tmps.size → Keep F β ρ w F1 β1 ρ1 w1 → s1.h.floors = s.h.floors → Q .normal a1 w1 := by
      intro listed F1 β1 ρ1 a1 w1 s1 hall hinv hs1 hN1 hk1 hf1
      have hag : ∀ c, Agree c s1 (st n) := by
        intro c
        refine (hinv c).trans (noW c _ n (lw_le n) (Nat.le_refl n) (fun j h1 h2 hw => ?_))
        have := lw_max (W := Wf ios) (D := fun i => listed.getD i false) (hall j h2) hw h2
        omega
      have h0' : (st n).h = s1.h := (hag 0).symm
      exact hp (st n) F1 β1 ρ1 a1 w1 (hs1.congr hag) hN1 hk1 (by rw [h0']; exact hf1) hk
    -- what is not ready
    have notready : ∀ (listed : Array Bool), listed.size = n → Region.ready .any ops listed = [] → ∀ i, i < n → listed.getD i false = true := by
      intro listed hsz hr i
      induction i using Nat.strongRecOn with
      | _ i ih =>
        intro hi
        cases hd : listed.getD i false with
        | true => rfl
        | false =>
          exfalso
          have hop : ∃ o, ops[i]? = some o := ⟨ops[i]'(by omega), Array.getElem?_eq_getElem (by omega)⟩
          obtain ⟨o, ho⟩ := hop
          have : i ∈ Region.ready .any ops listed := by
            refine mem_ready.2 ⟨?_, o, ho, fun e he hb => ?_⟩
            · rw [Array.getD_eq_getD_getElem?, Array.getElem?_eq_getElem (by omega)] at hd ⊢
              simpa using hd
            · have hE : e.on ∈ edgesOf o := by
                simp only [edgesOf, List.mem_map, List.mem_filter]
                exact ⟨e, ⟨by simpa using he, hb⟩, rfl⟩
              have hlt := (hsp i o (by simpa using ho)).1 e.on hE
              exact ih e.on (by omega) (by omega)
          rw [hr] at this; cases this
    intro fuel
    induction fuel with
    | zero =>
      intro listed F1 β1 ρ1 a1 w1 s1 hsz hcnt hcl hinv hs1 hN1 hk1 hf1
      have hall := cnt_zero (D := fun i => listed.getD i false) (n := n) (by omega)
      refine ⟨?_, done listed F1 β1 ρ1 a1 w1 s1 hall hinv hs1 hN1 hk1 hf1⟩
      cases hr : Region.ready .any ops listed with
      | nil => rfl
      | cons x xs =>
        have hx : x ∈ Region.ready .any ops listed := by rw [hr]; exact List.mem_cons_self
        obtain ⟨q1, o, q2, _⟩ := mem_ready.1 hx
        have hlt : x < n := by rw [hnops]; exact (Array.getElem?_eq_some_iff.1 q2).1
        have := hall x hlt
        rw [Array.getD_eq_getD_getElem?, Array.getElem?_eq_getElem (by omega)] at this q1
        simp only [Option.getD_some] at this q1
        rw [q1] at this; cases this
    | succ fuel ih =>
      intro listed F1 β1 ρ1 a1 w1 s1 hsz hcnt hcl hinv hs1 hN1 hk1 hf1
      refine ⟨fun hr => done listed F1 β1 ρ1 a1 w1 s1 (notready listed hsz hr) hinv hs1 hN1 hk1 hf1, fun i hi => ?_⟩
      obtain ⟨q1, o, ho, hed⟩ := mem_ready.1 hi
      have hlt : i < n := by rw [hnops]; exact (Array.getElem?_eq_some_iff.1 ho).1
      have hiD : listed.getD i false = false := by
        rw [Array.getD_eq_getD_getElem?, Array.getElem?_eq_getElem (by omega)] at q1 ⊢
        simpa using q1
      obtain ⟨io, hioi, hco⟩ := checkOps_at hc1 i o (by simpa using ho)
      -- what has come ahead of i
      have hEd : ∀ e ∈ edgesOf o, listed.getD e false = true := by
        intro e he
        simp only [edgesOf, List.mem_map, List.mem_filter] at he
        obtain ⟨x, ⟨h1, h2⟩, h3⟩ := he
        subst h3
        exact hed x (by simpa using h1) h2
      have closed : ∀ m o', ops.toList[m]? = some o' → (∀ e ∈ edgesOf o', listed.getD e false = true) → ∀ j, (ms.getD m 0).testBit j = true → listed.getD j false = true := by
        intro m
        induction m using Nat.strongRecOn with
        | _ m ihm =>
          intro o' ho' hE j hj
          obtain ⟨g1, g2⟩ := hsp m o' ho'
          rw [Nat.zero_add] at g1 g2
          obtain ⟨e, he, h⟩ := g2 j hj
          rcases h with h | h
          · rw [h]; exact hE e he
          · have hlt := g1 e he
            have hml : m < ops.toList.length := (List.getElem?_eq_some_iff.1 ho').1
            have hoe : ops.toList[e]? = some (ops.toList[e]'(by omega)) := List.getElem?_eq_getElem (by omega)
            exact ihm e hlt _ hoe (hcl e _ hoe (hE e he)) j h
      have hpre : ∀ j, (ms.getD i 0).testBit j = true → listed.getD j false = true := closed i o (by simpa using ho) hEd
      have hpost : ∀ j, j < n → listed.getD j false = true → (ms.getD j 0).testBit i = true → False := by
        intro j hj hjd hb
        have hoj : ops.toList[j]? = some (ops.toList[j]'(by rw [← hlen]; exact hj)) := List.getElem?_eq_getElem _
        have := closed j _ hoj (hcl j _ hoj hjd) i hb
        rw [hiD] at this; cases this
      generalize hDd : (fun i => listed.getD i false) = D at hinv hcnt
      have hDv : ∀ j, D j = listed.getD j false := fun j => by rw [← hDd]
      have hag : ∀ c, c ∈ Rf ios chk i ++ Wf ios i → Agree c (st i) s1 := by
        intro c hcm
        have hcm := List.mem_append.1 hcm
        refine (Agree.symm ?_)
        refine (hinv c).trans ?_
        generalize hm : lw (Wf ios) D c n = m
        by_cases hmi : m ≤ i
        · refine noW c m i hmi (by omega) (fun j h1 h2 hw => ?_)
          rcases hconf j i h2 hlt with h | h
          · have := lw_max (W := Wf ios) (D := D) (by rw [hDv]; exact hpre j h) hw (show j < n by omega)
            omega
          · rcases hcm with hcm | hcm
            · exact ((h c).1 hw).1 hcm
            · exact ((h c).1 hw).2 hcm
        · exfalso
          obtain ⟨m', rfl⟩ : ∃ m', m = m' + 1 := ⟨m - 1, by omega⟩
          obtain ⟨g1, g2, g3⟩ := lw_mem hm
          rw [hDv] at g1
          have hne : m' ≠ i := fun e => by subst e; rw [hiD] at g1; cases g1
          rcases hconf i m' (by omega) g3 with h | h
          · exact hpost m' g3 g1 h
          · rcases hcm with hcm | hcm
            · exact (h c).2 g2 hcm
            · exact ((h c).1 hcm).2 g2
      have hRf : Rf ios chk i = io.rd (spec chk i) := by simp [Rf, hioi]
      have hWf : Wf ios i = io.wr := by simp [Wf, hioi]
      -- the step
      have hstep : ∃ t', stepOp C io s1 = some t' ∧ Alike io.wr (st i) (st (i + 1)) s1 t' := by
        cases hspec : spec chk i with
        | false => exact step_local (hmov i io hioi) (fun c hcm => hag c (by rw [hRf, hWf, hspec]; exact hcm)) (hst i io hioi)
        | true =>
          unfold spec at hspec
          simp only [List.any_eq_true] at hspec
          obtain ⟨x, hx, hxi⟩ := hspec
          have hxi := beq_true.1 hxi
          have hck := List.all_eq_true.1 hc5 x hx
          rw [hxi] at hck
          split at hck <;> try (cases hck; done)
          rename_i d g nn ag q hform
          rw [hioi] at hform
          have hform := Option.some.inj hform
          simp only [Bool.and_eq_true, Bool.or_eq_true] at hck
          obtain ⟨⟨⟨⟨_, k2⟩, k3⟩, k4⟩, k5⟩ := hck
          have hop : io.op = .hload nn ag q := by rw [hform]
          have hg : io.guard = g := by rw [hform]
          have hdst : io.dst = some d := by rw [hform]
          have hwr : io.wr = [d + 3] := by rw [hform]; rfl
          have k2' : d + 3 ∉ gcell g ++ q.rd := by
            intro h
            rw [mem0_iff.2 h] at k2; cases k2
          -- cells that stay from i on
          have stay1 : ∀ c, c ∈ (d + 3) :: (gcell g ++ q.rd) → Agree c (st (i + 1)) (st n) := by
            intro c hcm
            refine noW c _ n (by omega) (Nat.le_refl n) (fun j h1 h2 hw => ?_)
            have := List.all_eq_true.1 k3 j (List.mem_range.2 h2)
            simp only [Bool.or_eq_true] at this
            rcases this with h | h
            · have := Nat.le_of_ble_eq_true h; omega
            · exact disj_spec h hcm hw
          have stay : ∀ c, c ∈ gcell g ++ q.rd → Agree c (st i) (st n) := by
            intro c hcm
            refine (hold i hlt c ?_).trans (stay1 c (List.mem_cons_of_mem _ hcm))
            rw [hWf, hwr]
            intro h
            simp only [List.mem_singleton] at h
            exact k2' (h ▸ hcm)
          refine step_localR hop (fun c hcm => hag c (by rw [hRf, hWf]; rw [show spec chk i = true from by unfold spec; exact List.any_eq_true.2 ⟨x, hx, beq_true.2 hxi⟩]; exact hcm)) (fun hgt pv v hv hld => ?_) (hst i io hioi)
          have hgf : guardOk (st n) g = some true := by
            rw [← hg, ← guard_agree (fun c hcm => stay c (by rw [← hg]; exact List.mem_append_left _ hcm))]; exact hgt
          obtain ⟨pv', v', e1, e2, e3⟩ := stable_at hstab i x.2 (by rw [← hxi]; exact hx) d g nn ag q (by rw [hioi, hform]) hgf
          rw [← val_agree (s := st i) (fun c hcm => stay c (List.mem_append_right _ hcm)), hv] at e1
          have e1 := Option.some.inj e1
          subst e1
          have hsti : st (i + 1) = (st i).out (some d) v := by
            have := hst i io hioi
            unfold stepOp at this
            rw [hgt, hop, hdst] at this
            simp only [xOp, hv, hld, Option.bind_some] at this
            exact (Option.some.inj this).symm
          have hv' : v' = v := by
            have h1 := (stay1 (d + 3) List.mem_cons_self).1
            rw [e2, hsti, out_env] at h1
            exact (Option.some.inj h1).symm
          subst hv'
          generalize hm : lw (Wf ios) D 0 n = m
          have hmn : m ≤ n := by rw [← hm]; exact lw_le n
          have hmem : m ∈ x.2 := by
            cases m with
            | zero =>
              rcases k4 with h | h
              · exfalso
                simp only [List.any_eq_true, List.mem_range, Bool.and_eq_true] at h
                obtain ⟨j, hj, h1, h2⟩ := h
                have := lw_max (W := Wf ios) (D := D) (c := 0) (by rw [hDv]; exact hpre j h2) (mem0_iff.1 h1) hj
                omega
              · exact mem0_iff.1 h
            | succ m' =>
              obtain ⟨g1, g2, g3⟩ := lw_mem hm
              have := List.all_eq_true.1 k5 m' (List.mem_range.2 g3)
              simp only [Bool.or_eq_true] at this
              rcases this with ((h | h) | h) | h
              · rw [mem0_iff.2 g2] at h; cases h
              · exact (hpost m' g3 (by rw [← hDv]; exact g1) h).elim
              · exfalso
                simp only [List.any_eq_true, List.mem_range, Bool.and_eq_true, blt_iff] at h
                obtain ⟨j, hj, ⟨h1, h2⟩, h3⟩ := h
                have := lw_max (W := Wf ios) (D := D) (c := 0) (by rw [hDv]; exact hpre j h3) (mem0_iff.1 h2) hj
                omega
              · exact mem0_iff.1 h
          obtain ⟨hh, e4, e5⟩ := e3 m hmem
          rw [hheap m hmn] at e4
          have e4 := Option.some.inj e4
          have h0h : s1.h = (st m).h := by have := hinv 0; rw [hm] at this; exact this
          rw [h0h, e4]; exact e5
      obtain ⟨t', ht', hal⟩ := hstep
      -- how it goes on
      have hL' : ∀ j, (listed.setIfInBounds i true).getD j false = if j = i then true else listed.getD j false := by
        intro j
        simp only [Array.getD_eq_getD_getElem?, Array.getElem?_setIfInBounds]
        by_cases hj : i = j
        · subst hj; simp [hsz, hlt]
        · rw [if_neg hj, if_neg (fun e => hj e.symm)]
      have next : ∀ F2 β2 ρ2 a2 w2, FSim K F2 β2 ρ2 t' a2 w2 → a2.tmps.size = a1.tmps.size → Keep F1 β1 ρ1 w1 F2 β2 ρ2 w2 → t'.h.floors = s1.h.floors → wpAny K.P .any ops Q fuel (listed.setIfInBounds i true) a2 w2 := by
        intro F2 β2 ρ2 a2 w2 g1 g2 g3 g4
        refine ih _ F2 β2 ρ2 a2 w2 t' (by simpa using hsz) ?_ ?_ ?_ g1 (g2.trans hN1) (hk1.trans g3) (g4.trans hf1)
        · have := (cnt_set (D := D) (D' := fun j => (listed.setIfInBounds i true).getD j false) (i := i) (by rw [hDv]; exact hiD) (by simp only [hL']; simp) (fun j hj => by simp only [hL']; rw [if_neg hj, hDv]) n).1 hlt
          omega
        · intro j o' hj hjd e he
          rw [hL'] at hjd ⊢
          split
          · rfl
          · by_cases hji : j = i
            · subst hji
              have : o' = o := by
                have h2 : ops.toList[j]? = some o := by simpa using ho
                rw [hj] at h2; exact Option.some.inj h2
              subst this
              exact hEd e he
            · rw [if_neg hji] at hjd
              exact hcl j o' hj hjd e he
        · intro c
          by_cases hcw : c ∈ Wf ios i
          · have hl : lw (Wf ios) (fun j => (listed.setIfInBounds i true).getD j false) c n = i + 1 := by
              have h1 := lw_max (W := Wf ios) (D := fun j => (listed.setIfInBounds i true).getD j false) (i := i) (c := c) (by simp only [hL']; simp) hcw hlt
              generalize hm : lw (Wf ios) (fun j => (listed.setIfInBounds i true).getD j false) c n = m at h1
              obtain ⟨m', rfl⟩ : ∃ m', m = m' + 1 := ⟨m - 1, by omega⟩
              obtain ⟨p1, p2, p3⟩ := lw_mem hm
              by_cases hmi : m' = i
              · rw [hmi]
              · exfalso
                simp only [hL'] at p1
                rw [if_neg hmi] at p1
                rcases hconf i m' (by omega) p3 with h | h
                · exact hpost m' p3 p1 h
                · exact ((h c).1 hcw).2 p2
            rw [hl]
            exact (hal.new c (by rw [← hWf]; exact hcw)).symm
          · have hl : lw (Wf ios) (fun j => (listed.setIfInBounds i true).getD j false) c n = lw (Wf ios) D c n := by
              refine lw_congr (fun j hj hw => ?_)
              simp only [hL']
              rw [if_neg (fun e => hcw (by rw [← e]; exact hw)), hDv]
            rw [hl]
            exact (hal.old' c (by rw [← hWf]; exact hcw)).symm.trans (hinv c)
      simp only [checkOper, Bool.and_eq_true] at hco
      obtain ⟨⟨hd, hgc⟩, hx⟩ := hco
      obtain ⟨hd1, hd2⟩ := dstEq_eq hd
      unfold stepOp at ht'
      simp only [wpOp, ho]
      split at ht' <;> try (cases ht'; done)
      · rename_i hgv
        rw [wanted_ok hs1 hgc hgv, if_pos rfl]
        left
        rw [hd1] at ht'
        have e' : xOp C io.op o.dst s1 (fun t => open Classical in if t = t' then some r else none) = some r := by
          rw [xOp_bind, ht']; simp
        refine op_ok hs1 hC hx (fun d h => by rw [hN1, hN]; exact hd2 d h) e' ?_
        intro s'' F2 β2 ρ2 a2 w2 g1 g2 g3 g4 g5
        have : s'' = t' := by
          by_cases h : s'' = t'
          · exact h
          · simp [h] at g5
        subst this
        exact next F2 β2 ρ2 a2 w2 g1 g2 g3 g4
      · rename_i hgv
        injection ht' with ht'
        rw [wanted_ok hs1 hgc hgv, if_neg (by simp)]
        refine next F1 β1 ρ1 _ w1 ?_ (put_size _ _ _) (Keep.refl _ _ _ _) (by rw [← ht', floors_out])
        rw [← ht', hd1]
        exact hs1.out o.dst undefAV undef (fun d h => by rw [hN1, hN]; exact hd2 d h) (.tuple [] [] .nil)
  refine wp_region_any K.mixed ?_
  have hg := hs.grow (Grow.drew F w)
  have hnone : ∀ j, (Array.replicate ops.size false).getD j false = false := by
    intro j
    rw [Array.getD_eq_getD_getElem?, Array.getElem?_replicate]
    split <;> rfl
  refine main ops.size _ F β ρ a _ s (by simp [hnops]) ?_ ?_ ?_ hg rfl ((Grow.drew F w).keep β ρ) rfl
  · rw [← hnops]
    have : ∀ (D : Nat → Bool) m, cnt D m ≤ m := by
      intro D m
      induction m with
      | zero => exact Nat.le_refl _
      | succ m ih => simp only [cnt]; split <;> omega
    exact this _ _
  · intro i o _ h
    rw [hnone] at h; cases h
  · intro c
    have : lw (Wf ios) (fun i => (Array.replicate ops.size false).getD i false) c n = 0 := by
      cases hl : lw (Wf ios) (fun i => (Array.replicate ops.size false).getD i false) c n with
      | zero => rfl
      | succ m =>
        have := (lw_mem hl).1
        rw [hnone] at this; cases this
    rw [this, h0]
    exact Agree.refl _ _
end Go.Abs
