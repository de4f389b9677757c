/- The run once more, over operations that are a variable: no kernel comparison can unfold them, so a printed text is compared shape by shape. -/
import Derived.Test.YtiefbkjoldcebaaDoorXxLimit
namespace Go.Abs

def gval {α : Type} (g : Option Bool) (x : Option α) (u : α) : Option α := match g with
  | some true => x
  | some false => some u
  | none => none
/-- a guard's value -/
def gv (x : AV) (want : Bool) : Option Bool := match x with
  | .bool b => some (match b, want with
    | true, true => true
    | false, false => true
    | _, _ => false)
  | .tuple _ => some false
  | _ => none
def onG (g : Option Bool) (a b : R) : R := match g with
  | some true => a
  | some false => b
  | none => none
def ifB (x : AV) (a b : R) : R := match x with
  | .bool t => match t with
    | true => a
    | false => b
  | _ => none
/-- loads that are seen again -/
def allAre (v : AV) : List (Option AV) → Bool
  | [] => true
  | x :: xs => (match x with
    | some w => decide (w = v)
    | none => false) && allAre v xs
def chkV (g : Option Bool) (xs : List (Option AV)) (v : AV) (K : R) : R := match g with
  | some false => K
  | some true => match allAre v xs with
    | true => K
    | false => none
  | none => none

structure Ops where
  bv : Option AV → (AV → R) → R
  br : R → (AV → H → R) → R
  bh : Option H → (H → R) → R
  ev : POp → List AV → Option AV
  gt : Option Bool → Option AV → Option AV
  gr : Option Bool → R → H → R
  gv : AV → Bool → Option Bool
  onG : Option Bool → R → R → R
  ifB : AV → R → R → R
  shape : Nat → Bool → AV → Option AV
  claim : AV → Bool → List Nat → Option AV
  part : AV → Nat → Nat → Bool → Option AV
  setPart : AV → Nat → AV → Nat → Bool → Option AV
  hload : H → AV → Nat → Bool → Option AV
  hstore : H → AV → AV → Nat → Bool → Option H
  hTake : H → AV → R
  hGive : H → AV → AV → Option H
  appList : Nat → Nat → AV → AV → Option AV
  callV : Call → AV → List AV → H → R
  mapGet : H → AV → AV → AV → Bool → Option AV
  mapPut : H → AV → AV → AV → Option H
  mapLen : H → AV → Option AV
  chk : Option Bool → List (Option AV) → AV → R → R
  loop : ((St → R) → St → R) → St → R
  withK : (St → R) → ((St → R) → R) → R
  ret : AV → H → R
  rett : H → AV → H → R

noncomputable def std : Ops where
  bv x k := x.bind k
  br x k := x.bind fun r => k r.1 r.2
  bh x k := x.bind k
  ev := evalP
  gt g x := gval g x undefAV
  gr g x h := gval g x (undefAV, h)
  gv := Abs.gv
  onG := Abs.onG
  ifB := Abs.ifB
  shape := Abs.shape
  claim := Abs.claim
  part := Abs.part
  setPart := Abs.setPart
  hload := Abs.hload
  hstore := Abs.hstore
  hTake := xOp.hTake
  hGive := xOp.hGive
  appList := xOp.appList
  callV := xOp.callV
  mapGet := xOp.mGet
  mapPut := xOp.mPut
  mapLen := xOp.mLen
  chk := chkV
  loop := loopW
  withK K body := body K
  ret v h := some (v, h)
  rett h0 v h := if v.under h0.size = true then some (v, h.trunc h0.size h0.floors) else none

def isMov : POp → List AV → Option AV
  | .mov, [v] => some v
  | _, _ => none
def sameB : Bool → Bool → Bool
  | true, true => true
  | false, false => true
  | _, _ => false
def whole (o : Nat) (x : Loc) (n : Nat) (ag : Bool) : Bool := Nat.beq o 0 && Nat.beq x.n n && sameB x.agg ag
/-- the value of an operation that changes no heap -/
inductive PV where
  | now (v : AV)
  | later (x : Option AV)
  | call (x : R)
  | bad
  | no
def pure2 (O : Ops) (C : Call) (s : S) : IOp → PV
  | .p p xs => match vals s xs with
    | some vs => match isMov p vs with
      | some v => .now v
      | none => .later (O.ev p vs)
    | none => .bad
  | .lload src n ag => match get s.lp src with
    | some (l, o) => match get s.loc l with
      | some x => match whole o x n ag with
        | true => .now x.v
        | false => .later (O.part x.v o n ag)
      | none => .bad
    | none => .bad
  | .hload n ag p => match p.val s with
    | some p => .later (O.hload s.h p n ag)
    | none => .bad
  | .mapGet zero ok m key => match m.val s, key.val s with
    | some m, some key => .later (O.mapGet s.h m key zero ok)
    | _, _ => .bad
  | .mapLen m => match m.val s with
    | some m => .later (O.mapLen s.h m)
    | none => .bad
  | .call f xs => match vals s xs with
    | some vs => .call (C f vs s.h)
    | none => .bad
  | .callv x xs => match x.val s, vals s xs with
    | some x, some vs => .call (O.callV C x vs s.h)
    | _, _ => .bad
  | _ => .no
def claim2 (O : Ops) (v : AV) (ag : Bool) (os : List Nat) (k : AV → R) : R := match os with
  | [] => k v
  | o :: os => O.bv (O.claim v ag (o :: os)) k
/-- the operations that change locals, owners or the heap -/
def xOp2 (O : Ops) (o : IOp) (d : Option Nat) (s : S) (k : S → R) : R :=
  match o with
  | .lnew l n ag x os => match x.val s, d with
    | some v, some d => O.bv (O.shape n ag v) fun v => claim2 O v ag os fun v =>
        k { env := del s.env d, lp := (d, (l, 0)) :: del (delLp s.lp l) d, loc := (l, ⟨n, ag, v⟩) :: s.loc,
                    own := ownersOf l os ++ delLoc (delE s.own (.t d)) l, h := s.h }
    | _, _ => none
  | .laddr src off => match get s.lp src, d with
    | some (l, o), some d => k { s with env := del s.env d, lp := (d, (l, o + off)) :: s.lp, own := delE s.own (.t d) }
    | _, _ => none
  | .lstore src n ag x os => match get s.lp src, x.val s with
    | some (l, o), some v => match get s.loc l with
      | some y => match whole o y n ag with
        | true => O.bv (O.shape n ag v) fun v => claim2 O v ag os fun v =>
          k { s with loc := (l, ⟨n, ag, v⟩) :: s.loc, own := ownersOf l os ++ delLoc s.own l }
        | false => O.bv (O.setPart y.v o v n ag) fun w => k { s with loc := (l, { y with v := w }) :: s.loc, own := xOp.dropRange s.own l o n }
      | none => none
    | _, _ => none
  | .onil sz => match d with
    | some d => k { s.put d (.list false sz []) with own := .t d :: delE s.own (.t d) }
    | none => none
  | .tmov src => match get s.env src, hasE s.own (.t src), d with
    | some v, true, some d => k { env := (d, v) :: s.env, lp := del s.lp d, loc := s.loc, own := .t d :: delE (delE s.own (.t d)) (.t src), h := s.h }
    | _, _, _ => none
  | .take src => match get s.lp src, d with
    | some (l, o), some d => match get s.loc l, hasE s.own (.l l o) with
      | some x, true => match x.agg with
        | true => O.bv (O.part x.v o 1 false) fun v => k { env := (d, v) :: s.env, lp := del s.lp d, loc := s.loc, own := .t d :: delE (delE s.own (.t d)) (.l l o), h := s.h }
        | false => match o with
          | 0 => k { env := (d, x.v) :: s.env, lp := del s.lp d, loc := s.loc, own := .t d :: delE (delE s.own (.t d)) (.l l o), h := s.h }
          | _ => none
      | _, _ => none
    | _, _ => none
  | .app sz bytes src y => match get s.env src, hasE s.own (.t src), y.val s, d with
    | some x, true, some y, some d => O.bv (O.appList sz bytes x y) fun v =>
        k { env := (d, v) :: s.env, lp := del s.lp d, loc := s.loc, own := .t d :: delE (delE s.own (.t d)) (.t src), h := s.h }
    | _, _, _, _ => none
  | .give src x => match get s.lp src, get s.env x, hasE s.own (.t x) with
    | some (l, o), some v, true => match get s.loc l with
      | some y => match y.agg with
        | true => O.bv (O.setPart y.v o v 1 false) fun w => k { s with loc := (l, { y with v := w }) :: s.loc, own := .l l o :: delE (delE s.own (.l l o)) (.t x) }
        | false => match o with
          | 0 => O.bv (O.shape 1 false v) fun w => k { s with loc := (l, { y with v := w }) :: s.loc, own := .l l o :: delE (delE s.own (.l l o)) (.t x) }
          | _ => none
      | none => none
    | _, _, _ => none
  | .hnew n ag x os => match x.val s, d with
    | some v, some d => O.bv (O.shape n ag v) fun v => claim2 O v ag os fun v =>
      k { s.put d (.ptr s.h.size 0 0) with h := s.h.push (.cells n ag v os) }
    | _, _ => none
  | .hstore n ag p x => match p.val s, x.val s with
    | some p, some x => O.bh (O.hstore s.h p x n ag) fun h => k { s with h := h }
    | _, _ => none
  | .htake p => match p.val s, d with
    | some p, some d => O.br (O.hTake s.h p) fun v h => k { env := (d, v) :: s.env, lp := del s.lp d, loc := s.loc, own := .t d :: delE s.own (.t d), h := h }
    | _, _ => none
  | .hgive p x => match p.val s, get s.env x, hasE s.own (.t x) with
    | some p, some v, true => O.bh (O.hGive s.h p v) fun h => k { s with own := delE s.own (.t x), h := h }
    | _, _, _ => none
  | .mapNew => match d with
    | some d => k { s.put d (.map s.h.size) with h := s.h.push (.map []) }
    | none => none
  | .mapPut m key v => match m.val s, key.val s, v.val s with
    | some m, some key, some v => O.bh (O.mapPut s.h m key v) fun h => k { s with h := h }
    | _, _, _ => none
  | _ => none
def xD2 (O : Ops) (C : Call) : List IOper → S → List H → (S → List H → R) → R
  | [], s, hs, k => k s hs
  | o :: os, s, hs, k => match o.guard with
    | none => match pure2 O C s o.op with
      | .now v => xD2 O C os (s.out o.dst v) (hs ++ [s.h]) k
      | .later x => O.bv x fun v => xD2 O C os (s.out o.dst v) (hs ++ [s.h]) k
      | .call x => O.br x fun v h => xD2 O C os { s.out o.dst v with h := h } (hs ++ [h]) k
      | .bad => none
      | .no => xOp2 O o.op o.dst s fun s => xD2 O C os s (hs ++ [s.h]) k
    | some (t, w) => match get s.env t with
      | some g => match pure2 O C s o.op with
        | .now v => O.bv (O.gt (O.gv g w) (some v)) fun v => xD2 O C os (s.out o.dst v) (hs ++ [s.h]) k
        | .later x => O.bv (O.gt (O.gv g w) x) fun v => xD2 O C os (s.out o.dst v) (hs ++ [s.h]) k
        | .call x => O.br (O.gr (O.gv g w) x s.h) fun v h => xD2 O C os { s.out o.dst v with h := h } (hs ++ [h]) k
        | .bad => O.bv (O.gt (O.gv g w) none) fun v => xD2 O C os (s.out o.dst v) (hs ++ [s.h]) k
        | .no => O.onG (O.gv g w) (xOp2 O o.op o.dst s fun s => xD2 O C os s (hs ++ [s.h]) k) (xD2 O C os (s.out o.dst undefAV) (hs ++ [s.h]) k)
      | none => none

theorem out_h (s : S) (d : Option Nat) (v : AV) : { s.out d v with h := s.h } = s.out d v := by cases d <;> rfl
theorem out_h' (s : S) (d : Option Nat) (v : AV) : (s.out d v).h = s.h := by cases d <;> rfl
theorem isMov_some {p : POp} {vs : List AV} {v : AV} (h : isMov p vs = some v) : evalP p vs = some v := by
  unfold isMov at h
  split at h
  · cases h; rfl
  · cases h
theorem sameB_eq {a b : Bool} : sameB a b = (match a, b with | true, true => true | false, false => true | _, _ => false) := by cases a <;> cases b <;> rfl
theorem whole_iff {o : Nat} {x : Loc} {n : Nat} {ag : Bool} (h : whole o x n ag = true) : o = 0 ∧ Nat.beq x.n n = true ∧ sameB x.agg ag = true := by
  simp only [whole, Bool.and_eq_true] at h
  exact ⟨Nat.eq_of_beq_eq_true h.1.1, h.1.2, h.2⟩
theorem claim2_std (v : AV) (ag : Bool) (os : List Nat) (k : AV → R) : claim2 std v ag os k = (claim v ag os).bind k := by
  cases os with
  | nil => cases ag <;> rfl
  | cons o os => rfl

/-- what an operation does, by its value -/
def PV.run (k : AV → H → R) (h : H) : PV → R
  | .now v => k v h
  | .later x => x.bind fun v => k v h
  | .call x => x.bind fun r => k r.1 r.2
  | .bad => none
  | .no => none
theorem pure2_std (C : Call) (s : S) (o : IOp) (d : Option Nat) (k : S → R) (hn : pure2 std C s o ≠ .no) :
    xOp C o d s k = (pure2 std C s o).run (fun v h => k { s.out d v with h := h }) s.h := by
  cases o with
  | p p xs =>
    simp only [pure2, xOp]
    cases vals s xs with
    | none => rfl
    | some vs =>
      simp only
      cases hm : isMov p vs with
      | some v => simp only [isMov_some hm, PV.run, Option.bind_some, out_h]
      | none => simp only [PV.run, out_h, std]
  | lload src n ag =>
    simp only [pure2, xOp]
    cases get s.lp src with
    | none => rfl
    | some lo =>
      obtain ⟨l, o⟩ := lo
      simp only
      cases get s.loc l with
      | none => rfl
      | some x =>
        simp only
        cases hw : whole o x n ag with
        | true =>
          obtain ⟨h1, h2, h3⟩ := whole_iff hw
          subst h1
          simp only [PV.run, out_h]
          split
          · rfl
          · rename_i hno
            exact (hno rfl h2 (by rw [sameB_eq] at h3; exact h3)).elim
        | false =>
          simp only [PV.run, out_h, std]
          split
          · rename_i h1 h2
            simp only [whole, show Nat.beq 0 0 = true from rfl, h1, Bool.true_and] at hw
            rw [sameB_eq] at hw
            generalize x.agg = g at h2 hw
            cases g <;> cases ag <;> simp_all
          · rfl
  | hload n ag p => simp only [pure2, xOp]; cases p.val s <;> simp [PV.run, out_h, std]
  | mapGet zero ok m key => simp only [pure2, xOp]; cases m.val s <;> cases key.val s <;> simp [PV.run, out_h, std]
  | mapLen m => simp only [pure2, xOp]; cases m.val s <;> simp [PV.run, out_h, std]
  | call f xs => simp only [pure2, xOp]; cases vals s xs <;> rfl
  | callv x xs => simp only [pure2, xOp]; cases x.val s <;> cases vals s xs <;> rfl
  | _ => exact (hn rfl).elim
theorem xOp2_std (C : Call) (s : S) (o : IOp) (d : Option Nat) (k : S → R) (hn : pure2 std C s o = .no) : xOp2 std o d s k = xOp C o d s k := by
  cases o with
  | p p xs => simp only [pure2] at hn; split at hn; split at hn <;> cases hn; cases hn
  | lload src n ag => simp only [pure2] at hn; split at hn; split at hn; split at hn <;> cases hn; all_goals cases hn
  | hload n ag p => simp only [pure2] at hn; split at hn <;> cases hn
  | mapGet zero ok m key => simp only [pure2] at hn; split at hn <;> cases hn
  | mapLen m => simp only [pure2] at hn; split at hn <;> cases hn
  | call f xs => simp only [pure2] at hn; split at hn <;> cases hn
  | callv x xs => simp only [pure2] at hn; split at hn <;> cases hn
  | lnew l n ag x os => simp only [xOp2, xOp, claim2_std]; rfl
  | laddr src off => rfl
  | lstore src n ag x os =>
    simp only [xOp2, xOp, claim2_std]
    cases get s.lp src with
    | none => rfl
    | some lo =>
      obtain ⟨l, o⟩ := lo
      cases x.val s with
      | none => rfl
      | some v =>
        simp only
        cases get s.loc l with
        | none => rfl
        | some y =>
          simp only
          cases hw : whole o y n ag with
          | true =>
            obtain ⟨h1, h2, h3⟩ := whole_iff hw
            subst h1
            simp only
            split
            · rfl
            · rename_i hno
              exact (hno rfl h2 (by rw [sameB_eq] at h3; exact h3)).elim
          | false =>
            simp only
            split
            · rename_i h1 h2
              simp only [whole, show Nat.beq 0 0 = true from rfl, h1, Bool.true_and] at hw
              rw [sameB_eq] at hw
              generalize y.agg = g at h2 hw
              cases g <;> cases ag <;> simp_all
            · rfl
  | onil sz => rfl
  | tmov src => rfl
  | take src =>
    simp only [xOp2, xOp]
    cases get s.lp src with
    | none => rfl
    | some lo =>
      obtain ⟨l, o⟩ := lo
      cases d with
      | none => rfl
      | some d =>
        simp only
        cases get s.loc l with
        | none => rfl
        | some x =>
          cases hasE s.own (.l l o) with
          | false => rfl
          | true =>
            obtain ⟨n, ag, v⟩ := x
            cases ag with
            | true => rfl
            | false => cases o <;> rfl
  | app sz bytes src y => rfl
  | give src x =>
    simp only [xOp2, xOp]
    cases get s.lp src with
    | none => rfl
    | some lo =>
      obtain ⟨l, o⟩ := lo
      cases get s.env x with
      | none => rfl
      | some v =>
        cases hasE s.own (.t x) with
        | false => rfl
        | true =>
          simp only
          cases get s.loc l with
          | none => rfl
          | some y =>
            obtain ⟨n, ag, u⟩ := y
            cases ag with
            | true => rfl
            | false => cases o <;> rfl
  | hnew n ag x os => simp only [xOp2, xOp, claim2_std]; rfl
  | hstore n ag p x => rfl
  | htake p => rfl
  | hgive p x => rfl
  | mapNew => rfl
  | mapPut m key v => rfl
theorem gv_eq (s : S) (t : Nat) (w : Bool) : guardOk s (some (t, w)) = (match get s.env t with | some g => gv g w | none => none) := by
  simp only [guardOk]
  cases get s.env t with
  | none => rfl
  | some v => cases v <;> rfl
theorem xD2_std (C : Call) : ∀ (ops : List IOper) (s : S) (hs : List H) (k : S → List H → R), xDrawn C ops s hs k = xD2 std C ops s hs k
  | [], _, _, _ => rfl
  | ⟨d, g, op⟩ :: os, s, hs, k => by
    have ih := fun s hs => xD2_std C os s hs k
    cases g with
    | none =>
      simp only [xDrawn, guardOk, xD2]
      by_cases hn : pure2 std C s op = .no
      · simp only [hn, xOp2_std C s op d _ hn, ih]
      · rw [pure2_std C s op d _ hn]
        cases hp : pure2 std C s op <;> simp only [PV.run, ih, out_h, std] <;> first | rfl | (exact (hn hp).elim)
    | some tw =>
      obtain ⟨t, w⟩ := tw
      simp only [xDrawn, gv_eq, xD2]
      cases get s.env t with
      | none => rfl
      | some x =>
        simp only
        have e1 : (∃ b, gv x w = some b) ∨ gv x w = none := by cases gv x w <;> simp
        have hgv : std.gv x w = gv x w := rfl
        rw [hgv]
        rcases e1 with ⟨b, hb⟩ | hb
        · rw [hb]
          cases b with
          | true =>
            simp only
            by_cases hn : pure2 std C s op = .no
            · simp only [hn, xOp2_std C s op d _ hn, ih]; rfl
            · rw [pure2_std C s op d _ hn]
              cases hp : pure2 std C s op <;> simp only [PV.run, ih, out_h, std, gval, Option.bind_some, Option.bind_none] <;> exact (hn hp).elim
          | false =>
            simp only [ih]
            cases hp : pure2 std C s op <;> simp only [std, gval, Option.bind_some, out_h, onG]
        · rw [hb]
          simp only
          cases hp : pure2 std C s op <;> simp only [std, gval, Option.bind_none, onG]
/-- a head, opened by number -/
def nth (vs : List AV) (i : Nat) : AV := vs.getD i .nili
def Head.open' (hd : Head) (vs : List AV) (h : H) : S :=
  { env := nums hd.ts 0, lp := hd.ps.map fun p => (p.1, (p.2, 0)), loc := locs hd.ls hd.ts.length, own := hd.os, h := h }
where
  nums : List Nat → Nat → List (Nat × AV)
    | [], _ => []
    | t :: ts, i => (t, nth vs i) :: nums ts (i + 1)
  locs : List (Nat × Nat × Bool) → Nat → List (Nat × Loc)
    | [], _ => []
    | (l, n, ag) :: r, i => (l, ⟨n, ag, nth vs i⟩) :: locs r (i + 1)
theorem zipT_nums (ws : List AV) : ∀ (ts : List Nat) (i : Nat), zipT ts (ws.drop i) = (Head.open'.nums ws ts i, ws.drop (i + ts.length))
  | [], i => rfl
  | t :: ts, i => by
    have ih := zipT_nums ws ts (i + 1)
    cases hd : ws.drop i with
    | nil =>
      have h1 : ws.drop (i + 1) = [] := by rw [← List.drop_drop, hd]; rfl
      rw [h1] at ih
      simp only [zipT, ih, Head.open'.nums]
      have hg : nth ws i = .nili := by
        rw [nth, List.getD_eq_getElem?_getD, List.getElem?_eq_none (by simpa using hd)]; rfl
      rw [hg, show i + (t :: ts).length = i + 1 + ts.length from by simp only [List.length_cons]; omega]
    | cons v vs =>
      have h1 : ws.drop (i + 1) = vs := by rw [← List.drop_drop, hd]; rfl
      rw [h1] at ih
      simp only [zipT, ih, Head.open'.nums]
      have hg : nth ws i = v := by
        have : ws[i]? = some v := by have := congrArg (fun l => l[0]?) hd; simpa using this
        rw [nth, List.getD_eq_getElem?_getD, this]; rfl
      rw [hg, show i + (t :: ts).length = i + 1 + ts.length from by simp only [List.length_cons]; omega]
theorem zipL_locs (ws : List AV) : ∀ (ls : List (Nat × Nat × Bool)) (i : Nat), zipL ls (ws.drop i) = Head.open'.locs ws ls i
  | [], _ => rfl
  | (l, n, ag) :: r, i => by
    have ih := zipL_locs ws r (i + 1)
    cases hd : ws.drop i with
    | nil =>
      have h1 : ws.drop (i + 1) = [] := by rw [← List.drop_drop, hd]; rfl
      rw [h1] at ih
      simp only [zipL, ih, Head.open'.locs]
      have hg : nth ws i = .nili := by
        rw [nth, List.getD_eq_getElem?_getD, List.getElem?_eq_none (by simpa using hd)]; rfl
      rw [hg]
    | cons v vs =>
      have h1 : ws.drop (i + 1) = vs := by rw [← List.drop_drop, hd]; rfl
      rw [h1] at ih
      simp only [zipL, ih, Head.open'.locs]
      have hg : nth ws i = v := by
        have : ws[i]? = some v := by have := congrArg (fun l => l[0]?) hd; simpa using this
        rw [nth, List.getD_eq_getElem?_getD, this]; rfl
      rw [hg]
theorem open_eq (hd : Head) (vs : List AV) (h : H) : hd.open vs h = hd.open' vs h := by
  have h1 := zipT_nums vs hd.ts 0
  simp only [List.drop_zero, Nat.zero_add] at h1
  simp only [Head.open, Head.open', h1, zipL_locs]

/-- the loads of a drawn region, seen again -/
def again (O : Ops) (s : S) (o : IOp) (h : H) : Option AV := match o with
  | .hload n ag p => match p.val s with
    | some p => O.hload h p n ag
    | none => none
  | .mapGet z ok m k => match m.val s, k.val s with
    | some m, some k => O.mapGet h m k z ok
    | _, _ => none
  | .mapLen m => match m.val s with
    | some m => O.mapLen h m
    | none => none
  | _ => none
def isLoad (s : S) : IOp → Bool
  | .hload _ _ p => (p.val s).isSome
  | .mapGet _ _ m k => (m.val s).isSome && (k.val s).isSome
  | .mapLen m => (m.val s).isSome
  | _ => false
def seen (O : Ops) (s : S) (o : IOp) (hs : List H) : List Nat → Option (List (Option AV))
  | [] => some []
  | i :: r => match hs[i]?, seen O s o hs r with
    | some h, some xs => some (again O s o h :: xs)
    | _, _ => none
def stab2 (O : Ops) (ops : List IOper) (s : S) (hs : List H) : List (Nat × List Nat) → R → R
  | [], K => K
  | (j, at_) :: r, K => match ops[j]? with
    | some ⟨some d, g, op⟩ => match isLoad s op, get s.env d, seen O s op hs at_ with
      | true, some v, some xs => match g with
        | none => O.chk (some true) xs v (stab2 O ops s hs r K)
        | some (t, w) => match get s.env t with
          | some x => O.chk (O.gv x w) xs v (stab2 O ops s hs r K)
          | none => none
      | _, _, _ => none
    | _ => none

/-- the results -/
def res2 (O : Ops) (s : S) : List IRes → (List AV → R) → R
  | [], k => k []
  | .t n :: r, k => match get s.env n with
    | some v => res2 O s r fun vs => k (v :: vs)
    | none => none
  | .l l n ag :: r, k => match get s.lp l with
    | some (l, o) => match get s.loc l with
      | some x => match whole o x n ag with
        | true => res2 O s r fun vs => k (x.v :: vs)
        | false => none
      | none => none
    | none => none
  | .h t n ag :: r, k => match get s.env t with
    | some p => O.bv (O.hload s.h p n ag) fun v => res2 O s r fun vs => k (v :: vs)
    | none => none
def fin2 (O : Ops) (f : IFunc) (h0 : H) (s : S) : R := res2 O s f.results fun vs =>
  match (match vs with | [v] => v | vs => AV.tuple vs), f.trunc with
  | v, true => O.rett h0 v s.h
  | v, false => O.ret v s.h

def exec2 (O : Ops) (C : Call) : IC → S → (S → R) → (S → R) → (Nat → S → R) → R
  | .skip, s, kn, _, _ => kn s
  | .region ops, s, kn, _, _ => xD2 O C ops s [] fun s _ => kn s
  | .drawn ops chk, s, kn, _, _ => xD2 O C ops s [s.h] fun s' hs => stab2 O ops s' hs chk (kn s')
  | .seq a b, s, kn, kr, kx => exec2 O C a s (fun s => exec2 O C b s kn kr kx) kr kx
  | .cond x a b, s, kn, kr, kx => match x.val s with
    | some v => O.ifB v (exec2 O C a s kn kr kx) (exec2 O C b s kn kr kx)
    | none => none
  | .block id c, s, kn, kr, kx => exec2 O C c s kn kr fun j s => match Nat.beq j id with
    | true => kn s
    | false => kx j s
  | .loop hd c, s, _, kr, kx => match hd.pack s with
    | some vs => O.loop (fun self st => exec2 O C c (hd.open' st.1 st.2) (fun s => match hd.pack s with
        | some vs => self (vs, s.h)
        | none => none) kr kx) (vs, s.h)
    | none => none
  | .join hd a b, s, kn, kr, kx => O.withK (fun st => exec2 O C b (hd.open' st.1 st.2) kn kr kx) fun K => exec2 O C a s (fun s => match hd.pack s with
      | some vs => K (vs, s.h)
      | none => none) kr kx
  | .exit id, s, _, _, kx => kx id s
  | .ret, s, _, kr, _ => kr s
def execF2 (O : Ops) (C : Call) (f : IFunc) (args : List AV) (h : H) : R :=
  exec2 O C f.body { env := binds 0 args, lp := [], loc := [], own := [], h := match f.trunc with | true => { h with floors := h.size :: h.floors } | false => h }
      (fin2 O f h) (fin2 O f h) (fun _ _ => none)

theorem drawn_free (C : Call) : ∀ (ops : List IOper) (s : S) (hs : List H) (k : S → R), xDrawn C ops s hs (fun s' _ => k s') = xOps C ops s k
  | [], _, _, _ => rfl
  | o :: os, s, hs, k => by
    simp only [xDrawn, xOps]
    have : (fun s : S => xDrawn C os s (hs ++ [s.h]) fun s' _ => k s') = fun s => xOps C os s k := by funext s; exact drawn_free C os s _ k
    rw [this]
    split <;> first | rfl | exact drawn_free C os _ _ k

theorem res2_std (s : S) : ∀ (rs : List IRes) (k : List AV → R), res2 std s rs k = (resVals s rs).bind k
  | [], _ => rfl
  | r :: rs, k => by
    have ih := fun k => res2_std s rs k
    cases r with
    | t n =>
      simp only [res2, resVals, resVal, ih]
      cases get s.env n with
      | none => rfl
      | some v => cases resVals s rs <;> rfl
    | l l n ag =>
      simp only [res2, resVals, resVal, ih]
      cases get s.lp l with
      | none => rfl
      | some lo =>
        obtain ⟨l, o⟩ := lo
        cases o with
        | succ o => simp only [whole, show Nat.beq (o + 1) 0 = false from rfl, Bool.false_and]; split <;> rfl
        | zero =>
          simp only
          cases get s.loc l with
          | none => rfl
          | some x =>
            obtain ⟨xn, xa, xv⟩ := x
            simp only [whole, show Nat.beq 0 0 = true from rfl, Bool.true_and]
            cases Nat.beq xn n <;> cases xa <;> cases ag <;> cases resVals s rs <;> rfl
    | h t n ag =>
      simp only [res2, resVals, resVal]
      cases get s.env t with
      | none => rfl
      | some p =>
        show (hload s.h p n ag).bind (fun v => res2 std s rs fun vs => k (v :: vs)) = _
        simp only [ih]
        cases hload s.h p n ag with
        | none => rfl
        | some v => cases resVals s rs <;> rfl
theorem fin2_std (f : IFunc) (h0 : H) (s : S) : fin2 std f h0 s = finish f h0.floors h0.size s := by
  unfold fin2 finish
  rw [res2_std]
  cases resVals s f.results with
  | none => rfl
  | some vs =>
    simp only [Option.bind_some]
    rcases vs with _ | ⟨v, _ | ⟨u, r⟩⟩ <;> cases f.trunc <;> rfl
theorem stab2_std (ops : List IOper) (s : S) (hs : List H) : ∀ (chk : List (Nat × List Nat)) (K : R) (r : AV × H), stab2 std ops s hs chk K = some r → stable ops s hs chk = true ∧ K = some r
  | [], K, r => fun h => ⟨rfl, h⟩
  | (j, at_) :: cs, K, r => by
    have ih := fun K r => stab2_std ops s hs cs K r
    intro h
    simp only [stab2] at h
    have main : ∀ (op : IOp) (xs : List (Option AV)) (v : AV), seen std s op hs at_ = some xs → allAre v xs = true →
        (at_.all fun i => match hs[i]? with | some h => (match again std s op h with | some w => decide (w = v) | none => false) | none => false) = true := by
      intro op xs v
      clear h
      induction at_ generalizing xs with
      | nil => intros; rfl
      | cons i is ihi =>
        intro h1 h2
        simp only [seen] at h1
        split at h1
        · rename_i h' xs' e1 e2
          injection h1 with h1; subst h1
          simp only [allAre, Bool.and_eq_true] at h2
          simp only [List.all_cons, e1, Bool.and_eq_true]
          exact ⟨h2.1, ihi xs' e2 h2.2⟩
        · cases h1
    split at h
    · rename_i d g op hop
      split at h
      · rename_i v xs hl hv hxs
        have key : ∀ (G : Option Bool), guardOk s g = G → chkV G xs v (stab2 std ops s hs cs K) = some r →
            ((match guardOk s g with | some false => true | some true => (at_.all fun i => match hs[i]? with | some h => (match again std s op h with | some w => decide (w = v) | none => false) | none => false) | none => false) && stable ops s hs cs) = true ∧ K = some r := by
          intro G hG hc
          rw [hG]
          cases G with
          | none => cases hc
          | some b =>
            cases b with
            | false =>
              obtain ⟨h1, h2⟩ := ih _ _ hc
              exact ⟨by simp [h1], h2⟩
            | true =>
              simp only [chkV] at hc
              split at hc
              · rename_i ha
                obtain ⟨h1, h2⟩ := ih _ _ hc
                exact ⟨by simp only [main op xs v hxs ha, h1, Bool.and_self], h2⟩
              · cases hc
        have key2 : ((match guardOk s g with | some false => true | some true => (at_.all fun i => match hs[i]? with | some h => (match again std s op h with | some w => decide (w = v) | none => false) | none => false) | none => false) && stable ops s hs cs) = true ∧ K = some r := by
          cases g with
          | none => exact key (some true) rfl h
          | some tw =>
            obtain ⟨t, w⟩ := tw
            simp only at h
            cases hx : get s.env t with
            | none => rw [hx] at h; cases h
            | some x => rw [hx] at h; exact key (gv x w) (by rw [gv_eq, hx]) h
        refine ⟨?_, key2.2⟩
        have k3 := key2.1
        simp only [stable, hop]
        cases op <;> simp only [isLoad] at hl <;> first | (cases hl; done) | skip
        · rename_i n ag p
          obtain ⟨pv, hp⟩ := Option.isSome_iff_exists.1 hl
          simp only [again, hp, hv] at k3 ⊢
          exact k3
        · rename_i z ok m kk
          rw [Bool.and_eq_true] at hl
          obtain ⟨pv, hp⟩ := Option.isSome_iff_exists.1 hl.1
          obtain ⟨qv, hq⟩ := Option.isSome_iff_exists.1 hl.2
          simp only [again, hp, hq, hv] at k3 ⊢
          exact k3
        · rename_i m
          obtain ⟨pv, hp⟩ := Option.isSome_iff_exists.1 hl
          simp only [again, hp, hv] at k3 ⊢
          exact k3
      · cases h
    · cases h
theorem stab2_mono (ops : List IOper) (s : S) (hs : List H) : ∀ (chk : List (Nat × List Nat)) {K K' : R}, Le K K' → Le (stab2 std ops s hs chk K) (stab2 std ops s hs chk K')
  | [], _, _, h => h
  | (j, at_) :: cs, K, K', h => by
    have ih : Le (stab2 std ops s hs cs K) (stab2 std ops s hs cs K') := stab2_mono ops s hs cs h
    have hc : ∀ g xs v, Le (std.chk g xs v (stab2 std ops s hs cs K)) (std.chk g xs v (stab2 std ops s hs cs K')) := by
      intro g xs v
      simp only [std, chkV]
      split
      · exact ih
      · split
        · exact ih
        · exact Le.none _
      · exact Le.none _
    simp only [stab2]
    split
    · split
      · split
        · exact hc _ _ _
        · split
          · exact hc _ _ _
          · exact Le.none _
      · exact Le.none _
    · exact Le.none _
theorem exec2_mono (C : Call) (c : IC) : ∀ (s : S) {kn kn' kr kr' : S → R} {kx kx' : Nat → S → R}, LeK kn kn' → LeK kr kr' → (∀ i, LeK (kx i) (kx' i)) →
    Le (exec2 std C c s kn kr kx) (exec2 std C c s kn' kr' kx') := by
  induction c with
  | skip => intro s _ _ _ _ _ _ h _ _; exact h s
  | region ops =>
    intro s _ _ _ _ _ _ h _ _
    simp only [exec2, ← xD2_std]
    exact xDrawn_mono (fun _ _ _ => Le.refl _) ops s _ fun s _ => h s
  | drawn ops chk =>
    intro s _ _ _ _ _ _ h _ _
    simp only [exec2, ← xD2_std]
    exact xDrawn_mono (fun _ _ _ => Le.refl _) ops s _ fun s _ => stab2_mono _ _ _ _ (h s)
  | seq a b iha ihb => intro s _ _ _ _ _ _ h hr hx; exact iha s (fun s => ihb s h hr hx) hr hx
  | cond x a b iha ihb =>
    intro s _ _ _ _ _ _ h hr hx
    simp only [exec2]
    split
    · rename_i v hv
      show Le (ifB _ _ _) (ifB _ _ _)
      unfold ifB
      split
      · split
        · exact iha s h hr hx
        · exact ihb s h hr hx
      · exact Le.none _
    · exact Le.none _
  | block id c ih =>
    intro s _ _ _ _ _ _ h hr hx
    refine ih s h hr fun i s => ?_
    split
    · exact h s
    · exact hx i s
  | loop hd c ih =>
    intro s kn kn' kr kr' kx kx' h hr hx
    have round : ∀ {kr kr' : S → R} {kx kx' : Nat → S → R}, LeK kr kr' → (∀ i, LeK (kx i) (kx' i)) →
        LeF (fun self st => exec2 std C c (hd.open' st.1 st.2) (fun s => match hd.pack s with
          | some vs => self (vs, s.h)
          | none => none) kr kx) (fun self st => exec2 std C c (hd.open' st.1 st.2) (fun s => match hd.pack s with
          | some vs => self (vs, s.h)
          | none => none) kr' kx') := by
      intro kr kr' kx kx' hr hx k k' hk st
      refine ih _ (fun s => ?_) hr hx
      split
      · exact hk _
      · exact Le.none _
    simp only [exec2]
    split
    · exact loopW_mono _ _ (round (fun _ => Le.refl _) (fun _ _ => Le.refl _)) (round (fun _ => Le.refl _) (fun _ _ => Le.refl _)) (round hr hx) _
    · exact Le.none _
  | join hd a b iha ihb =>
    intro s _ _ _ _ _ _ h hr hx
    refine iha s (fun s => ?_) hr hx
    split
    · exact ihb _ h hr hx
    · exact Le.none _
  | exit id => intro s _ _ _ _ _ _ _ _ hx; exact hx id s
  | ret => intro s _ _ _ _ _ _ _ hr _; exact hr s
theorem exec2_le (C : Call) (c : IC) : ∀ (s : S) {kn kn' kr kr' : S → R} {kx kx' : Nat → S → R}, LeK kn kn' → LeK kr kr' → (∀ i, LeK (kx i) (kx' i)) →
    Le (exec2 std C c s kn kr kx) (exec C loopW c s kn' kr' kx') := by
  induction c with
  | skip => intro s _ _ _ _ _ _ h _ _; exact h s
  | region ops =>
    intro s _ _ _ _ _ _ h _ _
    simp only [exec2, exec, ← xD2_std, drawn_free]
    exact xOps_mono (fun _ _ _ => Le.refl _) ops s h
  | drawn ops chk =>
    intro s _ _ _ _ _ _ h _ _
    simp only [exec2, exec, ← xD2_std]
    refine xDrawn_mono (fun _ _ _ => Le.refl _) ops s _ fun s hs r e => ?_
    obtain ⟨h1, h2⟩ := stab2_std _ _ _ _ _ _ e
    rw [h1]
    exact h s r h2
  | seq a b iha ihb => intro s _ _ _ _ _ _ h hr hx; exact iha s (fun s => ihb s h hr hx) hr hx
  | cond x a b iha ihb =>
    intro s _ _ _ _ _ _ h hr hx
    simp only [exec2, exec]
    cases x.val s with
    | none => exact Le.none _
    | some v =>
      show Le (ifB _ _ _) _
      unfold ifB
      cases v with
      | bool b =>
        cases b
        · exact ihb s h hr hx
        · exact iha s h hr hx
      | _ => exact Le.none _
  | block id c ih =>
    intro s _ _ _ _ _ _ h hr hx
    refine ih s h hr fun i s => ?_
    cases Nat.beq i id
    · exact hx i s
    · exact h s
  | loop hd c ih =>
    intro s kn kn' kr kr' kx kx' h hr hx
    simp only [exec2, exec]
    cases hd.pack s with
    | none => exact Le.none _
    | some vs =>
      refine loopW_mono _ _ ?_ ?_ ?_ _
      · intro k k' hk st
        refine exec2_mono C c _ (fun s => ?_) (fun _ => Le.refl _) (fun _ _ => Le.refl _)
        split
        · exact hk _
        · exact Le.none _
      · exact rnd_mono hd c (LeC.refl _) loopW_mono loopW_mono loopW_mono (LeK.refl _) (fun _ => LeK.refl _)
      · intro k k' hk st
        simp only [open_eq]
        refine ih _ (fun s => ?_) hr hx
        cases hd.pack s
        · exact Le.none _
        · exact hk _
  | join hd a b iha ihb =>
    intro s _ _ _ _ _ _ h hr hx
    refine iha s (fun s => ?_) hr hx
    cases hd.pack s
    · exact Le.none _
    · simp only [open_eq]
      exact ihb _ h hr hx
  | exit id => intro s _ _ _ _ _ _ _ _ hx; exact hx id s
  | ret => intro s _ _ _ _ _ _ _ hr _; exact hr s
theorem execF2_le (C : Call) (f : IFunc) (args : List AV) (h : H) (hl : args.length = f.params) : Le (execF2 std C f args h) (execF C loopW f args h) := by
  unfold execF2 execF
  rw [if_pos hl]
  exact exec2_le C f.body _ (fun s r e => by rw [← fin2_std]; exact e) (fun s r e => by rw [← fin2_std]; exact e) (fun _ _ => Le.refl _)
/-- a function of the table, by its printed text -/
theorem callW_of (T : Nat → Option IFunc) (X : Call) {f : Nat} {ir : IFunc} (hT : T f = some ir) {args : List AV} (hl : args.length = ir.params) {h : H} {r : AV × H}
    (e : execF2 std (callW T X) ir args h = some r) : callW T X f args h = some r := by
  rw [callW_eq T X hT]
  exact execF2_le _ ir args h hl r e
end Go.Abs
