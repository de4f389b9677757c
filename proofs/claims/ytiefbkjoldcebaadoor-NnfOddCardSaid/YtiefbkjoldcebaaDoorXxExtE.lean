/- What is outside the table does what is said of it. -/
import Derived.Test.YtiefbkjoldcebaaDoorXxExtA
import Derived.Test.YtiefbkjoldcebaaDoorXxExtD
namespace Go.Abs
open Go.Proofs

theorem lib_index (c : UInt8) : ∀ s : List UInt8, Lib.indexByte s c = (match indexOf c s with | some n => (n : Int) | none => -1)
  | [] => rfl
  | a :: s => by
    have ih := lib_index c s
    simp only [Lib.indexByte, indexOf]
    by_cases h : a = c
    · simp [h]
    · rw [if_neg (by simpa using h), if_neg h, ih]
      cases indexOf c s with
      | none => simp
      | some n =>
        simp
theorem str_inv {K : Seat} {F : FZ} {β : BM} {s : List UInt8} {m : Value} (h : Rel K F β (.str s) m) : m = .string ⟨s.toArray⟩ := by cases h; rfl
theorem int_inv {K : Seat} {F : FZ} {β : BM} {k : IntKind} {n : Int} {m : Value} (h : Rel K F β (.int k n) m) : m = .int k n := by cases h; rfl
theorem rel2 {K : Seat} {F : FZ} {β : BM} {a b : AV} {ms : List Value} (h : RelL K F β [a, b] ms) : ∃ m n, ms = [m, n] ∧ Rel K F β a m ∧ Rel K F β b n := by
  cases h with
  | cons _ _ m ms h hs => cases hs with | cons _ _ n ns h' hs' => cases hs'; exact ⟨m, n, rfl, h, h'⟩
/-- a call that only answers -/
theorem quiet_ok {K : Seat} {F : FZ} {β : BM} {ρ : Roles} {h : H} {w : World} {f : FuncId} {args : Array Value} {v : AV} {m : Value} (hs : HSim K F β ρ h w) (ho : onlyH ρ) (hv : Rel K F β v m)
    (hc : Calls K.P f args w fun e w' => e = .returned m ∧ w' = w) :
    Calls K.P f args w fun e w' => ∃ m F' β' ρ', e = .returned m ∧ h.floors = h.floors ∧ HSim K F' β' ρ' h w' ∧ onlyH ρ' ∧ Rel K F' β' v m ∧ Keep F β ρ w F' β' ρ' w' := by
  refine hc.mono fun e w' ⟨he, hw⟩ => ?_
  subst hw
  exact ⟨m, F, β, ρ, he, rfl, hs, ho, hv, Keep.refl ..⟩
theorem glob0 {F : FZ} {β : BM} {ρ : Roles} {h : H} {w : World} (hs : HSim seat F β ρ h w) : w.cell? ⟨0, 0, none⟩ = some (.iface 155 (.agg #[.pointer (some ⟨5, 28, none⟩)])) :=
  hs.fz 0 0 _ (hs.glob 0 0 _ rfl)
theorem alloc_ok {K : Seat} {F : FZ} {β : BM} {ρ : Roles} {h : H} {w : World} (hs : HSim K F β ρ h w) (c : Array Value) (ty : TypeId) :
    ∃ F', HSim K F' β ρ h (w.alloc (.cells c ty)) ∧ Keep F β ρ w F' β ρ (w.alloc (.cells c ty)) :=
  ⟨_, hs.grow (Grow.alloc hs.fz c ty), (Grow.alloc hs.fz c ty).keep β ρ⟩
theorem cell_blk {w : World} {k : Nat} {c : Array Value} {ty : TypeId} {fr : Nat × Nat} (h : w.heap[k]? = some (.cells c ty fr)) (o : Nat) : w.cell? ⟨k, o, none⟩ = c[o]? := by
  simp [World.cell?, h]
theorem frozen_blk {w : World} {k : Nat} {c : Array Value} {ty : TypeId} (h : w.heap[k]? = some (.cells c ty (0, 0))) (o : Nat) : w.frozen? ⟨k, o, none⟩ = false := by
  simp [World.frozen?, h]
theorem store77 (ta : Addr) (n : Int) (old : Value) (W : World) (ht : W.cell? ta = some old) (hf : W.frozen? ta = false) : (Instr.storeAt 77 (.pointer (some ta)) (.int .i64 n)).run Tryd.prog W = .ok () (W.setCell ta (.int .i64 n)) := by
  simp [Instr.storeAt, Instr.sureAddr, storeVar, Value.cells, storeCells, Addr.add, Result.andThen]
  rw [Go.run_store Tryd.prog W ta _ _ (by rfl)]
  simp [ht, hf]
/-- the block that errors.As is handed -/
theorem as_ok {F : FZ} {β : BM} {ρ : Roles} {h : H} {w : World} {b : Nat} {v : AV} {e : AV} {n : Int} {me mp : Value} (hs : HSim seat F β ρ h w) (ho : onlyH ρ) (hb : h.get b = some (.cells 1 false v []))
    (he : asErrno e = some n) (hie : isErr e = true) (hre : Rel seat F β e me) (hrp : Rel seat F β (.ptr b 0 0) mp) :
    Calls seat.P 29 #[me, .iface 85 mp] w fun ev w' => ∃ m F' β' ρ', ev = .returned m ∧ (h.set b (.cells 1 false (.int .i64 n) [])).floors = h.floors ∧ HSim seat F' β' ρ' (h.set b (.cells 1 false (.int .i64 n) [])) w' ∧ onlyH ρ' ∧ Rel seat F' β' (.bool true) m ∧ Keep F β ρ w F' β' ρ' w' := by
  obtain ⟨g0, k0, k, hb1, hr1, ⟨hg, mm, c, ty, h1, h2, h3, h4, h5⟩, hm, hk⟩ := ptr_blk hs hrp hb
  have hkk := hk hg.symm
  subst hkk
  subst hm
  subst h3
  have hone : mm.cells.size = 1 := by
    have := h1.whole h2 (fun _ => rfl)
    exact this.2.1
  have ht0 : w.cell? ⟨k, 0, none⟩ = some (mm.cells[0]'(by omega)) := by rw [cell_blk h4]; simp [hone]
  have hf0 := frozen_blk h4 0
  have hgl := glob0 hs
  obtain ⟨F1, s1, q1⟩ := alloc_ok hs #[.pointer (some ⟨k, 0, none⟩)] 85
  obtain ⟨F2, s2, q2⟩ := alloc_ok s1 #[.pointer (some ⟨5, 85, none⟩), .pointer (some ⟨w.heap.size, 0, none⟩), .int .u64 150] 126
  obtain ⟨F3, s3, q3⟩ := alloc_ok s2 #[.pointer (some ⟨5, 85, none⟩), .pointer (some ⟨w.heap.size, 0, none⟩), .int .u64 150] 126
  obtain ⟨F4, s4, q4⟩ := alloc_ok s3 #[.int .i64 n] 77
  have q := ((q1.trans q2).trans q3).trans q4
  have hklt : k < w.heap.size := hs.role k _ hr1
  have hst : hstore h (.ptr b 0 0) (.int .i64 n) 1 false = some (h.set b (.cells 1 false (.int .i64 n) [])) := by
    have hmay : mayStore h b (.int .i64 n) = true := by
      simp only [mayStore, List.all_eq_true]
      intro fl _
      simp [AV.under]
    simp only [hstore, hb, hmay]
    rfl
  obtain ⟨w', kk, b', c', hrun, hw', hrk, hsim, hfl, t⟩ := hstore_ok (t := 77) s4 (hrp.mono q.fz q.bm) (.int .i64 n) (by kernel_rfl) hst
  have hheap4 : ((((w.alloc (.cells #[.pointer (some ⟨k, 0, none⟩)] 85)).alloc (.cells #[.pointer (some ⟨5, 85, none⟩), .pointer (some ⟨w.heap.size, 0, none⟩), .int .u64 150] 126)).alloc (.cells #[.pointer (some ⟨5, 85, none⟩), .pointer (some ⟨w.heap.size, 0, none⟩), .int .u64 150] 126)).alloc (.cells #[.int .i64 n] 77)).heap[k]? = some (.cells mm.cells ty (0, 0)) := by
    refine (heap_alloc_old _ _ (by simp; omega)).trans ((heap_alloc_old _ _ (by simp; omega)).trans ((heap_alloc_old _ _ (by simp; omega)).trans ((heap_alloc_old _ _ hklt).trans h4)))
  have hrun2 := store77 ⟨k, 0, none⟩ n (mm.cells[0]'(by omega)) _ (by rw [cell_blk hheap4]; simp [hone]) (frozen_blk hheap4 0)
  have hrun := hrun2.symm.trans hrun
  injection hrun with _ hrun
  have fin : ∀ (A : Array Value), (Calls Tryd.prog 29 A w fun ev w' => ev = .returned (.bool true) ∧ w' = ((((w.alloc (.cells #[.pointer (some ⟨k, 0, none⟩)] 85)).alloc (.cells #[.pointer (some ⟨5, 85, none⟩), .pointer (some ⟨w.heap.size, 0, none⟩), .int .u64 150] 126)).alloc (.cells #[.pointer (some ⟨5, 85, none⟩), .pointer (some ⟨w.heap.size, 0, none⟩), .int .u64 150] 126)).alloc (.cells #[.int .i64 n] 77)).setCell ⟨k, 0, none⟩ (.int .i64 n)) →
      Calls seat.P 29 A w fun ev w' => ∃ m F' β' ρ', ev = .returned m ∧ (h.set b (.cells 1 false (.int .i64 n) [])).floors = h.floors ∧ HSim seat F' β' ρ' (h.set b (.cells 1 false (.int .i64 n) [])) w' ∧ onlyH ρ' ∧ Rel seat F' β' (.bool true) m ∧ Keep F β ρ w F' β' ρ' w' := by
    intro A hA
    refine hA.mono fun ev w1 ⟨he, hw⟩ => ?_
    subst he
    rw [hrun] at hw
    subst hw
    exact ⟨_, F4, β, ρ, rfl, rfl, hsim, ho, .bool true, q.trans (t.keep (.inr (by rw [hrk]; simp)) (fun j hj _ => hj))⟩
  match e, hie, he, hre with
  | .iface 0 (.int .i64 n'), _, he, hre =>
    injection he with he
    subst he
    cases hre with
    | iface _ _ m hv =>
      have := int_inv hv
      subst this
      exact fin _ (Tryd.as_hit n' _ _ w hgl ht0 hf0)
  | .iface 2 (.ro (.agg [.int .i64 pos, .iface 0 (.int .i64 n')]) 0), _, he, hre =>
    have he : n' = n := by simpa [asErrno] using he
    subst he
    cases hre with
    | iface _ _ m hv =>
      cases hv with
      | ro _ _ mv kk base hv hc =>
        cases hv with
        | agg _ ms hl _ =>
          obtain ⟨m1, m2, rfl, r1, r2⟩ := rel2 hl
          cases r2 with
          | iface _ _ m hv =>
            have := int_inv hv
            subst this
            have hcell := hs.fz _ _ _ (hc 1 _ (by simp [Value.cells]; rfl))
            exact fin _ (Tryd.as_at n' kk base _ _ w hgl ht0 hf0 hcell)
  | .nili, _, he, _ => cases he
theorem as_nil_ok {F : FZ} {β : BM} {ρ : Roles} {h : H} {w : World} {e : AV} {me mp : Value} (hs : HSim seat F β ρ h w) (ho : onlyH ρ) (he : asErrno e = none) (hie : isErr e = true) (hre : Rel seat F β e me) :
    Calls seat.P 29 #[me, mp] w fun ev w' => ∃ m F' β' ρ', ev = .returned m ∧ h.floors = h.floors ∧ HSim seat F' β' ρ' h w' ∧ onlyH ρ' ∧ Rel seat F' β' (.bool false) m ∧ Keep F β ρ w F' β' ρ' w' := by
  match e, hie, he, hre with
  | .iface 0 (.int .i64 n'), _, he, _ => cases he
  | .iface 2 (.ro (.agg [.int .i64 pos, .iface 0 (.int .i64 n')]) 0), _, he, _ => cases he
  | .nili, _, _, hre =>
    cases hre
    exact quiet_ok hs ho (.bool false) (Tryd.as_nil mp w)
theorem X_ok : CallsOK seat X := by
  intro f args h v h' hx
  unfold X at hx
  split at hx
  · rename_i e b
    split at hx
    · rename_i ov hb
      split at hx
      · rename_i hie
        refine ⟨⟨Tryd.f29, Tryd.func29, by kernel_rfl, by kernel_rfl⟩, fun F β ρ w ms hs ho hr => ?_⟩
        obtain ⟨me, mt, rfl, r1, r2⟩ := rel2 hr
        cases r2 with
        | iface _ _ mp hv =>
          split at hx
          · rename_i n hn
            injection hx with hx; injection hx with hx1 hx2
            subst hx1; subst hx2
            exact as_ok hs ho hb hn hie r1 hv
          · rename_i hn
            injection hx with hx; injection hx with hx1 hx2
            subst hx1; subst hx2
            exact as_nil_ok hs ho hn hie r1
      · cases hx
    · cases hx
  · rename_i s c
    refine ⟨⟨Tryd.f112, Tryd.func112, by kernel_rfl, by kernel_rfl⟩, fun F β ρ w ms hs ho hr => ?_⟩
    obtain ⟨m1, m2, rfl, r1, r2⟩ := rel2 hr
    have e1 := str_inv r1
    have e2 := str_inv r2
    subst e1; subst e2
    have hc := Tryd.stringslite_Index_one ⟨s.toArray⟩ c w
    rw [show (⟨s.toArray⟩ : ByteArray).data.toList = s from by simp, lib_index] at hc
    split at hx
    · rename_i n hn
      injection hx with hx; injection hx with hx1 hx2
      subst hx1; subst hx2
      rw [hn] at hc
      exact quiet_ok hs ho (.int .i64 _) hc
    · rename_i hn
      injection hx with hx; injection hx with hx1 hx2
      subst hx1; subst hx2
      rw [hn] at hc
      exact quiet_ok hs ho (.int .i64 _) hc
  · rename_i s c
    refine ⟨⟨Tryd.f113, Tryd.func113, by kernel_rfl, by kernel_rfl⟩, fun F β ρ w ms hs ho hr => ?_⟩
    obtain ⟨m1, m2, rfl, r1, r2⟩ := rel2 hr
    have e1 := str_inv r1
    have e2 := int_inv r2
    subst e1; subst e2
    have hc := Tryd.stringslite_IndexByte ⟨s.toArray⟩ c w
    rw [show (⟨s.toArray⟩ : ByteArray).data.toList = s from by simp, lib_index] at hc
    split at hx
    · rename_i n hn
      injection hx with hx; injection hx with hx1 hx2
      subst hx1; subst hx2
      rw [show c.toNat.toUInt8 = UInt8.ofNat c.toNat from rfl, hn] at hc
      exact quiet_ok hs ho (.int .i64 _) hc
    · rename_i hn
      injection hx with hx; injection hx with hx1 hx2
      subst hx1; subst hx2
      rw [show c.toNat.toUInt8 = UInt8.ofNat c.toNat from rfl, hn] at hc
      exact quiet_ok hs ho (.int .i64 _) hc
  · cases hx
theorem W_ok : CallsOK seat (callW T X) := callW_ok X_ok tab_ok
end Go.Abs
