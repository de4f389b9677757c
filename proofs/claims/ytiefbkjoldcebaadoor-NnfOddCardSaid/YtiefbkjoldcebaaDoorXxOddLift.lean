/- NnfOdd: for every operation, name and list of texts the call returns true and leaves its arguments as they were. -/
import Derived.Test.YtiefbkjoldcebaaDoorXxTwice
import Derived.Test.YtiefbkjoldcebaaDoorXxOdd2
import Derived.SliceStrings
namespace Go.Proofs.YtiefbkjoldcebaaDoor
open Go.ChangeShapes Go.WideShapes Go.RowKit Go.ChangeAt Go.ChangeMaps

theorem laid_out : laidOutB Tryd.prog = true := by kernel_rfl
/-- a list of texts is a list of texts -/
theorem strs_rel {W : World} {k off : Nat} : ∀ (ss : List ByteArray) (o : Nat), (∀ i, i < ss.length → W.cell? ⟨k, o + i, none⟩ = some (.string (ss.getD i ByteArray.empty))) →
    Abs.RelE Abs.seat (fun k o => W.cell? ⟨k, o, none⟩) [] 1 k o (ss.map fun s => Abs.AV.str s.data.toList)
  | [], o, _ => .nil _ _ _
  | s :: ss, o, h => by
    refine .cons _ _ _ _ _ (.string s) ?_ rfl (by intro c hc; simp [Value.cells] at hc; subst hc; rfl) ?_ ?_
    · have := Abs.Rel.str (K := Abs.seat) (F := fun k o => W.cell? ⟨k, o, none⟩) (β := []) s.data.toList
      simpa using this
    · intro j c hj
      have h0 := h 0 (by simp)
      rcases j with _ | j
      · simp [Value.cells] at hj
        subst hj
        simpa using h0
      · simp [Value.cells] at hj
    · refine strs_rel (off := off) ss (o + 1) fun i hi => ?_
      have := h (i + 1) (by simpa using hi)
      simpa [Nat.add_assoc, Nat.add_comm 1] using this
set_option maxRecDepth 100000 in
theorem odd_lifted (os : Os) (started : os.Started) (H : Type) (enc : TypeId × Value → H) :
    ReturnsInHanded {} Tryd.checked os 3 .any (fun w args => (Rows.nnfOddSpec.pre enc Tryd.prog Tryd.f3 [] false w args ∧ laidMetH Tryd.prog Rows.nnfOddRow.laid w) ∧ sizedMet enc Tryd.prog Tryd.f3 (OpenSpec.ofChange Rows.nnfOddSpec) false w args)
      (Rows.nnfOddSpec.post enc Tryd.prog Tryd.f3 false true false false) := by
  refine returnsInHanded_of_change_and (C := Tryd.checked) (X := fun w _ => laidMetH Tryd.prog Rows.nnfOddRow.laid w) (fun _ _ _ hh h => h.of_heap hh) own started (by kernel_rfl) Tryd.func3
    (ChangeSpec.witness_at (enc := enc) (C := Tryd.checked) (os := os) (X := fun w _ => laidMetH Tryd.prog Rows.nnfOddRow.laid w) false (laidWorld os) #[.string ⟨#[]⟩, .string ⟨#[]⟩, .slice none 0 0] 8 rfl (by kernel_rfl) (by kernel_rfl) (by kernel_rfl) (by kernel_rfl) (by kernel_rfl) (laidWorld_met os _)) ?_
  intro W base args ds gs before hval0 hW _ _ hL _
  have hval : ∀ (j : Nat) t v, Tryd.f3.params[j]? = some t → args[j]? = some v → Value.okWide Tryd.prog W .any base t v := hval0
  have hW' := hW
  have hlt := fun p hp => hW.lt p hp
  obtain ⟨p, q, hA0, hV0, rfl, hfz, hnd⟩ := hW
  have hA : DataW.TrodAll enc Tryd.prog W 0 (fun _ => true) true Tryd.f3.params.toList args.toList ds p := hA0
  have hV : DataW.TrodVars enc Tryd.prog W (fun _ => true) [] gs q := hV0
  rw [Tryd.params3] at hA hval
  have hA1 := hA
  obtain ⟨v0, v1, v2, d0, d1, d2, p0, p1, p2, hargs, hds, hps, h0, h1, h2⟩ := trodAll_three hA
  subst hargs
  obtain ⟨s0, rfl, rfl, rfl, _⟩ := open_string Tryd.underlying9 (hval 0 9 v0 rfl rfl) h0
  obtain ⟨s1, rfl, rfl, rfl, _⟩ := open_string Tryd.underlying9 (hval 1 9 v1 rfl rfl) h1
  obtain ⟨rfl, rfl⟩ := trodVars_none hV
  simp only [List.append_nil] at hW'
  have walk : Calls Tryd.checked.prog 3 #[.string s0, .string s1, v2] W fun e w' => e = .returned (.bool true) ∧ Grown W w' ∧ Below W.heap.size W w' := by
    obtain ⟨fuel, hf⟩ := h2
    have str : ∀ s : ByteArray, Abs.Rel Abs.seat (fun k o => W.cell? ⟨k, o, none⟩) [] (.str s.data.toList) (.string s) := fun s => by
      have := Abs.Rel.str (K := Abs.seat) (F := fun k o => W.cell? ⟨k, o, none⟩) (β := []) s.data.toList; simpa using this
    obtain ⟨a0, len, cap, rfl⟩ := okWide_slice Tryd.underlying22 (hval 2 22 v2 rfl rfl)
    have go : ∀ (nl : Bool) (ks : List (List UInt8)), Abs.Rel Abs.seat (fun k o => W.cell? ⟨k, o, none⟩) [] (.list nl 1 (ks.map .str)) (.slice a0 len cap) →
        Calls Tryd.checked.prog 3 #[.string s0, .string s1, .slice a0 len cap] W fun e w' => e = .returned (.bool true) ∧ Grown W w' ∧ Below W.heap.size W w' := fun nl ks hr =>
      Abs.enter (f := 6) (args := [.str s0.data.toList, .str s1.data.toList, .list nl 1 (ks.map .str)]) (ms := [.string s0, .string s1, .slice a0 len cap]) W (glob_of hL)
        (.cons _ _ _ _ (str s0) (.cons _ _ _ _ (str s1) (.cons _ _ _ _ hr .nil))) (Abs.law6 _ _ _ _)
    rcases open_strings Tryd.underlying22 Tryd.underlying9 (by kernel_rfl) hf with ⟨hcs, _⟩ | ⟨a, len', cap', ss, hcs, _, hl, hm, hz, _, hcell, _⟩
    · simp [Value.cells] at hcs
      obtain ⟨rfl, rfl, rfl⟩ := hcs
      exact go true [] (.lnil 1)
    · simp [Value.cells] at hcs
      obtain ⟨rfl, rfl, rfl⟩ := hcs
      rcases Nat.eq_zero_or_pos len with rfl | hpos
      · exact go false [] (.l0 1 _ _)
      · have hz' : ss.length = cap := by simpa using hz
        obtain ⟨k, off, spot⟩ := a
        have hspot : spot = none := by
          have := hcell 0 (by omega)
          cases spot with
          | none => rfl
          | some x =>
            simp only [World.cell?, Addr.add] at this
            split at this <;> simp at this
        subst hspot
        have hr := strs_rel (k := k) (off := off) (W := W) (ss.take len) off (fun i hi => by
          have hi' : i < len := by simp at hi; omega
          have := hcell i (by omega)
          have ha : (⟨k, off, none⟩ : Addr).add i = ⟨k, off + i, none⟩ := by
            unfold Addr.add
            split
            · rename_i h0; subst h0; rfl
            · rfl
          rw [ha] at this
          rw [this]
          congr 2
          simp [List.getD_eq_getElem?_getD, hi'])
        refine go false ((ss.take len).map fun s => s.data.toList) ?_
        rw [List.map_map]
        have hlen : (ss.take len).length = len := by simp; omega
        obtain ⟨x, xs, hx⟩ : ∃ x xs, (ss.take len).map (fun s => Abs.AV.str s.data.toList) = x :: xs := by
          cases hs : (ss.take len).map (fun s => Abs.AV.str s.data.toList) with
          | nil =>
            have h1 : ((ss.take len).map (fun s => Abs.AV.str s.data.toList)).length = 0 := by rw [hs]; rfl
            rw [List.length_map, hlen] at h1
            omega
          | cons x xs => exact ⟨x, xs, rfl⟩
        have hxl : xs.length + 1 = len := by
          have h1 : ((ss.take len).map (fun s => Abs.AV.str s.data.toList)).length = (x :: xs).length := by rw [hx]
          rw [List.length_map, hlen] at h1
          simpa using h1.symm
        show Abs.Rel _ _ _ (.list false 1 ((ss.take len).map (fun s => Abs.AV.str s.data.toList))) _
        rw [hx] at hr ⊢
        rw [← hxl]
        exact .list 1 x xs k off cap (by omega) hr
  refine walk.mono fun e W' ⟨he, hg, hb⟩ => ?_
  subst he
  subst hds
  exact ⟨_, rfl, post_of_same (pa := p) (pv := []) hW' (fun _ _ _ => trodAll_cons_mk (shut_bool Tryd.underlying4 _) trodAll_mk0)
    (fun sp hsp => Abs.trodAll_stays laid_out (fun t ht => by
      have : t = 9 ∨ t = 22 := by
        have ht : t ∈ Tryd.f3.params.toList := ht
        rw [Tryd.params3] at ht
        simp at ht; omega
      rcases this with rfl | rfl <;> exact ⟨by kernel_rfl, by rw [tsize]; decide⟩) hA0 (fun x hx => hb.same (hlt x (by simpa using hx))) (fun x hx => hsp x (by simpa using hx))) (fun _ _ => rfl) (by simp)
    (hg.frame _) hg.2.1 (ok_one (by kernel_rfl) rfl (okWide_bool_mk Tryd.underlying4 _))⟩
end Go.Proofs.YtiefbkjoldcebaaDoor
