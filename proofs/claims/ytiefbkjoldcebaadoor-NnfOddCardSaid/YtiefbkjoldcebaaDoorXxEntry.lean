/- From the table's calls to a law's call, in any world that holds the package variables. -/
import Derived.Test.YtiefbkjoldcebaaDoorXxExtE
import Derived.Carry
import Derived.OpenShut
namespace Go.Abs
open Go.Proofs

theorem enter {f : Nat} {args : List AV} {ms : List Value} (W : World) (hg : ∀ k o x, seat.G k o = some x → W.cell? ⟨k, o, none⟩ = some x)
    (hrel : RelL seat (fun k o => W.cell? ⟨k, o, none⟩) [] args ms) (hc : callW T X f args ⟨[], []⟩ = some (.bool true, ⟨[], []⟩)) :
    Calls seat.P (seat.φ f) ms.toArray W fun e w' => e = .returned (.bool true) ∧ RowKit.Grown W w' ∧ RowKit.Below W.heap.size W w' := by
  have hs : HSim seat (fun k o => W.cell? ⟨k, o, none⟩) [] (fun _ => none) ⟨[], []⟩ W := {
    len := rfl
    low := fun fl h => by cases h
    blk := fun b x h => by cases h
    fz := fun k o x h => h
    free := fun k b h => by cases h
    role := fun k r h => by cases h
    ents := fun k b o h => by cases h
    heaps := fun k b h => by cases h
    glob := hg }
  obtain ⟨_, h2⟩ := W_ok f args ⟨[], []⟩ _ _ hc
  refine (h2 _ _ _ W ms hs (fun k r h => by cases h) hrel).mono fun e w' ⟨m, F', β', ρ', he, _, _, _, hm, hk⟩ => ?_
  have hb : m = .bool true := by cases hm; rfl
  subst hb
  refine ⟨he, ⟨⟨hk.os, hk.output, fun i hi => ?_⟩, hk.frz, hk.size⟩, ⟨hk.os, hk.tape, hk.output, hk.size, fun i hi => hk.blk i hi rfl⟩⟩
  rw [hk.blk i hi rfl]
  cases W.heap[i]? with
  | none => rfl
  | some o =>
    cases o with
    | cells c t fr => exact ⟨rfl, rfl, rfl, fun _ _ => rfl⟩
    | map es clock => exact .inr ⟨rfl, rfl⟩
    | _ => rfl
open Go.ChangeShapes in
/-- the arguments read behind the call as they read before -/
theorem trodAll_stays {H : Type} {enc : TypeId × Value → H} {P : Program} (hl : laidOutB P = true) {W W' : World} {sp' : Nat → Bool} : ∀ {ts : List TypeId} {vs : List Value} {ds : List (DataW H)} {ps : List MemPlace},
    (∀ t ∈ ts, P.readableRec t = true ∧ t < P.types.size) → DataW.TrodAll enc P W 0 (fun _ => true) true ts vs ds ps → (∀ p ∈ ps, W.sameAt W' p) → (∀ p ∈ ps, sp' p.block = true) → DataW.TrodAll enc P W' 0 sp' true ts vs ds ps
  | [], vs, ds, ps, _, h, _, _ => by
    cases vs <;> cases ds <;> simp_all [DataW.TrodAll]
  | t :: ts, vs, ds, ps, ht, h, hs, hsp => by
    match vs, ds, h with
    | v :: vs, d :: ds, ⟨p, q, h1, h2, e⟩ =>
      subst e
      exact ⟨p, q, WideElems.Trod_stays hl (ht t (by simp)).1 (ht t (by simp)).2 h1 (fun x hx => hs x (List.mem_append_left _ hx)) (fun x hx => hsp x (List.mem_append_left _ hx)),
        trodAll_stays hl (fun u hu => ht u (by simp [hu])) h2 (fun x hx => hs x (List.mem_append_right _ hx)) (fun x hx => hsp x (List.mem_append_right _ hx)), rfl⟩
end Go.Abs
