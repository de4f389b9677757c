/- From the table's calls to a law's call, in any world that holds the package variables. -/
import Derived.Test.YtiefbkjoldcebaaDoorXxExtE
import Derived.RowKit3
namespace Go.Abs
open Go.Proofs

theorem enter {f : Nat} {args : List AV} {ms : List Value} (W : World) (hg : ∀ k o x, seat.G k o = some x → W.cell? ⟨k, o, none⟩ = some x)
    (hrel : RelL seat (fun k o => W.cell? ⟨k, o, none⟩) [] args ms) (hc : callW T X f args ⟨[], []⟩ = some (.bool true, ⟨[], []⟩)) :
    Calls seat.P (seat.φ f) ms.toArray W fun e w' => e = .returned (.bool true) ∧ RowKit.Grown W w' := by
  have hs : HSim seat (fun k o => W.cell? ⟨k, o, none⟩) [] (fun _ => none) ⟨[], []⟩ W := {
    len := rfl
    low := fun fl h => by cases h
    blk := fun b x h => by cases h
    fz := fun k o x h => h
    free := fun k b h => by cases h
    role := fun k r h => by cases h
    ents := fun k b o h => by cases h
    heaps := fun k b h => by cases h
    glob := hg }
  obtain ⟨_, h2⟩ := W_ok f args ⟨[], []⟩ _ _ hc
  refine (h2 _ _ _ W ms hs (fun k r h => by cases h) hrel).mono fun e w' ⟨m, F', β', ρ', he, _, _, _, hm, hk⟩ => ?_
  have hb : m = .bool true := by cases hm; rfl
  subst hb
  refine ⟨he, ⟨hk.os, hk.output, fun i hi => ?_⟩, hk.frz, hk.size⟩
  rw [hk.blk i hi rfl]
  cases W.heap[i]? with
  | none => rfl
  | some o =>
    cases o with
    | cells c t fr => exact ⟨rfl, rfl, rfl, fun _ _ => rfl⟩
    | map es clock => exact .inr ⟨rfl, rfl⟩
    | _ => rfl
end Go.Abs
