/- For every operation, name and list of texts the call of NnfOdd returns true and leaves its arguments as they were; the variable errors.errorType holds what the program lays in it (the tied card). -/
import Derived.Test.YtiefbkjoldcebaaDoorXxOddLift
namespace Go.Proofs.YtiefbkjoldcebaaDoor
open Go.ChangeShapes Go.WideShapes Go.RowKit Go.ChangeAt
theorem odd_said : Rows.NnfOddSaid :=
  OpenClaim.holds_of_wide 3 Tryd.f3 rfl rfl rfl rfl rfl rfl rfl ⟨rfl, rfl, rfl, rfl, rfl⟩ rfl rfl rfl rfl rfl (by kernel_rfl) Tryd.func3 (by kernel_rfl)
    (of_decide_eq_true (by kernel_rfl)) (by unfold Func.isWrapper; first | (rw [if_pos (by decide +kernel)]; kernel_rfl) | (rw [if_neg (by decide +kernel)]; exact ⟨rfl, rfl⟩))
    (fun os started H enc _ => odd_lifted os started H enc)
theorem odd_plain (f : FuncId) (fn : Func) (hf : Tryd.pinned.checked.prog.funcNamed "sortilege/sortilegelaw15.NnfOdd" = some f) (hfn : Tryd.pinned.checked.prog.funcs[f]? = some fn) :
    true = Tryd.pinned.checked.prog.looks [] ∧ ∀ (j : Nat) t, fn.params[j]? = some t → Tryd.pinned.checked.prog.wantsStandIn t = false := by
  obtain rfl : f = 3 := Option.some.inj ((show Tryd.prog.funcNamed "sortilege/sortilegelaw15.NnfOdd" = some 3 by kernel_rfl).symm.trans hf) |>.symm
  obtain rfl : fn = Tryd.f3 := (Option.some.inj (Tryd.func3.symm.trans hfn)).symm
  refine ⟨by kernel_rfl, fun j t ht => ?_⟩
  rw [Tryd.params3] at ht
  have : t = 9 ∨ t = 22 := by
    have ht := Array.mem_of_getElem? ht
    simp at ht; omega
  rcases this with rfl | rfl
  · exact (show Tryd.prog.wantsStandIn 9 = false by kernel_rfl)
  · exact (show Tryd.prog.wantsStandIn 22 = false by kernel_rfl)
theorem odd_card : Rows.NnfOddCardSaid :=
  Claim7.holds_tied_plain_at .later [] _ _ _ _ odd_said (fun _ h => by cases h) (by kernel_rfl) (fun _ h => by cases h) nnfOdd_row_tie rfl ⟨rfl, rfl⟩ (by kernel_rfl) rfl odd_plain (by kernel_rfl)
#print axioms odd_card
end Go.Proofs.YtiefbkjoldcebaaDoor
