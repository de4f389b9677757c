/- For every text the call of NnfTwice returns true and leaves the text as it was; the variable errors.errorType holds what the program lays in it (the tied card). -/
import Derived.Test.YtiefbkjoldcebaaDoorXxTwice
namespace Go.Proofs.YtiefbkjoldcebaaDoor
open Go.ChangeShapes Go.WideShapes Go.RowKit Go.ChangeAt
theorem twice_said : Rows.NnfTwiceSaid :=
  OpenClaim.holds_of_wide 4 Tryd.f4 rfl rfl rfl rfl rfl rfl rfl ⟨rfl, rfl, rfl, rfl, rfl⟩ rfl rfl rfl rfl rfl (by kernel_rfl) Tryd.func4 (by kernel_rfl)
    (of_decide_eq_true (by kernel_rfl)) (by unfold Func.isWrapper; first | (rw [if_pos (by decide +kernel)]; kernel_rfl) | (rw [if_neg (by decide +kernel)]; exact ⟨rfl, rfl⟩))
    (fun os started H enc _ => twice_lifted os started H enc)
theorem twice_plain (f : FuncId) (fn : Func) (hf : Tryd.pinned.checked.prog.funcNamed "sortilege/sortilegelaw15.NnfTwice" = some f) (hfn : Tryd.pinned.checked.prog.funcs[f]? = some fn) :
    true = Tryd.pinned.checked.prog.looks [] ∧ ∀ (j : Nat) t, fn.params[j]? = some t → Tryd.pinned.checked.prog.wantsStandIn t = false := by
  obtain rfl : f = 4 := Option.some.inj ((show Tryd.prog.funcNamed "sortilege/sortilegelaw15.NnfTwice" = some 4 by kernel_rfl).symm.trans hf) |>.symm
  obtain rfl : fn = Tryd.f4 := (Option.some.inj (Tryd.func4.symm.trans hfn)).symm
  refine ⟨by kernel_rfl, fun j t ht => ?_⟩
  rw [Tryd.params4] at ht
  obtain rfl : t = 9 := by simpa using Array.mem_of_getElem? ht
  exact (show Tryd.prog.wantsStandIn 9 = false by kernel_rfl)
theorem twice_card : Rows.NnfTwiceCardSaid :=
  Claim7.holds_tied_plain_at .later [] _ _ _ _ twice_said (fun _ h => by cases h) (by kernel_rfl) (fun _ h => by cases h) nnfTwice_row_tie rfl ⟨rfl, rfl⟩ (by kernel_rfl) rfl twice_plain (by kernel_rfl)
#print axioms twice_card
end Go.Proofs.YtiefbkjoldcebaaDoor
