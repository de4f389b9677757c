/- The seat: the functions of the table are those of its program. Printed by wip/tools/chkgen.py. -/
import Derived.Test.YtiefbkjoldcebaaDoorXxFunc
import Derived.Test.YtiefbkjoldcebaaDoorXxT
import Derived.Test.YtiefbkjoldcebaaDoorProg
namespace Go.Abs
open Go.Proofs
def phi : List Nat := [7, 8, 9, 10, 11, 12, 3, 13, 4, 20, 21, 22, 23, 24, 25, 26, 27, 28, 29, 30, 31, 39, 40, 41, 43, 42, 45, 46, 47, 48, 49, 50, 51, 52, 57, 58, 59, 60, 61, 34, 66, 67, 44, 68, 72, 73, 78, 79, 80, 87, 88, 89, 90, 91, 92, 93, 94, 95, 108, 106, 107, 112, 113, 117]
def psi : List Nat := [77, 85, 116]
noncomputable def seat : Seat where
  P := Tryd.prog
  φ := fun n => phi.getD n 0
  ψ := fun n => psi.getD n 0
  mixed := by kernel_rfl
  G := fun k o => if k = 0 ∧ o = 0 then some (.iface 155 (.agg #[.pointer (some ⟨5, 28, none⟩)])) else none
theorem chk6 : checkF seat ir6 Tryd.f3 = true := by kernel_rfl
theorem chk8 : checkF seat ir8 Tryd.f4 = true := by kernel_rfl
theorem chk0 : checkF seat ir0 Tryd.f7 = true := by kernel_rfl
theorem chk1 : checkF seat ir1 Tryd.f8 = true := by kernel_rfl
theorem chk2 : checkF seat ir2 Tryd.f9 = true := by kernel_rfl
theorem chk3 : checkF seat ir3 Tryd.f10 = true := by kernel_rfl
theorem chk4 : checkF seat ir4 Tryd.f11 = true := by kernel_rfl
theorem chk5 : checkF seat ir5 Tryd.f12 = true := by kernel_rfl
theorem chk7 : checkF seat ir7 Tryd.f13 = true := by kernel_rfl
theorem chk9 : checkF seat ir9 Tryd.f20 = true := by kernel_rfl
theorem chk10 : checkF seat ir10 Tryd.f21 = true := by kernel_rfl
theorem chk11 : checkF seat ir11 Tryd.f22 = true := by kernel_rfl
theorem chk12 : checkF seat ir12 Tryd.f23 = true := by kernel_rfl
theorem chk13 : checkF seat ir13 Tryd.f24 = true := by kernel_rfl
theorem chk14 : checkF seat ir14 Tryd.f25 = true := by kernel_rfl
theorem chk15 : checkF seat ir15 Tryd.f26 = true := by kernel_rfl
theorem chk16 : checkF seat ir16 Tryd.f27 = true := by kernel_rfl
theorem chk17 : checkF seat ir17 Tryd.f28 = true := by kernel_rfl
theorem chk19 : checkF seat ir19 Tryd.f30 = true := by kernel_rfl
theorem chk20 : checkF seat ir20 Tryd.f31 = true := by kernel_rfl
theorem chk39 : checkF seat ir39 Tryd.f34 = true := by kernel_rfl
theorem chk21 : checkF seat ir21 Tryd.f39 = true := by kernel_rfl
theorem chk22 : checkF seat ir22 Tryd.f40 = true := by kernel_rfl
theorem chk23 : checkF seat ir23 Tryd.f41 = true := by kernel_rfl
theorem chk25 : checkF seat ir25 Tryd.f42 = true := by kernel_rfl
theorem chk24 : checkF seat ir24 Tryd.f43 = true := by kernel_rfl
theorem chk42 : checkF seat ir42 Tryd.f44 = true := by kernel_rfl
theorem chk26 : checkF seat ir26 Tryd.f45 = true := by kernel_rfl
theorem chk27 : checkF seat ir27 Tryd.f46 = true := by kernel_rfl
theorem chk28 : checkF seat ir28 Tryd.f47 = true := by kernel_rfl
theorem chk29 : checkF seat ir29 Tryd.f48 = true := by kernel_rfl
theorem chk30 : checkF seat ir30 Tryd.f49 = true := by kernel_rfl
theorem chk31 : checkF seat ir31 Tryd.f50 = true := by kernel_rfl
theorem chk32 : checkF seat ir32 Tryd.f51 = true := by kernel_rfl
theorem chk33 : checkF seat ir33 Tryd.f52 = true := by kernel_rfl
theorem chk34 : checkF seat ir34 Tryd.f57 = true := by kernel_rfl
theorem chk35 : checkF seat ir35 Tryd.f58 = true := by kernel_rfl
theorem chk36 : checkF seat ir36 Tryd.f59 = true := by kernel_rfl
theorem chk37 : checkF seat ir37 Tryd.f60 = true := by kernel_rfl
theorem chk38 : checkF seat ir38 Tryd.f61 = true := by kernel_rfl
theorem chk40 : checkF seat ir40 Tryd.f66 = true := by kernel_rfl
theorem chk41 : checkF seat ir41 Tryd.f67 = true := by kernel_rfl
theorem chk43 : checkF seat ir43 Tryd.f68 = true := by kernel_rfl
theorem chk44 : checkF seat ir44 Tryd.f72 = true := by kernel_rfl
theorem chk45 : checkF seat ir45 Tryd.f73 = true := by kernel_rfl
theorem chk46 : checkF seat ir46 Tryd.f78 = true := by kernel_rfl
theorem chk47 : checkF seat ir47 Tryd.f79 = true := by kernel_rfl
theorem chk48 : checkF seat ir48 Tryd.f80 = true := by kernel_rfl
theorem chk51 : checkF seat ir51 Tryd.f89 = true := by kernel_rfl
theorem chk52 : checkF seat ir52 Tryd.f90 = true := by kernel_rfl
theorem chk53 : checkF seat ir53 Tryd.f91 = true := by kernel_rfl
theorem chk54 : checkF seat ir54 Tryd.f92 = true := by kernel_rfl
theorem chk55 : checkF seat ir55 Tryd.f93 = true := by kernel_rfl
theorem chk56 : checkF seat ir56 Tryd.f94 = true := by kernel_rfl
theorem chk57 : checkF seat ir57 Tryd.f95 = true := by kernel_rfl
theorem chk49 : checkF seat ir49 Tryd.f87 = true := by kernel_rfl
theorem chk50 : checkF seat ir50 Tryd.f88 = true := by kernel_rfl
theorem chk59 : checkF seat ir59 Tryd.f106 = true := by kernel_rfl
theorem chk60 : checkF seat ir60 Tryd.f107 = true := by kernel_rfl
theorem chk58 : checkF seat ir58 Tryd.f108 = true := by kernel_rfl
theorem tab_ok : ∀ f ir, T f = some ir → ∃ fn, seat.P.funcs[seat.φ f]? = some fn ∧ checkF seat ir fn = true := by
  intro f ir h
  match f, h with
  | 0, h => injection h with h; subst h; exact ⟨Tryd.f7, Tryd.func7, chk0⟩
  | 1, h => injection h with h; subst h; exact ⟨Tryd.f8, Tryd.func8, chk1⟩
  | 2, h => injection h with h; subst h; exact ⟨Tryd.f9, Tryd.func9, chk2⟩
  | 3, h => injection h with h; subst h; exact ⟨Tryd.f10, Tryd.func10, chk3⟩
  | 4, h => injection h with h; subst h; exact ⟨Tryd.f11, Tryd.func11, chk4⟩
  | 5, h => injection h with h; subst h; exact ⟨Tryd.f12, Tryd.func12, chk5⟩
  | 6, h => injection h with h; subst h; exact ⟨Tryd.f3, Tryd.func3, chk6⟩
  | 7, h => injection h with h; subst h; exact ⟨Tryd.f13, Tryd.func13, chk7⟩
  | 8, h => injection h with h; subst h; exact ⟨Tryd.f4, Tryd.func4, chk8⟩
  | 9, h => injection h with h; subst h; exact ⟨Tryd.f20, Tryd.func20, chk9⟩
  | 10, h => injection h with h; subst h; exact ⟨Tryd.f21, Tryd.func21, chk10⟩
  | 11, h => injection h with h; subst h; exact ⟨Tryd.f22, Tryd.func22, chk11⟩
  | 12, h => injection h with h; subst h; exact ⟨Tryd.f23, Tryd.func23, chk12⟩
  | 13, h => injection h with h; subst h; exact ⟨Tryd.f24, Tryd.func24, chk13⟩
  | 14, h => injection h with h; subst h; exact ⟨Tryd.f25, Tryd.func25, chk14⟩
  | 15, h => injection h with h; subst h; exact ⟨Tryd.f26, Tryd.func26, chk15⟩
  | 16, h => injection h with h; subst h; exact ⟨Tryd.f27, Tryd.func27, chk16⟩
  | 17, h => injection h with h; subst h; exact ⟨Tryd.f28, Tryd.func28, chk17⟩
  | 18, h => cases h
  | 19, h => injection h with h; subst h; exact ⟨Tryd.f30, Tryd.func30, chk19⟩
  | 20, h => injection h with h; subst h; exact ⟨Tryd.f31, Tryd.func31, chk20⟩
  | 21, h => injection h with h; subst h; exact ⟨Tryd.f39, Tryd.func39, chk21⟩
  | 22, h => injection h with h; subst h; exact ⟨Tryd.f40, Tryd.func40, chk22⟩
  | 23, h => injection h with h; subst h; exact ⟨Tryd.f41, Tryd.func41, chk23⟩
  | 24, h => injection h with h; subst h; exact ⟨Tryd.f43, Tryd.func43, chk24⟩
  | 25, h => injection h with h; subst h; exact ⟨Tryd.f42, Tryd.func42, chk25⟩
  | 26, h => injection h with h; subst h; exact ⟨Tryd.f45, Tryd.func45, chk26⟩
  | 27, h => injection h with h; subst h; exact ⟨Tryd.f46, Tryd.func46, chk27⟩
  | 28, h => injection h with h; subst h; exact ⟨Tryd.f47, Tryd.func47, chk28⟩
  | 29, h => injection h with h; subst h; exact ⟨Tryd.f48, Tryd.func48, chk29⟩
  | 30, h => injection h with h; subst h; exact ⟨Tryd.f49, Tryd.func49, chk30⟩
  | 31, h => injection h with h; subst h; exact ⟨Tryd.f50, Tryd.func50, chk31⟩
  | 32, h => injection h with h; subst h; exact ⟨Tryd.f51, Tryd.func51, chk32⟩
  | 33, h => injection h with h; subst h; exact ⟨Tryd.f52, Tryd.func52, chk33⟩
  | 34, h => injection h with h; subst h; exact ⟨Tryd.f57, Tryd.func57, chk34⟩
  | 35, h => injection h with h; subst h; exact ⟨Tryd.f58, Tryd.func58, chk35⟩
  | 36, h => injection h with h; subst h; exact ⟨Tryd.f59, Tryd.func59, chk36⟩
  | 37, h => injection h with h; subst h; exact ⟨Tryd.f60, Tryd.func60, chk37⟩
  | 38, h => injection h with h; subst h; exact ⟨Tryd.f61, Tryd.func61, chk38⟩
  | 39, h => injection h with h; subst h; exact ⟨Tryd.f34, Tryd.func34, chk39⟩
  | 40, h => injection h with h; subst h; exact ⟨Tryd.f66, Tryd.func66, chk40⟩
  | 41, h => injection h with h; subst h; exact ⟨Tryd.f67, Tryd.func67, chk41⟩
  | 42, h => injection h with h; subst h; exact ⟨Tryd.f44, Tryd.func44, chk42⟩
  | 43, h => injection h with h; subst h; exact ⟨Tryd.f68, Tryd.func68, chk43⟩
  | 44, h => injection h with h; subst h; exact ⟨Tryd.f72, Tryd.func72, chk44⟩
  | 45, h => injection h with h; subst h; exact ⟨Tryd.f73, Tryd.func73, chk45⟩
  | 46, h => injection h with h; subst h; exact ⟨Tryd.f78, Tryd.func78, chk46⟩
  | 47, h => injection h with h; subst h; exact ⟨Tryd.f79, Tryd.func79, chk47⟩
  | 48, h => injection h with h; subst h; exact ⟨Tryd.f80, Tryd.func80, chk48⟩
  | 49, h => injection h with h; subst h; exact ⟨Tryd.f87, Tryd.func87, chk49⟩
  | 50, h => injection h with h; subst h; exact ⟨Tryd.f88, Tryd.func88, chk50⟩
  | 51, h => injection h with h; subst h; exact ⟨Tryd.f89, Tryd.func89, chk51⟩
  | 52, h => injection h with h; subst h; exact ⟨Tryd.f90, Tryd.func90, chk52⟩
  | 53, h => injection h with h; subst h; exact ⟨Tryd.f91, Tryd.func91, chk53⟩
  | 54, h => injection h with h; subst h; exact ⟨Tryd.f92, Tryd.func92, chk54⟩
  | 55, h => injection h with h; subst h; exact ⟨Tryd.f93, Tryd.func93, chk55⟩
  | 56, h => injection h with h; subst h; exact ⟨Tryd.f94, Tryd.func94, chk56⟩
  | 57, h => injection h with h; subst h; exact ⟨Tryd.f95, Tryd.func95, chk57⟩
  | 58, h => injection h with h; subst h; exact ⟨Tryd.f108, Tryd.func108, chk58⟩
  | 59, h => injection h with h; subst h; exact ⟨Tryd.f106, Tryd.func106, chk59⟩
  | 60, h => injection h with h; subst h; exact ⟨Tryd.f107, Tryd.func107, chk60⟩
  | n + 61, h => exact absurd h (by simp [T, tab])
end Go.Abs
