/- A new disk lives: the run itself. -/
import Derived.Test.YtljkcecalallmaaGreatDoorR19
namespace Go.Ab.S19
open Go Go.Ab Go.Proofs
noncomputable def T1 : FuncId → Option Ent := tabK (trOf prog) [(84, iRepeat), (96, iSortedK 134), (19, memo (isInt 64) (.str marks64))]
theorem T1_sound : SoundT Tryz.prog T1 := tabK_sound good fun x hx => by
  rcases List.mem_cons.1 hx with rfl | hx
  · exact sRepeat
  rcases List.mem_cons.1 hx with rfl | hx
  · exact sSorted
  rcases List.mem_cons.1 hx with rfl | hx
  · exact sMarks
  · simp at hx
set_option maxRecDepth 1000000
theorem sLives : SoundI Tryz.prog 4 (memo isNil (.bool true)) :=
  SoundI.closed (lf := 2000) (n := 60) (ags := []) drawS T1_sound (CallOK.of g4) isNil_spec rfl rfl isTrue_spec (by kernel_rfl)
end Go.Ab.S19
