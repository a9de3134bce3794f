/- A new disk lives: the run. -/
import Derived.Test.YtljkcecalallmaaGreatDoorG19
import Derived.Test.YtljkcecalallmaaGreatDoorSo3
namespace Go.Ab.S19
open Go Go.Ab Go.Proofs
theorem mixed : Tryz.prog.follows .mixedOrders = true := by kernel_rfl
theorem drawS : DrawSound Tryz.prog := draw_sound mixed
theorem sRepeat : SoundI Tryz.prog 84 iRepeat := repeat_sound (CallOK.of g84) fun s c w h1 h2 => Tryz.strings_Repeat s c w h1 h2
theorem sSorted : SoundI Tryz.prog 96 (iSortedK 134) := sorted_sound (CallOK.of g96) sortedSpec3
noncomputable def T0 : FuncId → Option Ent := tabK (trOf prog) [(84, iRepeat), (96, iSortedK 134)]
theorem T0_sound : SoundT Tryz.prog T0 := tabK_sound good fun x hx => by
  rcases List.mem_cons.1 hx with rfl | hx
  · exact sRepeat
  rcases List.mem_cons.1 hx with rfl | hx
  · exact sSorted
  · simp at hx
def rep (n : Nat) (b : UInt8) (l : List UInt8) : List UInt8 := match n with | 0 => l | n + 1 => b :: rep n b l
def marks64 : List UInt8 := rep 6 255 (7 :: 0 :: rep 120 255 [])
set_option maxRecDepth 1000000
theorem sMarks : SoundI Tryz.prog 19 (memo (isInt 64) (.str marks64)) :=
  SoundI.closed (lf := 2000) (n := 10) (ags := [.int .i64 64]) drawS T0_sound (CallOK.of g19) (isInt_spec 64) rfl rfl (isStr_spec marks64) (by kernel_rfl)
end Go.Ab.S19
