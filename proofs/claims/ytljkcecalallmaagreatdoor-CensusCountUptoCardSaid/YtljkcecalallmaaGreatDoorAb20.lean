/- The table of functions, out of the program itself. -/
import Derived.Test.YtljkcecalallmaaGreatDoorAb19
import Derived.KernelRfl
namespace Go.Ab
open Go

abbrev Intr := List AV → Heap → Option (AV × Heap)
/-- functions that are met by contracts of their own; all others are run -/
def tableOf (P : Program) (I : List (FuncId × Intr)) (f : FuncId) : Option Ent :=
  match I.lookup f with
  | some g => some (.intr g)
  | none => match P.funcs[f]? with
    | none => none
    | some fn => match compF P fn with
      | none => none
      | some m => bif fn.name == "runtime.NumGoroutine" then none else some (.fn m)

def SoundI (P : Program) (f : FuncId) (g : Intr) : Prop :=
  CallOK P f ∧ (∀ args h v h', g args h = some (v, h') → HMono h h') ∧
    ∀ args h v h', g args h = some (v, h') → ∀ ρ w (args' : Array Value), Match ρ h w → Free ρ h.sz h'.sz → VRs ρ args args'.toList → Calls P f args' w (Lands ρ h w v h')

theorem lookup_mem {I : List (FuncId × Intr)} {f : FuncId} {g : Intr} (h : I.lookup f = some g) : (f, g) ∈ I := by
  induction I with
  | nil => cases h
  | cons x xs ih =>
    obtain ⟨a, b⟩ := x
    simp only [List.lookup] at h
    split at h
    · rename_i e
      cases h
      have : f = a := by simpa using e
      subst this
      simp
    · exact List.mem_cons_of_mem _ (ih h)

theorem tableOf_sound {P : Program} {I : List (FuncId × Intr)} (hI : ∀ x ∈ I, SoundI P x.1 x.2) : SoundT P (tableOf P I) := by
  refine ⟨fun f m h => ?_, fun f g h => ?_⟩
  · unfold tableOf at h
    split at h
    · cases h
    · split at h
      · cases h
      · rename_i fn hf
        split at h
        · cases h
        · rename_i m' hm
          cases hb : (fn.name == "runtime.NumGoroutine") with
          | true => rw [hb] at h; cases h
          | false => rw [hb] at h; cases h; exact ⟨fn, hf, hm, hb⟩
  · unfold tableOf at h
    split at h
    · rename_i g' hg
      cases h
      exact hI _ (lookup_mem hg)
    · split at h
      · cases h
      · rename_i fn hf
        split at h
        · cases h
        · rename_i m' hm
          cases hb : (fn.name == "runtime.NumGoroutine") with
          | true => rw [hb] at h; cases h
          | false => rw [hb] at h; cases h

def repeatL (s : List UInt8) : Nat → List UInt8
  | 0 => []
  | n + 1 => s ++ repeatL s n
def iRepeat : Intr
  | [.str s, .int .i64 n], h => if 0 ≤ n ∧ n ≤ 9223372036854775807 ∧ s.length * n.toNat ≤ 140737488355328 then some (.str (repeatL s n.toNat), h) else none
  | _, _ => none
end Go.Ab
