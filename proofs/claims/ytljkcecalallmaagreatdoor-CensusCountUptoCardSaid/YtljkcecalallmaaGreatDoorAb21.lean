/- Functions of the library by contracts: strings.Repeat. -/
import Derived.Test.YtljkcecalallmaaGreatDoorAb20
import Derived.Lib.Repeat
import Derived.Below
namespace Go.Ab
open Go Go.RowKit

theorem Sim.below {ρ : Rn} {h : Heap} {w w' : World} (m : Match ρ h w) (b : Below w.heap.size w w') : Sim ρ h w ρ h w' :=
  ⟨Rn.le_refl ρ, (fun i x h1 h2 => by rw [h2] at h1; cases h1), (fun i b o n h1 h2 => by rw [h2] at h1; cases h1),
    ⟨fun i k o n h1 x h2 => (m.objs i k o n h1 x h2).block (b.block k (m.blk i k o n h1)), fun i k o n h1 => Nat.lt_of_lt_of_le (m.blk i k o n h1) b.size, m.inj, m.fresh⟩,
    fun k h1 _ => b.block k h1, b.size, Nat.le_refl _, fun _ _ _ h => h, b.os, b.tape, b.output⟩

theorem repeatL_eq (l : List UInt8) : ∀ n, repeatL l n = Lib.repeatL l n
  | 0 => rfl
  | n + 1 => by rw [repeatL, repeatL_eq l n]; rfl

theorem repeat_sound {P : Program} {f : FuncId} (hok : CallOK P f)
    (hc : ∀ (s : ByteArray) (c : Nat) (w : World), c ≤ 9223372036854775807 → s.size * c ≤ 140737488355328 → Calls P f #[.string s, .int .i64 c] w fun e w' => e = .returned (.string ⟨(Lib.repeatL s.data.toList c).toArray⟩) ∧ Below w.heap.size w w') :
    SoundI P f iRepeat := by
  refine ⟨hok, fun args h v h' hs => ?_, fun args h v h' hs ρ w args' mt fr ha => ?_⟩
  · unfold iRepeat at hs
    split at hs
    · split at hs
      · cases hs; exact .refl _
      · cases hs
    · cases hs
  · unfold iRepeat at hs
    split at hs
    · rename_i s n
      split at hs
      · rename_i hn
        cases hs
        obtain ⟨u, us, e1, r1, r2⟩ := ha
        obtain ⟨u2, us2, e2, r3, r4⟩ := r2
        simp only [VRs] at r4
        simp only [VR] at r1 r3
        subst r1 r3 r4 e2
        have hargs : args' = #[.string ⟨⟨s⟩⟩, .int .i64 n] := by cases args'; simp_all
        subst hargs
        have hcast : (n.toNat : Int) = n := Int.toNat_of_nonneg hn.1
        have := hc ⟨⟨s⟩⟩ n.toNat w (by have := hn.2.1; omega) (by show s.toArray.size * _ ≤ _; simp; have := hn.2.2; omega)
        rw [hcast] at this
        refine this.mono ?_
        rintro e w' ⟨rfl, hb⟩
        exact ⟨_, ρ, rfl, by simp [VR, repeatL_eq], Sim.below mt hb⟩
      · cases hs
    · cases hs
end Go.Ab
