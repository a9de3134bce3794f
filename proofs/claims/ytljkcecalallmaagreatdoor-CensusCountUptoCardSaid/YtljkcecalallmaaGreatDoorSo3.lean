/- slices.Sorted(maps.Keys(m)) at this dump. -/
import Derived.Test.YtljkcecalallmaaGreatDoorAb31
import Derived.Test.YtljkcecalallmaaGreatDoorSh3
namespace Go.Proofs
open Go.RowKit Go.Maps Go.Sort Go.Shelf
theorem Tryz.sortsA (m : Nat) : AnyZI.SortsIn Tryz.prog Tryz.sortedA_ren Fence.wide m :=
  ⟨fun blk off cap ss W hH hblk hsz => callsIn_wide.2 (AnyM.slices_Sort_int Tryz.sortA blk off cap ss W hH hblk hsz),
   fun p cap W => callsIn_wide.2 (AnyM.slices_Sort_int_none Tryz.sortA p cap W)⟩
end Go.Proofs
namespace Go.Ab
open Go Go.Proofs Go.RowKit Go.Maps Go.Sort Go.Shelf Go.WideElems
theorem sortedSpec3 : SortedSpec Tryz.prog 96 134 3 := by
  intro w Bm b es clock E fz ks hBm hb hg
  have hBlt : Bm < w.heap.size := lt_of_some hBm
  have hbl : b < w.heap.size := lt_of_some hb
  have u3 : Tryz.prog.underlying 3 = some (.int .i64) := by kernel_rfl
  let R : Value → Option (DataW Unit × List MemPlace) := fun _ => some (.nil, [])
  have hkey : ∀ x ∈ es.toList, ∃ n, x.key = .int .i64 n ∧ (Lit.int .i64 n).wf = true := by
    intro x hx
    have : x.key ∈ es.toList.map (·.key) := List.mem_map.2 ⟨x, hx, rfl⟩
    rw [hg.keys] at this
    obtain ⟨n, hn, e⟩ := List.mem_map.1 this
    exact ⟨n, e.symm, hg.rng n hn⟩
  have hrd : ∀ x ∈ es.toList, ∀ n, x.key = .int .i64 n → rd Tryz.prog 3 R x = some (.int .i64 n, .nil) := by
    intro x hx n e
    obtain ⟨n', e', hw⟩ := hkey x hx
    rw [e] at e'
    cases e'
    show WideElems.rd Tryz.prog 3 R x = _
    unfold WideElems.rd
    rw [e, keyOf_int_mk u3 hw]
    rfl
  have hown : w.ownsMap Tryz.prog 3 R b es.size (.map ((es.toList.map (rg Tryz.prog 3 R)).foldr DataW.insert [])) := by
    refine ⟨es, clock, hb, ⟨by have := hg.size; unfold maxLen; omega, ⟨hg.born, hg.nodB, hg.nodK⟩, fun x hx => ?_⟩, Nat.le_refl _, rfl⟩
    obtain ⟨n, e, hw⟩ := hkey x hx
    exact ⟨_, hrd x hx n e⟩
  have hsz : Maps.size (DataW.map ((es.toList.map (rg Tryz.prog 3 R)).foldr DataW.insert [])) = es.size := by simp [Maps.size, length_sorted]
  have hperm : (intKeys (DataW.map ((es.toList.map (rg Tryz.prog 3 R)).foldr DataW.insert []))).Perm ks := by
    unfold intKeys
    refine ((WideShapes.sorted_perm _).map _).trans ?_
    rw [List.map_map]
    have : es.toList.map ((fun p => intOf p.1) ∘ rg Tryz.prog 3 R) = (es.toList.map (·.key)).map (fun v => match v with | .int _ n => n | _ => 0) := by
      rw [List.map_map]
      apply List.map_congr_left
      intro x hx
      obtain ⟨n, e, hw⟩ := hkey x hx
      simp only [Function.comp_apply, rg, hrd x hx n e, e]
      rfl
    rw [this, hg.keys, List.map_map]
    have : ks.map ((fun v => match v with | Value.int _ n => n | _ => 0) ∘ Value.int .i64) = ks := by
      conv => rhs; rw [← List.map_id ks]
      rfl
    rw [this]
  refine (callsIn_wide (n := 5)).1 ?_
  have hseq : SeqGives Fence.wide 2 Tryz.prog 134 #[.pointer (some ⟨Bm, 0, none⟩)] encZ (fun ss => ss.Perm (intKeys (DataW.map ((es.toList.map (rg Tryz.prog 3 R)).foldr DataW.insert [])))) (Maps.size (DataW.map ((es.toList.map (rg Tryz.prog 3 R)).foldr DataW.insert []))) w :=
    AnyZI.keys_gives (ρ := Tryz.keysA_ren) { Tryz.keysA with } Fence.wide _ trivial rfl (by omega) Bm b es.size _ _ hBlt (by simp [World.cell?, hBm]) hown
  have cS := AnyZI.sorted_in Tryz.sortedA Fence.wide 5 trivial trivial trivial trivial rfl (by omega) (Tryz.sortsA _) (enters_of Tryz.func133 (by kernel_rfl) rfl) 134 #[.pointer (some ⟨Bm, 0, none⟩)] trivial (enters_of Tryz.func134 (by kernel_rfl) rfl) _ _
    (by rw [hsz]; have := hg.size; unfold maxLen; omega) (by rw [hsz]; have := hg.size; omega) _ hseq
  change CallsIn _ _ Tryz.prog 96 _ _ _ at cS
  refine cS.mono ?_
  rintro e w' ⟨v, ss, rfl, hS, hrow, hnil, hb⟩
  exact ⟨v, ss, rfl, hS.trans hperm, hrow, hnil, hb⟩
end Go.Ab
