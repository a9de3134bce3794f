/- What the operations of memory do to a world that matches. -/
import Derived.Test.YtljkcecalallmaaGreatDoorAb1
import Derived.Laws.IdiomCopy
import Derived.ChangeKeysEq
namespace Go.Ab
open Go

theorem addr_add (b o i : Nat) : (⟨b, o, none⟩ : Addr).add i = ⟨b, o + i, none⟩ := by
  unfold Addr.add; split
  · rename_i h; subst h; rfl
  · rfl

theorem setCells_heap (b : Nat) : ∀ (vs : List Value) (o : Nat) (w : World) (c : Array Value) (E : TypeId) (fz : Nat × Nat), w.heap[b]? = some (.cells c E fz) → o + vs.length ≤ c.size →
    ∃ c2, (w.setCells b o vs).heap[b]? = some (.cells c2 E fz) ∧ c2.size = c.size ∧ ∀ p, c2[p]? = if o ≤ p ∧ p < o + vs.length then vs[p - o]? else c[p]?
  | [], o, w, c, E, fz, h, _ => ⟨c, h, rfl, fun p => by rw [if_neg (by simp only [List.length_nil]; omega)]⟩
  | v :: r, o, w, c, E, fz, h, hl => by
    have h1 : (w.setCell ⟨b, o, none⟩ v).heap[b]? = some (.cells (c.setIfInBounds o v) E fz) := by
      simp only [World.setCell, Array.getElem?_modify, if_true, h, Option.map_some]; rfl
    obtain ⟨c2, g1, g2, g3⟩ := setCells_heap b r (o + 1) (w.setCell ⟨b, o, none⟩ v) _ E fz h1 (by simp at hl ⊢; omega)
    refine ⟨c2, g1, by simpa using g2, fun p => ?_⟩
    rw [g3 p, Array.getElem?_setIfInBounds]
    simp only [List.length_cons] at hl ⊢
    by_cases e1 : o + 1 ≤ p ∧ p < o + 1 + r.length
    · rw [if_pos e1, if_pos (by omega), show p - o = (p - (o + 1)) + 1 by omega]; rfl
    · rw [if_neg e1]
      by_cases e2 : o = p
      · subst e2; rw [if_pos rfl, if_pos (by omega), if_pos (by omega)]; simp
      · rw [if_neg e2, if_neg (by omega)]
theorem setCells_other (b : Nat) : ∀ (vs : List Value) (o : Nat) (w : World) (k : Nat), k ≠ b → (w.setCells b o vs).heap[k]? = w.heap[k]?
  | [], _, _, _, _ => rfl
  | v :: r, o, w, k, h => by
    show ((w.setCell ⟨b, o, none⟩ v).setCells b (o + 1) r).heap[k]? = _
    rw [setCells_other b r (o + 1) _ k h]
    simp only [World.setCell, Array.getElem?_modify]
    rw [if_neg (Ne.symm h)]
theorem setCells_size (b : Nat) : ∀ (vs : List Value) (o : Nat) (w : World), (w.setCells b o vs).heap.size = w.heap.size
  | [], _, _ => rfl
  | v :: r, o, w => by
    show ((w.setCell ⟨b, o, none⟩ v).setCells b (o + 1) r).heap.size = _
    rw [setCells_size b r (o + 1) _]; simp
theorem setCells_rest (b : Nat) : ∀ (vs : List Value) (o : Nat) (w : World), (w.setCells b o vs).os = w.os ∧ (w.setCells b o vs).tape = w.tape ∧ (w.setCells b o vs).output = w.output
  | [], _, _ => ⟨rfl, rfl, rfl⟩
  | v :: r, o, w => by
    show ((w.setCell ⟨b, o, none⟩ v).setCells b (o + 1) r).os = _ ∧ _
    have := setCells_rest b r (o + 1) (w.setCell ⟨b, o, none⟩ v)
    exact this

section
variable {P : Program}

theorem load1_cell {ρ : Rn} {h : Heap} {w : World} (m : Match ρ h w) {i b o n k : Nat} (hi : ρ i = some (b, o, n)) {a : AV} (hl : h.load1 i k = some a) :
    ∃ v, w.cell? ⟨b, o + k, none⟩ = some v ∧ VR ρ a v := by
  unfold Heap.load1 at hl
  split at hl
  · rename_i c e ro hg
    obtain ⟨c', E, fz, h1, _, _, _, h5⟩ := m.objs i b o n hi _ hg
    obtain ⟨v, hv, hr⟩ := h5 k a hl
    exact ⟨v, by simp [World.cell?, h1, hv], hr⟩
  · cases hl

theorem loadN_spec {h : Heap} {i k n : Nat} {cs : List AV} (hl : h.loadN i k n = some cs) : cs.length = n ∧ ∀ j a, cs[j]? = some a → h.load1 i (k + j) = some a := by
  unfold Heap.loadN at hl
  unfold Heap.load1
  split at hl
  · rename_i c e ro hg
    cases hb : Nat.ble (k + n) c.length with
    | false => rw [hb] at hl; cases hl
    | true =>
      rw [hb] at hl
      simp only [cond_true, Option.some.injEq] at hl
      have hb' := Nat.le_of_ble_eq_true hb
      subst hl
      refine ⟨by simp; omega, fun j a hj => ?_⟩
      rw [List.getElem?_take] at hj
      split at hj
      · rwa [List.getElem?_drop] at hj
      · cases hj
  · cases hl

theorem loadN_cells {ρ : Rn} {h : Heap} {w : World} (m : Match ρ h w) {i b o n k len : Nat} (hi : ρ i = some (b, o, n)) {cs : List AV} (hl : h.loadN i k len = some cs) :
    ∃ vs : List Value, VRs ρ cs vs ∧ vs.length = len ∧ ∀ j v, vs[j]? = some v → w.cell? ⟨b, o + k + j, none⟩ = some v := by
  obtain ⟨h1, h2⟩ := loadN_spec hl
  have key : ∀ (j : Nat), j < len → ∃ v a, cs[j]? = some a ∧ w.cell? ⟨b, o + k + j, none⟩ = some v ∧ VR ρ a v := by
    intro j hj
    have hj' : j < cs.length := by omega
    obtain ⟨v, hv, hr⟩ := load1_cell m hi (h2 j cs[j] (List.getElem?_eq_getElem hj'))
    exact ⟨v, cs[j], List.getElem?_eq_getElem hj', by rw [show o + k + j = o + (k + j) by omega]; exact hv, hr⟩
  refine ⟨(List.range len).map fun j => (w.cell? ⟨b, o + k + j, none⟩).getD default, VRs.of_get (by simp [h1]) ?_, by simp, ?_⟩
  · intro j a v ha hv
    have hj : j < len := by
      have := (List.getElem?_eq_some_iff.1 ha).1
      omega
    obtain ⟨v', a', e1, e2, e3⟩ := key j hj
    rw [ha] at e1
    cases e1
    simp only [List.getElem?_map, List.getElem?_range hj, Option.map_some, e2, Option.getD_some, Option.some.injEq] at hv
    subst hv
    exact e3
  · intro j v hv
    have hj : j < len := by
      have := (List.getElem?_eq_some_iff.1 hv).1
      simpa using this
    obtain ⟨v', a', e1, e2, e3⟩ := key j hj
    simp only [List.getElem?_map, List.getElem?_range hj, Option.map_some, e2, Option.getD_some, Option.some.injEq] at hv
    subst hv
    exact e2

theorem run_loadCells_rel {ρ : Rn} {h : Heap} {w : World} (m : Match ρ h w) {i b o n k len : Nat} (hi : ρ i = some (b, o, n)) {cs : List AV} (hl : h.loadN i k len = some cs) :
    ∃ vs : Array Value, VRs ρ cs vs.toList ∧ vs.size = len ∧ (loadCells ⟨b, o + k, none⟩ len).run P w = .ok vs w := by
  obtain ⟨vs, h1, h2, h3⟩ := loadN_cells m hi hl
  refine ⟨vs.toArray, by simpa using h1, by simpa using h2, ?_⟩
  rw [← h2]
  refine run_loadCells_list w _ vs fun j v hv => ?_
  rw [addr_add]
  exact h3 j v hv

theorem storeN_sim {ρ : Rn} {h h' : Heap} {w : World} (m : Match ρ h w) {i b o n k : Nat} (hi : ρ i = some (b, o, n)) {vs : List AV} {vs' : List Value} (hr : VRs ρ vs vs')
    (hs : h.storeN i k vs = some h') :
    (storeCells ⟨b, o + k, none⟩ vs').run P w = .ok () (w.setCells b (o + k) vs') ∧ Sim ρ h w ρ h' (w.setCells b (o + k) vs') := by
  unfold Heap.storeN at hs
  split at hs
  · rename_i c e hg
    cases hb : (Nat.ble (k + vs.length) c.length && vs.all AV.one) with
    | false => rw [hb] at hs; cases hs
    | true =>
      rw [hb] at hs
      simp only [cond_true, Option.some.injEq] at hs
      subst hs
      rw [Bool.and_eq_true] at hb
      obtain ⟨hb, hone⟩ := hb
      have hb' := Nat.le_of_ble_eq_true hb
      have hlen := hr.length
      obtain ⟨c', E, fz, h1, h2, h3, h4, h5⟩ := m.objs i b o n hi _ hg
      have hsz : o + k + vs'.length ≤ c'.size := by omega
      obtain ⟨c2, g1, g2, g3⟩ := setCells_heap b vs' (o + k) w c' E fz h1 hsz
      obtain ⟨r1, r2, r3⟩ := setCells_rest b vs' (o + k) w
      constructor
      · have := run_storeCells_cells (P := P) b (o + k) vs' 0 w (fun j hj => by
            simp only [World.cell?, h1]
            have : o + k + j < c'.size := by omega
            simp [this]) (fun j hj => by
            simp only [World.frozen?, h1]
            have := h4 rfl (o + k + 0 + j) (by omega)
            simp only [Bool.and_eq_false_iff, decide_eq_false_iff_not]
            omega) (fun v hv => by
            obtain ⟨j, hj, rfl⟩ := List.mem_iff_getElem.1 hv
            have hj' : j < vs.length := by omega
            obtain ⟨u, hu, hru⟩ := hr.get (List.getElem?_eq_getElem hj')
            rw [List.getElem?_eq_getElem hj] at hu
            cases hu
            exact hru.one (List.all_eq_true.1 hone _ (List.getElem_mem hj')))
        simpa using this
      · refine Sim.set m hi hg trivial (fun c hc => setCells_other b vs' (o + k) w c hc) (setCells_size b vs' (o + k) w) r1 r2 r3 ?_
        refine ⟨c2, E, fz, g1, by omega, by simp; omega, h4, fun j a hj => ?_⟩
        rw [g3 (o + j)]
        by_cases e : k ≤ j ∧ j < k + vs.length
        · rw [if_pos (by omega)]
          rw [List.append_assoc, List.getElem?_append_right (by simp; omega), List.getElem?_append_left (by simp; omega)] at hj
          obtain ⟨v, hv, hrv⟩ := hr.get hj
          refine ⟨v, ?_, hrv⟩
          rw [← hv]
          congr 1
          simp
          omega
        · rw [if_neg (by omega)]
          refine h5 j a ?_
          rw [← hj]
          by_cases e2 : j < k
          · rw [List.append_assoc, List.getElem?_append_left (by simp; omega), List.getElem?_take, if_pos e2]
          · rw [List.getElem?_append_right (by simp; omega), List.getElem?_drop]
            congr 1
            simp
            omega
  · cases hs

/-- A new row of cells. -/
theorem newRow_sim {ρ : Rn} {h : Heap} {w : World} (m : Match ρ h w) (f : Free ρ h.sz (h.sz + 1)) {cs : List AV} {e : TypeId} {c' : Array Value} {more : List Value} {E : TypeId}
    (hc : ∃ l, c'.toList = l ++ more ∧ VRs ρ cs l) :
    Sim ρ h w (upd ρ h.sz (w.heap.size, 0, c'.size)) (h.alloc (.cells cs e false)) { w with heap := w.heap.push (.cells c' E) } := by
  obtain ⟨l, h1, h2⟩ := hc
  have hl := h2.length
  have hsz : c'.size = l.length + more.length := by rw [← Array.length_toList, h1, List.length_append]
  have f0 : ρ h.sz = none := f _ (Nat.le_refl _) (Nat.lt_succ_self _)
  refine Sim.alloc m f _ _ _ fun w' hw' => ⟨c', E, (0, 0), hw', rfl, by omega, fun _ p _ => by simp, fun k a hk => ?_⟩
  obtain ⟨v, hv, hr⟩ := h2.get hk
  refine ⟨v, ?_, hr.mono (upd_le f0)⟩
  rw [Nat.zero_add, ← Array.getElem?_toList, h1, List.getElem?_append_left (List.getElem?_eq_some_iff.1 hv).1]
  exact hv
end
end Go.Ab
