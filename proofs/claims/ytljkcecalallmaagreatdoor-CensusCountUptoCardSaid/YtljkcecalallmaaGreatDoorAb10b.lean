/- Iterators over strings and maps. -/
import Derived.Test.YtljkcecalallmaaGreatDoorAb10
import Derived.Laws.RangeString
namespace Go.Ab
open Go
section
variable {P : Program} {nt : Nat}

theorem s_rangeS {t : TypeId} {x : Operand} {y : Opd} (hy : copd nt x = some y) (hu : P.underlying t = some .string) : OpS P nt (.range t x) (.rangeS y) := by
  intro env h v h' ρ a w hm he mt fr
  simp only [opA] at hm
  split at hm
  · rename_i s hs
    cases hm
    have rx := opd_rel he hy
    rw [hs] at rx
    simp only [VR] at rx
    refine ⟨.pointer (some ⟨w.heap.size, 0, none⟩), { w with heap := w.heap.push (.stringIter ⟨⟨s⟩⟩ 0) }, _, .inl fun o' ho => ?_, ⟨_, 0, 0, upd_self _ _ _, rfl⟩, Sim.alloc mt fr _ (.stringIter ⟨⟨s⟩⟩ 0) 0 fun w' hw' => ⟨hw', rfl⟩, noq (Nat.le_succ 2)⟩
    simp only [execOp, ho, rx, Sem.run_bind, run_range_string w t ⟨⟨s⟩⟩ hu, Result.andThen_ok, Sem.run_pure]
    rfl
  · cases hm

theorem s_rangeM {t k e : TypeId} {x : Operand} {y : Opd} (hy : copd nt x = some y) (hu : P.underlying t = some (.map k e)) : OpS P nt (.range t x) (.rangeM y) := by
  intro env h v h' ρ a w hm he mt fr
  simp only [opA] at hm
  split at hm
  · rename_i i hs
    split at hm
    · rename_i es clock hg
      cases hm
      have rx := opd_rel he hy
      rw [hs] at rx
      simp only [VR] at rx
      obtain ⟨b, n, p1, rx⟩ := rx
      obtain ⟨es', q1, q2⟩ := map_at mt p1 hg
      refine ⟨.pointer (some ⟨w.heap.size, 0, none⟩), { w with heap := w.heap.push (.mapIter (some b) clock #[] clock) }, _, .inl fun o' ho => ?_, ⟨_, 0, 0, upd_self _ _ _, rfl⟩, Sim.alloc mt fr _ (.mapIter (some b) clock #[] clock) 0 fun w' hw' => ⟨⟨b, n, clock, #[], clock, ?_, hw'⟩, rfl⟩, noq (Nat.le_succ 2)⟩
      · simp [execOp, ho, rx, Instr.range, run_ul hu, run_getMap q1]
      · rw [upd_ne]
        · exact p1
        · intro e0
          have := mt.fresh i (by omega)
          rw [this] at hg
          cases hg
    · cases hm
  · cases hm

theorem run_getIter {w : World} {b : Nat} {o : Obj} (h : w.heap[b]? = some o) (hk : (∃ s p, o = .stringIter s p) ∨ ∃ m a c d, o = .mapIter m a c d) : (getObj b).run P w = .ok o w := by
  rcases hk with ⟨s, p, rfl⟩ | ⟨m, a, c, d, rfl⟩ <;> simp [getObj, Sem.run, h]

theorem s_nextS {x : Operand} {y : Opd} (hy : copd nt x = some y) : OpS P nt (.next x true) (.nextS y) := by
  intro env h v h' ρ a w hm he mt fr
  simp only [opA] at hm
  split at hm
  · rename_i i hs
    have rx := opd_rel he hy
    rw [hs] at rx
    simp only [VR] at rx
    obtain ⟨b, o, n, p1, rx⟩ := rx
    split at hm
    · rename_i s pos hg
      obtain ⟨q1, rfl⟩ := mt.objs i b o n p1 _ hg
      split at hm
      · rename_i c hc
        cases hb : Nat.blt c.toNat 128 with
        | false => rw [hb] at hm; cases hm
        | true =>
          rw [hb] at hm
          cases hm
          have hlt : c.toNat < 128 := Nat.le_of_ble_eq_true hb
          have hpos : pos < (⟨⟨s⟩⟩ : ByteArray).size := by
            have := (List.getElem?_eq_some_iff.1 hc).1
            simpa [ByteArray.size] using this
          have hget : (⟨⟨s⟩⟩ : ByteArray)[pos]'hpos = c := by
            have := (List.getElem?_eq_some_iff.1 hc).2
            show (⟨s⟩ : Array UInt8)[pos]'_ = c
            simpa using this
          have hd := decode_ascii ⟨⟨s⟩⟩ pos hpos (by rw [hget]; exact hlt)
          rw [hget] at hd
          refine ⟨.tuple #[.bool true, goInt pos, .int .i32 c.toNat], { w with heap := w.heap.setIfInBounds b (.stringIter ⟨⟨s⟩⟩ (pos + 1)) }, ρ, .inl fun o' ho => ?_,
            ⟨_, rfl, VRs.cons rfl (VRs.cons rfl (VRs.cons rfl VRs.nil))⟩, Sim.set mt p1 hg trivial (fun c hc => heap_set_ne hc _) (by simp) rfl rfl rfl ⟨heap_set_self q1 _, rfl⟩, noq (Nat.le_succ 2)⟩
          have hset : (setObj b (.stringIter ⟨⟨s⟩⟩ (pos + 1))).run P w = .ok () { w with heap := w.heap.setIfInBounds b (.stringIter ⟨⟨s⟩⟩ (pos + 1)) } := by simp [setObj, Sem.run, q1]
          simp only [execOp, ho, rx, Instr.next, Sem.run_bind, run_getIter (P := P) q1 (.inl ⟨_, _, rfl⟩), Result.andThen_ok, hpos, if_true, hd, hset]
          simp
      · rename_i hc
        cases hm
        have hpos : ¬ pos < (⟨⟨s⟩⟩ : ByteArray).size := by
          have := List.getElem?_eq_none_iff.1 hc
          simpa [ByteArray.size] using this
        refine ⟨.tuple #[.bool false], w, ρ, .inl fun o' ho => ?_, ⟨_, rfl, VRs.cons rfl VRs.nil⟩, Sim.refl mt, fun _ => ⟨rfl, rfl⟩⟩
        simp only [execOp, ho, rx, Instr.next, Sem.run_bind, run_getIter (P := P) q1 (.inl ⟨_, _, rfl⟩), Result.andThen_ok, hpos, if_false]
        simp
    · cases hm
  · cases hm

theorem s_nextM {x : Operand} {y : Opd} (hy : copd nt x = some y) : OpS P nt (.next x false) (.nextM y) := by
  intro env h v h' ρ a w hm he mt fr
  simp only [opA] at hm
  split at hm
  · rename_i i hs
    have rx := opd_rel he hy
    rw [hs] at rx
    simp only [VR] at rx
    obtain ⟨b, o, n, p1, rx⟩ := rx
    split at hm
    · rename_i m hg
      obtain ⟨⟨bm, nm, since, seen, last, g1, q1⟩, rfl⟩ := mt.objs i b o n p1 _ hg
      split at hm
      · rename_i clock hgm
        cases hm
        obtain ⟨es', r1, r2⟩ := map_at mt g1 hgm
        have hes : es' = #[] := by
          have := r2.1
          simp only [List.length_nil] at this
          exact Array.eq_empty_of_size_eq_zero (by simpa using this.symm)
        subst hes
        refine ⟨.tuple #[.bool false], w, ρ, .inl fun o' ho => ?_, ⟨_, rfl, VRs.cons rfl VRs.nil⟩, Sim.refl mt, fun _ => ⟨rfl, rfl⟩⟩
        have ft : ∀ p : MapEntry → Bool, Array.filter p #[] = #[] := fun _ => rfl
        simp only [execOp, ho, rx, Instr.next, Sem.run_bind, run_getIter (P := P) q1 (.inr ⟨_, _, _, _, rfl⟩), run_getMap (P := P) r1, Result.andThen_ok, ft]
        simp [Sem.run, Question.forced, choose]
      · cases hm
    · cases hm
  · cases hm
end
end Go.Ab
