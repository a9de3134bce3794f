/- Each operation of the mini-machine is the model's (2: comparisons, numbers, strings). -/
import Derived.Test.YtljkcecalallmaaGreatDoorAb4
import Derived.Laws.StructEq
import Derived.ChangeKeysEq
namespace Go.Ab
open Go
section
variable {P : Program} {nt : Nat}

theorem str_toList (l : List UInt8) : (⟨⟨l⟩⟩ : ByteArray).toList = l := by rw [ByteArray.toList_eq]
theorem str_size (l : List UInt8) : (⟨⟨l⟩⟩ : ByteArray).size = l.length := rfl
theorem str_append (a b : List UInt8) : (⟨⟨a⟩⟩ : ByteArray) ++ ⟨⟨b⟩⟩ = ⟨⟨a ++ b⟩⟩ := by
  apply ByteArray.ext
  rw [ByteArray.data_append]
  simp

theorem eqGuard_none (op : BinOp) (t : TypeId) (x y : Operand) (a b : Value) (w : World) (h1 : a ≠ .nilIface) (h2 : ∀ cs ds, a = .agg cs → b = .agg ds → P.eqGuardType P.depth t = false) :
    (eqGuard op t x y a b).run P w = .ok () w := by
  cases a with
  | nilIface => exact (h1 rfl).elim
  | agg cs =>
    cases b with
    | agg ds => exact run_eqGuard_agg w op t x y cs ds (h2 cs ds rfl rfl)
    | _ => cases op <;> rfl
  | _ => cases op <;> rfl

theorem run_scEqK {ρ : Rn} {k : Nat} {x y : AV} {r : Bool} (h : scEqK k x y = some r) {x' y' : Value} (hx : VR ρ x x') (hy : VR ρ y y') {t : TypeId} (ht : scalarK P t = some k) (d : Nat) (w : World) :
    (Op.equalIn (d + 1) t x' y').run P w = .ok r w := by
  unfold scEqK at h
  split at h
  · rename_i k1 a k2 b
    simp only [VR] at hx hy
    subst hx hy
    split at h
    · rename_i e
      subst e
      cases h
      unfold scalarK at ht
      split at ht <;> cases ht
      rename_i hu
      exact run_equalIn_int w d t _ _ a b hu
    · cases h
  · rename_i a b
    simp only [VR] at hx hy
    subst hx hy
    cases h
    unfold scalarK at ht
    split at ht <;> cases ht
    rename_i hu
    rw [run_equalIn_string w d t _ _ hu, str_toList, str_toList]
  · rename_i a b
    simp only [VR] at hx hy
    subst hx hy
    cases h
    unfold scalarK at ht
    split at ht <;> cases ht
    rename_i hu
    exact run_equalIn_bool' w d t a b hu
  · cases h

theorem run_part1 {t : TypeId} {q : Nat} (h : scalarK P t = some q) (cs : Array Value) (o : Nat) (v : Value) (hv : cs[o]? = some v) (w : World) : (part t cs o).run P w = .ok v w := by
  have : (isAgg t).run P w = .ok false w := by
    unfold scalarK at h
    split at h
    · rename_i hu; simp [isAgg, run_ul hu]
    · rename_i hu; simp [isAgg, run_ul hu]
    · rename_i hu; simp [isAgg, run_ul hu]
    · cases h
  simp [part, this, hv]

theorem run_eqFields {ρ : Rn} (d : Nat) (w : World) (cs ds : Array Value) : ∀ (fs : List Field) (k : Nat) (ks : List Nat) (xs ys : List AV) (r : Bool), flatFields P k fs = some ks → scsEq ks xs ys = some r →
    (∀ i a, xs[i]? = some a → ∃ v, cs[k + i]? = some v ∧ VR ρ a v) → (∀ i a, ys[i]? = some a → ∃ v, ds[k + i]? = some v ∧ VR ρ a v) →
    (Op.eqFields (d + 1) cs ds fs).run P w = .ok r w
  | [], k, ks, xs, ys, r, hf, hs, hx, hy => by
    simp only [flatFields, Option.some.injEq] at hf
    subst hf
    cases xs <;> cases ys <;> simp only [scsEq, reduceCtorEq, Option.some.injEq] at hs
    subst hs
    simp [Op.eqFields]
  | f :: fs, k, ks, xs, ys, r, hf, hs, hx, hy => by
    simp only [flatFields] at hf
    cases hb : (f.offset == k && f.name != "_") with
    | false => rw [hb] at hf; cases hf
    | true =>
      rw [hb] at hf
      simp only [cond_true] at hf
      split at hf
      · rename_i q ks' h1 h2 h3
        simp only [Option.some.injEq] at hf
        subst hf
        rw [Bool.and_eq_true] at hb
        obtain ⟨b1, b2⟩ := hb
        have b1 : f.offset = k := by simpa using b1
        have b2 : f.name ≠ "_" := by simpa using b2
        cases xs with
        | nil => simp [scsEq] at hs
        | cons x xs =>
          cases ys with
          | nil => simp [scsEq] at hs
          | cons y ys =>
            obtain ⟨u, hu, ru⟩ := hx 0 x rfl
            obtain ⟨v, hv, rv⟩ := hy 0 y rfl
            simp only [scsEq] at hs
            simp only [Op.eqFields, if_pos b2, Sem.run_bind, b1, run_part1 h1 cs k u hu, run_part1 h1 ds k v hv, Result.andThen_ok]
            split at hs
            · rename_i he
              simp only [run_scEqK he ru rv h1, Result.andThen_ok]
              simp only [Bool.not_true, Bool.false_eq_true, if_false]
              exact run_eqFields d w cs ds fs (k + 1) ks' xs ys r h3 hs (fun i a h => by have := hx (i + 1) a h; rwa [show k + (i + 1) = k + 1 + i by omega] at this)
                (fun i a h => by have := hy (i + 1) a h; rwa [show k + (i + 1) = k + 1 + i by omega] at this)
            · rename_i he
              cases hs
              simp [run_scEqK he ru rv h1]
            · cases hs
      · cases hf

theorem run_eqItems {ρ : Rn} {e : TypeId} {q : Nat} (hq : scalarK P e = some q) (d : Nat) (w : World) (cs ds : Array Value) : ∀ (n k : Nat) (xs ys : List AV) (r : Bool), scsEq (List.replicate n q) xs ys = some r →
    (∀ i a, xs[i]? = some a → ∃ v, cs[k + i]? = some v ∧ VR ρ a v) → (∀ i a, ys[i]? = some a → ∃ v, ds[k + i]? = some v ∧ VR ρ a v) →
    (Op.eqItems (d + 1) e 1 cs ds (List.range' k n)).run P w = .ok r w
  | 0, k, xs, ys, r, hs, hx, hy => by
    cases xs <;> cases ys <;> simp only [List.replicate, scsEq, reduceCtorEq, Option.some.injEq] at hs
    subst hs
    simp [Op.eqItems]
  | n + 1, k, xs, ys, r, hs, hx, hy => by
    cases xs with
    | nil => simp [scsEq, List.replicate] at hs
    | cons x xs =>
      cases ys with
      | nil => simp [scsEq, List.replicate] at hs
      | cons y ys =>
        obtain ⟨u, hu, ru⟩ := hx 0 x rfl
        obtain ⟨v, hv, rv⟩ := hy 0 y rfl
        simp only [List.replicate, scsEq] at hs
        simp only [List.range'_succ, Op.eqItems, Sem.run_bind, Nat.mul_one, run_part1 hq cs k u hu, run_part1 hq ds k v hv, Result.andThen_ok]
        split at hs
        · rename_i he
          simp only [run_scEqK he ru rv hq, Result.andThen_ok]
          simp only [Bool.not_true, Bool.false_eq_true, if_false]
          exact run_eqItems hq d w cs ds n (k + 1) xs ys r hs (fun i a h => by have := hx (i + 1) a h; rwa [show k + (i + 1) = k + 1 + i by omega] at this)
            (fun i a h => by have := hy (i + 1) a h; rwa [show k + (i + 1) = k + 1 + i by omega] at this)
        · rename_i he
          cases hs
          simp [run_scEqK he ru rv hq]
        · cases hs

theorem vrs_at {ρ : Rn} {xs : List AV} {cs : Array Value} (h : VRs ρ xs cs.toList) : ∀ i a, xs[i]? = some a → ∃ v, cs[0 + i]? = some v ∧ VR ρ a v := by
  intro i a hi
  obtain ⟨v, hv, hr⟩ := h.get hi
  exact ⟨v, by rw [Nat.zero_add, ← Array.getElem?_toList]; exact hv, hr⟩

def EKind (P : Program) (t : TypeId) : EK → Prop
    | .none => True
    | .bool => P.underlying t = some .bool
    | .ptr => ∃ e, P.underlying t = some (.pointer e)
    | .slice => ∃ e, P.underlying t = some (.slice e)
    | .map => ∃ k e, P.underlying t = some (.map k e)
    | .func => ∃ p r v, P.underlying t = some (.func p r v)
    | .row ks => P.eqGuardType P.depth t = false ∧ ((∃ fs, P.underlying t = some (.struct fs) ∧ P.stoodInHeld t = false ∧ flatFields P 0 fs.toList = some ks) ∨
        (∃ n e q, P.underlying t = some (.array n e) ∧ scalarK P e = some q ∧ szO P e = some 1 ∧ ks = List.replicate n q))
theorem eqT_kind {t : TypeId} {ek : EK} (h : eqT P t = some ek) : EKind P t ek := by
  unfold eqT at h
  split at h
  · cases h; trivial
  · cases h; trivial
  · rename_i hu; cases h; exact hu
  · rename_i e hu; cases h; exact ⟨e, hu⟩
  · rename_i e hu; cases h; exact ⟨e, hu⟩
  · rename_i k e hu; cases h; exact ⟨k, e, hu⟩
  · rename_i p r v hu; cases h; exact ⟨p, r, v, hu⟩
  · rename_i fs hu
    cases hb : (!P.eqGuardType P.depth t && !P.stoodInHeld t) with
    | false => rw [hb] at h; cases h
    | true =>
      rw [hb] at h
      simp only [cond_true] at h
      rw [Bool.and_eq_true] at hb
      cases hf : flatFields P 0 fs.toList with
      | none => rw [hf] at h; cases h
      | some ks' => rw [hf] at h; cases h; exact ⟨by simpa using hb.1, .inl ⟨fs, hu, by simpa using hb.2, hf⟩⟩
  · rename_i n e hu
    cases hb : (!P.eqGuardType P.depth t) with
    | false => rw [hb] at h; cases h
    | true =>
      rw [hb] at h
      simp only [cond_true] at h
      split at h
      · rename_i q h1 h2
        cases h
        exact ⟨by simpa using hb, .inr ⟨n, e, q, hu, h1, h2, rfl⟩⟩
      · cases h
  · cases h

theorem q_ptr1 {t : TypeId} {e : TypeId} (hu : P.underlying t = some (.pointer e)) (d : Nat) (a : Addr) (w : World) : (Op.equalIn (d + 1) t (.pointer (some a)) (.pointer none)).run P w = .ok false w := by
  simp [Op.equalIn, run_ul hu]
theorem q_ptr2 {t : TypeId} {e : TypeId} (hu : P.underlying t = some (.pointer e)) (d : Nat) (a : Addr) (w : World) : (Op.equalIn (d + 1) t (.pointer none) (.pointer (some a))).run P w = .ok false w := by
  simp [Op.equalIn, run_ul hu]
theorem q_ptr3 {t : TypeId} {e : TypeId} (hu : P.underlying t = some (.pointer e)) (d : Nat) (w : World) : (Op.equalIn (d + 1) t (.pointer none) (.pointer none)).run P w = .ok true w := by
  simp [Op.equalIn, run_ul hu]
theorem q_slice1 {t : TypeId} {e : TypeId} (hu : P.underlying t = some (.slice e)) (d : Nat) (a : Addr) (n c : Nat) (p q : Nat) (w : World) : (Op.equalIn (d + 1) t (.slice (some a) n c) (.slice none p q)).run P w = .ok false w := by
  simp [Op.equalIn, run_ul hu]
theorem q_slice2 {t : TypeId} {e : TypeId} (hu : P.underlying t = some (.slice e)) (d : Nat) (a : Addr) (n c : Nat) (p q : Nat) (w : World) : (Op.equalIn (d + 1) t (.slice none p q) (.slice (some a) n c)).run P w = .ok false w := by
  simp [Op.equalIn, run_ul hu]
theorem q_slice3 {t : TypeId} {e : TypeId} (hu : P.underlying t = some (.slice e)) (d : Nat) (p q p2 q2 : Nat) (w : World) : (Op.equalIn (d + 1) t (.slice none p q) (.slice none p2 q2)).run P w = .ok true w := by
  simp [Op.equalIn, run_ul hu]
theorem q_map1 {t : TypeId} {k e : TypeId} (hu : P.underlying t = some (.map k e)) (d : Nat) (a : Nat) (w : World) : (Op.equalIn (d + 1) t (.map (some a)) (.map none)).run P w = .ok false w := by
  simp [Op.equalIn, run_ul hu]
theorem q_map2 {t : TypeId} {k e : TypeId} (hu : P.underlying t = some (.map k e)) (d : Nat) (a : Nat) (w : World) : (Op.equalIn (d + 1) t (.map none) (.map (some a))).run P w = .ok false w := by
  simp [Op.equalIn, run_ul hu]
theorem q_map3 {t : TypeId} {k e : TypeId} (hu : P.underlying t = some (.map k e)) (d : Nat) (w : World) : (Op.equalIn (d + 1) t (.map none) (.map none)).run P w = .ok true w := by
  simp [Op.equalIn, run_ul hu]
theorem q_func1 {t : TypeId} {p q : Array TypeId} {v : Bool} (hu : P.underlying t = some (.func p q v)) (d : Nat) (f : Fn) (x y : Array Value) (w : World) : (Op.equalIn (d + 1) t (.func f x y) (.nilFunc)).run P w = .ok false w := by
  simp [Op.equalIn, run_ul hu]
theorem q_func2 {t : TypeId} {p q : Array TypeId} {v : Bool} (hu : P.underlying t = some (.func p q v)) (d : Nat) (f : Fn) (x y : Array Value) (w : World) : (Op.equalIn (d + 1) t (.nilFunc) (.func f x y)).run P w = .ok false w := by
  simp [Op.equalIn, run_ul hu]
theorem q_func3 {t : TypeId} {p q : Array TypeId} {v : Bool} (hu : P.underlying t = some (.func p q v)) (d : Nat) (w : World) : (Op.equalIn (d + 1) t (.nilFunc) (.nilFunc)).run P w = .ok true w := by
  simp [Op.equalIn, run_ul hu]

theorem run_eqA {ρ : Rn} {t : TypeId} {ek : EK} (ht : eqT P t = some ek) {x y : AV} {r : Bool} (h : eqA ek x y = some r) {x' y' : Value} (hx : VR ρ x x') (hy : VR ρ y y') (d : Nat) (w : World) :
    (Op.equalIn (d + 1 + 1) t x' y').run P w = .ok r w ∧ x' ≠ .nilIface ∧ ∀ cs ds, x' = .agg cs → y' = .agg ds → P.eqGuardType P.depth t = false := by
  have hk := eqT_kind ht
  clear ht
  unfold eqA at h
  split at h
  · simp only [VR] at hx hy
    subst hx hy
    cases h
    exact ⟨run_equalIn_bool' w _ t _ _ hk, by simp, by simp⟩
  · rename_i ks xs ys
    simp only [VR] at hx hy
    obtain ⟨cs, rfl, hx⟩ := hx
    obtain ⟨ds, rfl, hy⟩ := hy
    obtain ⟨g1, ⟨fs, hu, g2, hf⟩ | ⟨n, e, q, hu, h1, h2, rfl⟩⟩ := hk
    · have hfo : P.fieldsOf t = fs := by simp [Program.fieldsOf, hu]
      refine ⟨?_, by simp, fun _ _ _ _ => g1⟩
      rw [run_equalIn_struct w (d + 1) t cs ds (by rw [hfo]; exact hu) g2, hfo]
      exact run_eqFields d w cs ds fs.toList 0 ks xs ys r hf h (vrs_at hx) (vrs_at hy)
    · unfold szO at h2
      cases hi : P.info? e with
      | none => rw [hi] at h2; cases h2
      | some i =>
        rw [hi] at h2
        refine ⟨?_, by simp, fun _ _ _ _ => g1⟩
        rw [run_equalIn_array w (d + 1) cs ds hu hi]
        have : P.cellsOf e = 1 := by simp [Program.cellsOf, hi]; simpa using h2
        rw [this, List.range_eq_range']
        exact run_eqItems h1 d w cs ds n 0 xs ys r h (vrs_at hx) (vrs_at hy)
  · simp only [VR] at hx hy
    obtain ⟨e, hu⟩ := hk
    obtain ⟨_, _, _, _, rfl⟩ := hx
    obtain ⟨rfl, _⟩ := hy
    cases h
    exact ⟨q_ptr1 hu _ _ w, by simp, by simp⟩
  · simp only [VR] at hx hy
    obtain ⟨e, hu⟩ := hk
    obtain ⟨rfl, _⟩ := hx
    obtain ⟨_, _, _, _, rfl⟩ := hy
    cases h
    exact ⟨q_ptr2 hu _ _ w, by simp, by simp⟩
  · simp only [VR] at hx hy
    obtain ⟨e, hu⟩ := hk
    obtain ⟨rfl, _⟩ := hx
    obtain ⟨rfl, _⟩ := hy
    cases h
    exact ⟨q_ptr3 hu _ w, by simp, by simp⟩
  · simp only [VR] at hx hy
    obtain ⟨e, hu⟩ := hk
    obtain ⟨_, _, _, _, _, _, rfl, _⟩ := hx
    obtain ⟨rfl, _⟩ := hy
    cases h
    exact ⟨q_slice1 hu _ _ _ _ _ _ w, by simp, by simp⟩
  · simp only [VR] at hx hy
    obtain ⟨e, hu⟩ := hk
    obtain ⟨rfl, _⟩ := hx
    obtain ⟨_, _, _, _, _, _, rfl, _⟩ := hy
    cases h
    exact ⟨q_slice2 hu _ _ _ _ _ _ w, by simp, by simp⟩
  · simp only [VR] at hx hy
    obtain ⟨e, hu⟩ := hk
    obtain ⟨rfl, _⟩ := hx
    obtain ⟨rfl, _⟩ := hy
    cases h
    exact ⟨q_slice3 hu _ _ _ _ _ w, by simp, by simp⟩
  · simp only [VR] at hx hy
    obtain ⟨k, e, hu⟩ := hk
    obtain ⟨_, _, _, rfl⟩ := hx
    obtain ⟨rfl, _⟩ := hy
    cases h
    exact ⟨q_map1 hu _ _ w, by simp, by simp⟩
  · simp only [VR] at hx hy
    obtain ⟨k, e, hu⟩ := hk
    obtain ⟨rfl, _⟩ := hx
    obtain ⟨_, _, _, rfl⟩ := hy
    cases h
    exact ⟨q_map2 hu _ _ w, by simp, by simp⟩
  · simp only [VR] at hx hy
    obtain ⟨k, e, hu⟩ := hk
    obtain ⟨rfl, _⟩ := hx
    obtain ⟨rfl, _⟩ := hy
    cases h
    exact ⟨q_map3 hu _ w, by simp, by simp⟩
  · simp only [VR] at hx hy
    obtain ⟨p, q, v, hu⟩ := hk
    obtain ⟨_, _, rfl, _⟩ := hx
    obtain ⟨rfl, _⟩ := hy
    cases h
    exact ⟨q_func1 hu _ _ _ _ w, by simp, by simp⟩
  · simp only [VR] at hx hy
    obtain ⟨p, q, v, hu⟩ := hk
    obtain ⟨rfl, _⟩ := hx
    obtain ⟨_, _, rfl, _⟩ := hy
    cases h
    exact ⟨q_func2 hu _ _ _ _ w, by simp, by simp⟩
  · simp only [VR] at hx hy
    obtain ⟨p, q, v, hu⟩ := hk
    obtain ⟨rfl, _⟩ := hx
    obtain ⟨rfl, _⟩ := hy
    cases h
    exact ⟨q_func3 hu _ w, by simp, by simp⟩
  · cases h

theorem run_intBin {op : BinOp} {k : IntKind} {a b : Int} {v : AV} (h : intBin op k a b = some v) (hs : isShift op = false) (t : TypeId) (w : World) :
    ∃ u, (binOp op t (.int k a) (.int k b)).run P w = .ok u w ∧ ∀ ρ, VR ρ v u := by
  cases op <;> simp only [isShift, reduceCtorEq] at hs <;> simp only [intBin, Option.some.injEq] at h
  case quo =>
    split at h
    · cases h
    · rename_i hb; rw [wrapA_eq] at h; cases h; exact ⟨_, by simp [binOp, Op.intDiv, hb], fun ρ => rfl⟩
  case rem =>
    split at h
    · cases h
    · rename_i hb; cases h; exact ⟨_, by simp [binOp, Op.intDiv, hb], fun ρ => rfl⟩
  case gtr => rw [ltI_eq] at h; subst h; exact ⟨.bool (decide (b < a)), by simp [binOp, Op.intCmp], fun ρ => rfl⟩
  case geq => rw [leI_eq] at h; subst h; exact ⟨.bool (decide (b ≤ a)), by simp [binOp, Op.intCmp], fun ρ => rfl⟩
  all_goals
    (try rw [wrapA_eq] at h)
    (try rw [and_eq] at h)
    (try rw [or_eq] at h)
    (try rw [xor_eq] at h)
    (try rw [ltI_eq] at h)
    (try rw [leI_eq] at h)
    (try rw [eqI_eq] at h)
    subst h
    exact ⟨_, by simp [binOp, Op.intArith, Op.intBits, Op.intCmp] <;> rfl, fun ρ => rfl⟩
theorem run_shiftA {op : BinOp} {k k' : IntKind} {a b : Int} {v : AV} (h : shiftA op k a b = some v) (t : TypeId) (w : World) :
    ∃ u, (binOp op t (.int k a) (.int k' b)).run P w = .ok u w ∧ ∀ ρ, VR ρ v u := by
  unfold shiftA at h
  split at h
  · cases h
  · rename_i hb
    split at h
    · rw [shlA_eq] at h; cases h; exact ⟨_, by simp [binOp, Op.shift, hb], fun ρ => rfl⟩
    · rw [shrA_eq] at h; cases h; exact ⟨_, by simp [binOp, Op.shift, hb], fun ρ => rfl⟩
    · cases h
theorem run_strBin {op : BinOp} {a b : List UInt8} {v : AV} (h : strBin op a b = some v) (t : TypeId) (w : World) :
    ∃ u, (binOp op t (.string ⟨⟨a⟩⟩) (.string ⟨⟨b⟩⟩)).run P w = .ok u w ∧ ∀ ρ, VR ρ v u := by
  cases op <;> simp only [strBin, reduceCtorEq, Option.some.injEq] at h
  case add =>
    split at h
    · rename_i hl
      cases h
      refine ⟨.string ⟨⟨a ++ b⟩⟩, ?_, fun ρ => rfl⟩
      simp only [binOp, Op.stringOp, str_size]
      rw [if_neg (by simp [IntKind.max, IntKind.signed, IntKind.bits]; omega), str_append]
      rfl
    · cases h
  all_goals
    subst h
    exact ⟨_, by simp only [binOp, Op.stringOp, str_toList]; rfl, fun ρ => rfl⟩

def eqShape : Value → Bool
  | .bool _ | .pointer _ | .slice _ _ _ | .map _ | .func _ _ _ | .nilFunc | .agg _ => true
  | _ => false
theorem binOp_eql {X : Value} (h : eqShape X = true) (t : TypeId) (Y : Value) : binOp .eql t X Y = (do pure (.bool (← Op.equal t X Y))) := by
  cases X <;> simp only [eqShape, reduceCtorEq] at h <;> cases Y <;> rfl
theorem binOp_neq {X : Value} (h : eqShape X = true) (t : TypeId) (Y : Value) : binOp .neq t X Y = (do pure (.bool (!(← Op.equal t X Y)))) := by
  cases X <;> simp only [eqShape, reduceCtorEq] at h <;> cases Y <;> rfl
theorem eqA_shape {ρ : Rn} {ek : EK} {x y : AV} {r : Bool} (h : eqA ek x y = some r) {X : Value} (hx : VR ρ x X) : eqShape X = true := by
  unfold eqA at h
  split at h <;> (try simp only [VR] at hx) <;> first
    | (subst hx; rfl)
    | (obtain ⟨rfl, _⟩ := hx; rfl)
    | (obtain ⟨_, rfl, _⟩ := hx; rfl)
    | (obtain ⟨_, _, rfl, _⟩ := hx; rfl)
    | (obtain ⟨_, _, _, rfl⟩ := hx; rfl)
    | (obtain ⟨_, _, _, _, rfl⟩ := hx; rfl)
    | (obtain ⟨_, _, _, _, _, _, rfl, _⟩ := hx; rfl)
    | cases h

theorem s_bin {op : BinOp} {t t' : TypeId} {x y : Operand} {x' y' : Opd} {ek : EK} (hx : copd nt x = some x') (hy : copd nt y = some y') (ht : op = .eql ∨ op = .neq → eqT P t = some ek) :
    OpS P nt (.binOp op t x y t') (.bin op ek x' y') := by
  intro env h v h' ρ a w hm he mt fr
  have rx := opd_rel he hx
  have ry := opd_rel he hy
  simp only [opA] at hm
  split at hm
  · rename_i v' hv
    cases hm
    suffices hh : ∃ u, (eqGuard op t x y (a.eval x) (a.eval y)).run P w = .ok () w ∧ (binOp op t (a.eval x) (a.eval y)).run P w = .ok u w ∧ VR ρ v u by
      obtain ⟨u, h1, h2, h3⟩ := hh
      exact ⟨u, w, ρ, .inl fun o' ho => by simp [execOp, ho, h1, h2], h3, Sim.refl mt, fun _ => ⟨rfl, rfl⟩⟩
    unfold binA at hv
    split at hv
    · rename_i k i k' j e1 e2
      rw [e1] at rx
      rw [e2] at ry
      simp only [VR] at rx ry
      rw [rx, ry]
      have hg := eqGuard_none (P := P) op t x y (.int k i) (.int k' j) w (by simp) (by simp)
      cases hs : isShift op with
      | true =>
        rw [hs] at hv
        obtain ⟨u, h1, h2⟩ := run_shiftA (P := P) (k' := k') hv t w
        exact ⟨u, hg, h1, h2 ρ⟩
      | false =>
        rw [hs] at hv
        simp only [Bool.false_eq_true, if_false] at hv
        split at hv
        · rename_i ek
          subst ek
          obtain ⟨u, h1, h2⟩ := run_intBin (P := P) hv hs t w
          exact ⟨u, hg, h1, h2 ρ⟩
        · cases hv
    · rename_i p q e1 e2
      rw [e1] at rx
      rw [e2] at ry
      simp only [VR] at rx ry
      rw [rx, ry]
      obtain ⟨u, h1, h2⟩ := run_strBin (P := P) hv t w
      exact ⟨u, eqGuard_none op t x y _ _ w (by simp) (by simp), h1, h2 ρ⟩
    · rename_i n1 n2
      split at hv
      · cases e : eqA ek (x'.ev env) (y'.ev env) with
        | none => rw [e] at hv; cases hv
        | some r =>
          rw [e] at hv
          cases hv
          obtain ⟨h1, h2, h3⟩ := run_eqA (P := P) (ht (.inl rfl)) e rx ry 9998 w
          refine ⟨.bool r, eqGuard_none _ t x y _ _ w h2 h3, ?_, rfl⟩
          rw [binOp_eql (eqA_shape e rx)]
          have h1' : (Op.equal t (a.eval x) (a.eval y)).run P w = .ok r w := h1
          simp [h1']
      · cases e : eqA ek (x'.ev env) (y'.ev env) with
        | none => rw [e] at hv; cases hv
        | some r =>
          rw [e] at hv
          cases hv
          obtain ⟨h1, h2, h3⟩ := run_eqA (P := P) (ht (.inr rfl)) e rx ry 9998 w
          refine ⟨.bool (!r), eqGuard_none _ t x y _ _ w h2 h3, ?_, rfl⟩
          rw [binOp_neq (eqA_shape e rx)]
          have h1' : (Op.equal t (a.eval x) (a.eval y)).run P w = .ok r w := h1
          simp [h1']
      · cases hv
  · cases hm
end
end Go.Ab
