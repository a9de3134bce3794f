/- Each operation of the mini-machine is the model's (4: slicing, maps, making, appending, copying). -/
import Derived.Test.YtljkcecalallmaaGreatDoorAb6
namespace Go.Ab
open Go
section
variable {P : Program} {nt : Nat}

theorem copdo_rel {ρ : Rn} {env : Env} {a : Act} (he : EnvR ρ env a nt) {x : Option Operand} {y : Option Opd} (h : copdo nt x = some y) :
    match y.map (·.ev env), x.map a.eval with | none, none => True | some p, some q => VR ρ p q | _, _ => False := by
  cases x with
  | none => simp only [copdo, Option.some.injEq] at h; subst h; trivial
  | some x =>
    simp only [copdo] at h
    cases e : copd nt x with
    | none => rw [e] at h; cases h
    | some z => rw [e] at h; cases h; exact opd_rel he e

theorem run_bound {ρ : Rn} {v : AV} {n : Nat} (h : asNat v = some n) {u : Value} (hr : VR ρ v u) {y : Nat} (hy : n ≤ y) (code : BoundsCode) (w : World) : (Instr.sliceBound u y code).run P w = .ok n w := by
  obtain ⟨k, rfl⟩ := asNat_rel h hr
  simp only [Instr.sliceBound, asIntOf, pure_bind]
  rw [if_pos ⟨by omega, by omega⟩]
  simp

/-- the bounds of a slice expression, high missing or not, no max -/
theorem run_bounds {ρ : Rn} {isSlice : Bool} {len cap l h : Nat} {lo hi : Option AV} {lo' hi' : Option Value}
    (hl : match lo, lo' with | none, none => True | some p, some q => VR ρ p q | _, _ => False) (hh : match hi, hi' with | none, none => True | some p, some q => VR ρ p q | _, _ => False)
    {y : Nat} (hy : y ≤ cap) (h1 : bound y len hi = some h) (h2 : bound h 0 lo = some l) (w : World) : (Instr.sliceBounds isSlice len cap lo' hi' none).run P w = .ok (l, h, cap) w := by
  have e1 : (match hi' with | some v => Instr.sliceBound v cap (if isSlice then .sliceAcap else .sliceAlen) | none => pure len).run P w = .ok h w := by
    cases hi with
    | none => cases hi' with
      | none => simp only [bound, Option.some.injEq] at h1; subst h1; rfl
      | some _ => exact hh.elim
    | some p => cases hi' with
      | none => exact hh.elim
      | some q =>
        simp only [bound] at h1
        split at h1
        · rename_i n hn
          cases hb : Nat.ble n y with
          | false => rw [hb] at h1; cases h1
          | true => rw [hb] at h1; cases h1; exact run_bound hn hh (Nat.le_trans (Nat.le_of_ble_eq_true hb) hy) _ w
        · cases h1
  have e2 : (match lo' with | some v => Instr.sliceBound v h .sliceB | none => pure 0).run P w = .ok l w := by
    cases lo with
    | none => cases lo' with
      | none => simp only [bound, Option.some.injEq] at h2; subst h2; rfl
      | some _ => exact hl.elim
    | some p => cases lo' with
      | none => exact hl.elim
      | some q =>
        simp only [bound] at h2
        split at h2
        · rename_i n hn
          cases hb : Nat.ble n h with
          | false => rw [hb] at h2; cases h2
          | true => rw [hb] at h2; cases h2; exact run_bound hn hl (Nat.le_of_ble_eq_true hb) _ w
        · cases h2
  unfold Instr.sliceBounds
  cases hi' <;> cases lo' <;> simp_all
/-- with max -/
theorem run_bounds3 {ρ : Rn} {isSlice : Bool} {len cap l h m : Nat} {lo hi : Option AV} {mx : AV} {lo' hi' : Option Value} {mx' : Value}
    (hl : match lo, lo' with | none, none => True | some p, some q => VR ρ p q | _, _ => False) (hh : match hi, hi' with | none, none => True | some p, some q => VR ρ p q | _, _ => False) (hm : VR ρ mx mx')
    {y : Nat} (hy : y ≤ cap) (h0 : bound y y (some mx) = some m) (h1 : bound m len hi = some h) (hsome : hi.isSome) (h2 : bound h 0 lo = some l) (w : World) :
    (Instr.sliceBounds isSlice len cap lo' hi' (some mx')).run P w = .ok (l, h, m) w := by
  have e0 : ∀ c, (Instr.sliceBound mx' cap c).run P w = .ok m w := by
    intro c
    simp only [bound] at h0
    split at h0
    · rename_i n hn
      cases hb : Nat.ble n y with
      | false => rw [hb] at h0; cases h0
      | true => rw [hb] at h0; cases h0; exact run_bound hn hm (Nat.le_trans (Nat.le_of_ble_eq_true hb) hy) _ w
    · cases h0
  cases hi with
  | none => cases hsome
  | some p => cases hi' with
    | none => exact hh.elim
    | some q =>
      have e1 : ∀ c, (Instr.sliceBound q m c).run P w = .ok h w := by
        intro c
        simp only [bound] at h1
        split at h1
        · rename_i n hn
          cases hb : Nat.ble n m with
          | false => rw [hb] at h1; cases h1
          | true => rw [hb] at h1; cases h1; exact run_bound hn hh (Nat.le_of_ble_eq_true hb) _ w
        · cases h1
      cases lo with
      | none => cases lo' with
        | none =>
          simp only [bound, Option.some.injEq] at h2
          subst h2
          simp [Instr.sliceBounds, e0, e1]
        | some _ => exact hl.elim
      | some r => cases lo' with
        | none => exact hl.elim
        | some s =>
          have e2 : ∀ c, (Instr.sliceBound s h c).run P w = .ok l w := by
            intro c
            simp only [bound] at h2
            split at h2
            · rename_i n hn
              cases hb : Nat.ble n h with
              | false => rw [hb] at h2; cases h2
              | true => rw [hb] at h2; cases h2; exact run_bound hn hl (Nat.le_of_ble_eq_true hb) _ w
            · cases h2
          simp [Instr.sliceBounds, e0, e1, e2]

theorem bound_le {y d n : Nat} {o : Option AV} (h : bound y d o = some n) (hd : d ≤ y) : n ≤ y := by
  unfold bound at h
  split at h
  · cases h; exact hd
  · split at h
    · rename_i m hm
      cases hb : Nat.ble m y with
      | false => rw [hb] at h; cases h
      | true => rw [hb] at h; cases h; exact Nat.le_of_ble_eq_true hb
    · cases h

theorem s_slstr {t : TypeId} {x : Operand} {lo hi : Option Operand} {x' : Opd} {lo' hi' : Option Opd} (hx : copd nt x = some x') (hl : copdo nt lo = some lo') (hh : copdo nt hi = some hi')
    (hu : P.underlying t = some .string) : OpS P nt (.slice t x lo hi none) (.slstr x' lo' hi') := by
  intro env h v h' ρ a w hm he mt fr
  have rx := opd_rel he hx
  have rl := copdo_rel he hl
  have rh := copdo_rel he hh
  simp only [opA] at hm
  split at hm
  · rename_i s hs
    rw [hs] at rx
    simp only [VR] at rx
    split at hm
    · rename_i v' hv
      cases hm
      unfold sliceS at hv
      split at hv
      · cases hv
      · rename_i hh' h1
        split at hv
        · cases hv
        · rename_i l h2
          cases hv
          have hb := run_bounds (P := P) (isSlice := false) rl rh (Nat.le_refl _) h1 h2 w
          refine ⟨.string ⟨⟨(s.take hh').drop l⟩⟩, w, ρ, .inl fun o' ho => ?_, rfl, Sim.refl mt, fun _ => ⟨rfl, rfl⟩⟩
          simp only [execOp, ho, Instr.sliceAt, Sem.run_bind, run_ul hu, Result.andThen_ok, Instr.slice, rx, Option.map_none, Option.isSome_none, Bool.false_eq_true, if_false, str_size, hb, Sem.run_pure]
          congr 3
          apply ByteArray.ext
          rw [ByteArray.data_extract]
          apply Array.ext'
          rw [Array.toList_extract, List.extract_eq_take_drop, List.drop_take]
    · cases hm
  · cases hm

/-- a slice of a slice -/
theorem sliceA_rel (isS : Bool) {ρ : Rn} {es : Nat} {x v : AV} {lo hi mx : Option AV} {lo' hi' mx' : Option Value} {x' : Value} (rx : VR ρ x x')
    (rl : match lo, lo' with | none, none => True | some p, some q => VR ρ p q | _, _ => False) (rh : match hi, hi' with | none, none => True | some p, some q => VR ρ p q | _, _ => False)
    (rm : match mx, mx' with | none, none => True | some p, some q => VR ρ p q | _, _ => False) (hmx : mx.isSome → hi.isSome) (hv : sliceA es x lo hi mx = some v) (w : World) :
    ∃ (ad : Option Addr) (len cap l h m : Nat), x' = .slice ad len cap ∧ (Instr.sliceBounds isS len cap lo' hi' mx').run P w = .ok (l, h, m) w ∧
      VR ρ v (.slice (if m = l then ad else ad.map (·.add (l * es))) (h - l) (m - l)) := by
  unfold sliceA at hv
  split at hv
  · rename_i i k len cap ex es'
    simp only [VR] at rx
    obtain ⟨b, o, n, a', cap', g1, rfl, g3, g4, g5, g6, g7⟩ := rx
    cases hes : es.beq es' with
    | false => rw [hes] at hv; cases hv
    | true =>
      rw [hes] at hv
      simp only [cond_true] at hv
      have hes' := ofBeq hes
      subst hes'
      cases mx with
      | none =>
        cases mx' with
        | some _ => exact rm.elim
        | none =>
          simp only at hv
          split at hv
          · cases hv
          · rename_i h h1
            split at hv
            · cases hv
            · rename_i l h2
              cases hv
              have hb := run_bounds (P := P) (isSlice := isS) (len := len) rl rh g4 h1 h2 w
              refine ⟨_, _, _, l, h, cap', rfl, hb, ?_⟩
              have hle1 := bound_le h2 (Nat.zero_le _)
              have hle2 := bound_le h1 g3
              have hmul : l * es + (cap' - l) * es = cap' * es := by rw [← Nat.add_mul]; congr 1; omega
              by_cases hml : cap' = l
              · rw [if_pos hml]
                refine ⟨b, o, n, a', cap' - l, g1, rfl, by omega, by omega, by simp; intro e; have := g5 e; omega, by omega, .inr (by omega)⟩
              · rw [if_neg hml]
                have ha : a' = ⟨b, o + k, none⟩ := g7.resolve_right (by omega)
                refine ⟨b, o, n, a'.add (l * es), cap' - l, g1, rfl, by omega, by omega, by simp; intro e; have := g5 e; omega, by omega, .inl ?_⟩
                rw [ha, addr_add, Nat.add_assoc]
      | some mv =>
        cases mx' with
        | none => exact rm.elim
        | some mv' =>
          simp only at hv
          split at hv
          · cases hv
          · rename_i m h0
            split at hv
            · cases hv
            · rename_i h h1
              split at hv
              · cases hv
              · rename_i l h2
                cases hv
                have hb := run_bounds3 (P := P) (isSlice := isS) (len := len) rl rh rm g4 h0 h1 (hmx rfl) h2 w
                refine ⟨_, _, _, l, h, m, rfl, hb, ?_⟩
                have hle0 := bound_le h0 (Nat.le_refl _)
                have hle1 := bound_le h2 (Nat.zero_le _)
                have hle2 : h ≤ m := by
                  cases hi with
                  | none => cases hmx rfl
                  | some q =>
                    simp only [bound] at h1
                    split at h1
                    · rename_i q' hq
                      cases hbb : Nat.ble q' m with
                      | false => rw [hbb] at h1; cases h1
                      | true => rw [hbb] at h1; cases h1; exact Nat.le_of_ble_eq_true hbb
                    · cases h1
                have hmul : l * es + (m - l) * es = m * es := by rw [← Nat.add_mul]; congr 1; omega
                have hmul2 : m * es ≤ cap' * es := Nat.mul_le_mul_right _ (by omega)
                by_cases hml : m = l
                · rw [if_pos hml]
                  refine ⟨b, o, n, a', m - l, g1, rfl, by omega, by omega, fun _ => rfl, by omega, .inr (by omega)⟩
                · rw [if_neg hml]
                  have ha : a' = ⟨b, o + k, none⟩ := g7.resolve_right (by omega)
                  refine ⟨b, o, n, a'.add (l * es), m - l, g1, rfl, by omega, by omega, fun _ => rfl, by omega, .inl ?_⟩
                  rw [ha, addr_add, Nat.add_assoc]
  · simp only [VR] at rx
    obtain ⟨rfl, _⟩ := rx
    split at hv
    · rename_i m h l h0 h1 h2
      cases hv
      have hl0 := Nat.le_zero.1 (bound_le h2 (Nat.le_refl _))
      have hh0 := Nat.le_zero.1 (bound_le h1 (Nat.le_refl _))
      have hm0 := Nat.le_zero.1 (bound_le h0 (Nat.le_refl _))
      subst hl0 hh0 hm0
      cases mx with
      | none =>
        cases mx' with
        | some _ => exact rm.elim
        | none => exact ⟨none, 0, 0, 0, 0, 0, rfl, run_bounds (P := P) (isSlice := isS) (len := 0) rl rh (Nat.le_refl _) h1 h2 w, by simp [VR, Value.oneCell']⟩
      | some mv =>
        cases mx' with
        | none => exact rm.elim
        | some mv' => exact ⟨none, 0, 0, 0, 0, 0, rfl, run_bounds3 (P := P) (isSlice := isS) (len := 0) rl rh rm (Nat.le_refl _) h0 h1 (hmx rfl) h2 w, by simp [VR, Value.oneCell']⟩
    · cases hv
  · cases hv

theorem s_slice {t e : TypeId} {x : Operand} {lo hi mx : Option Operand} {x' : Opd} {lo' hi' mx' : Option Opd} {n : Nat} (hx : copd nt x = some x') (hl : copdo nt lo = some lo') (hh : copdo nt hi = some hi') (hmx : copdo nt mx = some mx')
    (hu : P.underlying t = some (.slice e)) (hn : szO P e = some n) (hs : mx'.isSome → hi'.isSome) : OpS P nt (.slice t x lo hi mx) (.slice n x' lo' hi' mx') := by
  intro env h v h' ρ a w hm he mt fr
  simp only [opA] at hm
  split at hm
  · rename_i v' hv
    cases hm
    obtain ⟨ad, len, cap, l, h0, m, g1, g2, g3⟩ := sliceA_rel (P := P) true (opd_rel he hx) (copdo_rel he hl) (copdo_rel he hh) (copdo_rel he hmx) (by simpa using hs) hv w
    refine ⟨_, w, ρ, .inl fun o' ho => ?_, g3, Sim.refl mt, fun _ => ⟨rfl, rfl⟩⟩
    simp only [execOp, ho, Instr.sliceAt, Sem.run_bind, run_ul hu, Result.andThen_ok, Instr.slice, g1, g2, szO_spec hn, Sem.run_pure]
  · cases hm

theorem s_slarr {t e : TypeId} {x : Operand} {lo hi mx : Option Operand} {x' : Opd} {lo' hi' mx' : Option Opd} {len n : Nat} (hx : copd nt x = some x') (hl : copdo nt lo = some lo') (hh : copdo nt hi = some hi') (hmx : copdo nt mx = some mx')
    (hu : P.underlying t = some (.array len e)) (hn : szO P e = some n) (hs : mx'.isSome → hi'.isSome) : OpS P nt (.slice t x lo hi mx) (.slarr len n x' lo' hi' mx') := by
  intro env h v h' ρ a w hm he mt fr
  have rx := opd_rel he hx
  simp only [opA] at hm
  split at hm
  · rename_i i k hik
    rw [hik] at rx
    have rx0 := rx
    simp only [VR] at rx
    obtain ⟨b, o, sz, p1, p2⟩ := rx
    split at hm
    · rename_i c E ro hg
      cases hb : Nat.ble (k + len * n) c.length with
      | false => rw [hb] at hm; cases hm
      | true =>
        rw [hb] at hm
        simp only [cond_true] at hm
        have hbl := Nat.le_of_ble_eq_true hb
        split at hm
        · rename_i v' hv
          cases hm
          obtain ⟨c', E', fz, q1, q2, q3, _⟩ := mt.objs i b o sz p1 _ hg
          have rs : VR ρ (.sl i k len len true n) (.slice (some ⟨b, o + k, none⟩) len len) :=
            ⟨b, o, sz, _, len, p1, rfl, Nat.le_refl _, Nat.le_refl _, fun _ => rfl, by omega, .inl rfl⟩
          obtain ⟨ad, len', cap, l, h0, m, g1, g2, g3⟩ := sliceA_rel (P := P) false rs (copdo_rel he hl) (copdo_rel he hh) (copdo_rel he hmx) (by simpa using hs) hv w
          cases g1
          refine ⟨_, w, ρ, .inl fun o' ho => ?_, g3, Sim.refl mt, fun _ => ⟨rfl, rfl⟩⟩
          simp only [execOp, ho, Instr.sliceAt, Sem.run_bind, run_ul hu, Result.andThen_ok, p2, Instr.sureAddr, Sem.run_pure, g2, szO_spec hn]
          by_cases hml : m = l
          · rw [if_pos hml, if_pos hml]
          · rw [if_neg hml, if_neg hml]; rfl
        · cases hm
    · cases hm
  · cases hm

end
end Go.Ab
