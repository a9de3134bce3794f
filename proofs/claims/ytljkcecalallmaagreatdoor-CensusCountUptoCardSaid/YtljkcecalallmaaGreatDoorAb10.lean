/- Each operation of the mini-machine is the model's (7: append, copy, clear), and all of them together. -/
import Derived.Test.YtljkcecalallmaaGreatDoorAb9
namespace Go.Ab
open Go
section
variable {P : Program} {nt : Nat}

theorem world_eta (w : World) : ({ w with drawn := w.drawn } : World) = w := rfl

theorem Sim.grown {ρ : Rn} {h : Heap} {w : World} (mt : Match ρ h w) (f : Free ρ h.sz (h.sz + 1)) {cs : List AV} {e : TypeId} {l : List Value} {more : Array Value} {old new : Array Value} (hl : old.toList ++ new.toList = l) (hr : VRs ρ cs l) :
    Sim ρ h w (upd ρ h.sz (w.heap.size, 0, (old ++ new ++ more).size)) (h.alloc (.cells cs e false)) { w with drawn := w.drawn + 1, heap := w.heap.push (.cells (old ++ new ++ more) e) } :=
  Sim.trans (Sim.drew mt) (newRow_sim (w := { w with drawn := w.drawn + 1 }) (more := more.toList) (mt.world rfl) f ⟨l, by simp [← hl], hr⟩)

/-- what the model's append comes to, whatever is appended -/
structure AppRuns (P : Program) (as : Array TypeId) (us : List Value) (e : TypeId) (i : TypeInfo) (zv : Value) (w : World) (nc : Array Value) (n : Nat) : Prop where
  room : ∀ (base : Option Addr) (len cap : Nat) (w' : World), len + n ≤ cap → (match base with | some a => (storeCells (a.add (len * i.size)) nc.toList).run P w = .ok () w' | none => w' = w) →
    ∀ (ty : TypeId) (cs : Array Bool), (builtin .append as ty cs (.slice base len cap :: us).toArray).run P w = .ok (.value (.slice base (len + n) cap)) w'
  grow : ∀ (base : Option Addr) (len cap : Nat) (old : Array Value), cap < len + n → 1 ≤ i.bytes → (len + n) * i.bytes ≤ 4294967296 →
    (∀ w' : World, w'.heap = w.heap → (Builtin.firstCells i.size len (.slice base len cap)).run P w' = .ok old w') →
    ∃ nc', len + n ≤ nc' ∧ ∀ (ty : TypeId) (cs : Array Bool), (builtin .append as ty cs (.slice base len cap :: us).toArray).run P w =
      .ok (.value (.slice (some ⟨w.heap.size, 0, none⟩) (len + n) nc')) { w with drawn := w.drawn + 1, heap := w.heap.push (.cells (old ++ nc ++ Builtin.zeroCells zv.cells (nc' - (len + n))) e) }

theorem appendG_sound {as : Array TypeId} {us : List Value} {e : TypeId} {i : TypeInfo} {zv : Value} {w : World} {nc : Array Value} {n : Nat} (R : AppRuns P as us e i zv w nc n) (hzs : zv.cells.size = i.size) {ρ : Rn} {h h' : Heap} (mt : Match ρ h w) (fr : Free ρ h.sz h'.sz)
    {sv : AV} {u1 : Value} (r1 : VR ρ sv u1) {new : List AV} (n2 : VRs ρ new nc.toList) (n3 : nc.size = n * i.size) {v : AV} {m : MOp} (hcls : 2 ≤ m.cls) (hm : appendG h e i.size i.bytes sv new n = some (v, h')) :
    ∃ u w' ρ', (∀ ty cs, (builtin .append as ty cs (u1 :: us).toArray).run P w = .ok (.value u) w') ∧ VR ρ' v u ∧ Sim ρ h w ρ' h' w' ∧ (m.cls ≤ 1 → w' = w ∧ ρ' = ρ) := by
  have hroom := R.room
  have hgrow := R.grow
  have s2 : new.length = n * i.size := by rw [n2.length]; simp [n3]
  unfold appendG at hm
  split at hm
  · simp only [VR] at r1
    obtain ⟨rfl, _⟩ := r1
    cases hn0 : n.beq 0 with
    | true =>
      rw [hn0] at hm
      cases hm
      have := ofBeq hn0
      subst this
      exact ⟨.slice none 0 0, w, ρ, fun ty cs => hroom _ _ _ _ (by omega) rfl ty cs, by simp [VR, Value.oneCell'], Sim.refl mt, fun _ => ⟨rfl, rfl⟩⟩
    | false =>
      rw [hn0] at hm
      simp only [cond_false] at hm
      have hne : n ≠ 0 := by intro e; subst e; simp at hn0
      cases hb : ((n * i.bytes).ble most && Nat.ble 1 i.bytes) with
      | false => rw [hb] at hm; cases hm
      | true =>
        rw [hb] at hm
        cases hm
        simp only [Bool.and_eq_true] at hb
        have b2 : n * i.bytes ≤ 4294967296 := Nat.le_of_ble_eq_true hb.1
        have b1 := Nat.le_of_ble_eq_true hb.2
        obtain ⟨nc', k1, k2⟩ := hgrow none 0 0 #[] (by omega) b1 (by simpa using b2) (fun w' _ => rfl)
        refine ⟨.slice (some ⟨w.heap.size, 0, none⟩) n nc', _, _, fun ty cs => ?_, ?_, Sim.grown mt fr (old := #[]) (new := nc) (more := Builtin.zeroCells zv.cells (nc' - (0 + n))) (by simp) n2, noq hcls⟩
        · have := k2 ty cs
          simp only [Nat.zero_add] at this ⊢
          exact this
        · refine ⟨w.heap.size, 0, _, ⟨w.heap.size, 0, none⟩, nc', upd_self _ _ _, rfl, Nat.le_refl _, by omega, by simp, ?_, .inl rfl⟩
          simp only [Array.size_append, size_zeroCells, hzs, n3]
          simp
          rw [← Nat.add_mul]
          exact Nat.mul_le_mul_right _ (by omega)
  · rename_i i1 k len cap ex es'
    have r1' := r1
    simp only [VR] at r1
    obtain ⟨b, o, sz, a', cap', g1, rfl, g3, g4, g5, g6, g7⟩ := r1
    cases hes : i.size.beq es' with
    | false => rw [hes] at hm; cases hm
    | true =>
      rw [hes] at hm
      simp only [cond_true] at hm
      have hes' := ofBeq hes
      subst hes'
      cases hrm : (len + n).ble cap with
      | true =>
        rw [hrm] at hm
        simp only [cond_true] at hm
        have hle := Nat.le_of_ble_eq_true hrm
        split at hm
        · rename_i h2 hst
          cases hm
          obtain ⟨q1, q2⟩ := storeN_sim (P := P) mt g1 n2 hst
          refine ⟨.slice (some a') (len + n) cap', _, ρ, fun ty cs => hroom (some a') len cap' (w.setCells b (o + (k + len * i.size)) nc.toList) (by omega) ?_ ty cs, ?_, q2, noq hcls⟩
          · rcases g7 with rfl | hc0
            · simp only [addr_add]
              rw [show o + k + len * i.size = o + (k + len * i.size) by omega]
              exact q1
            · have hn : n = 0 := by omega
              subst hn
              have : nc.toList = [] := by
                have : nc.toList.length = 0 := by simp [n3]
                exact List.length_eq_zero_iff.1 this
              simp only [this]
              rfl
          · exact ⟨b, o, sz, a', cap', g1, rfl, hle, g4, g5, g6, g7⟩
        · cases hm
      | false =>
        rw [hrm] at hm
        simp only [cond_false] at hm
        have hgt : cap < len + n := by
          have : ¬ (len + n ≤ cap) := fun h => by rw [Nat.ble_eq_true_of_le h] at hrm; cases hrm
          omega
        cases hb : (((len + n) * i.bytes).ble most && Nat.ble 1 i.bytes) with
        | false => rw [hb] at hm; cases hm
        | true =>
          rw [hb] at hm
          simp only [cond_true] at hm
          simp only [Bool.and_eq_true] at hb
          have b2 : (len + n) * i.bytes ≤ 4294967296 := Nat.le_of_ble_eq_true hb.1
          have b1 := Nat.le_of_ble_eq_true hb.2
          split at hm
          · cases hm
          · rename_i old hold
            obtain ⟨_, _, o3⟩ := srcA_rel (P := P) mt (x := .sl i1 k len cap ex i.size) (es := i.size) (new := old) (n := len) (by simp [srcA, Nat.beq_refl, hold]) r1'
            obtain ⟨oc, o1, o2, o4⟩ := o3 len (Nat.le_refl _)
            rw [List.take_of_length_le (by rw [(loadN_spec hold).1]; omega)] at o2
            -- where a new array is made
            have grow : cap' < len + n → ∀ h0, Match ρ h0 w → Free ρ h0.sz (h0.sz + 1) → h0.sz = h.sz → ∃ u w' ρ', (∀ ty cs, (builtin .append as ty cs (.slice (some a') len cap' :: us).toArray).run P w = .ok (.value u) w') ∧
                VR ρ' (.sl h.sz 0 (len + n) (len + n) false i.size) u ∧ Sim ρ h0 w ρ' (h0.alloc (.cells (old ++ new) e false)) w' := by
              intro hc h0 m0 hfr hsz
              obtain ⟨nc', k1, k2⟩ := hgrow (some a') len cap' oc hc b1 b2 o1
              refine ⟨.slice (some ⟨w.heap.size, 0, none⟩) (len + n) nc', _, _, k2, ?_, Sim.grown m0 hfr (l := oc.toList ++ nc.toList) rfl (o2.append n2)⟩
              rw [hsz]
              refine ⟨w.heap.size, 0, _, ⟨w.heap.size, 0, none⟩, nc', upd_self _ _ _, rfl, Nat.le_refl _, by omega, by simp, ?_, .inl rfl⟩
              simp only [Array.size_append, size_zeroCells, hzs, n3, o4]
              rw [← Nat.add_mul, ← Nat.add_mul]
              simp
              exact Nat.mul_le_mul_right _ (by omega)
            cases ex with
            | true =>
              simp only [cond_true] at hm
              cases hm
              have := g5 rfl
              obtain ⟨u, w', ρ', p1, p2, p3⟩ := grow (by omega) h mt fr rfl
              exact ⟨u, w', ρ', p1, p2, p3, noq hcls⟩
            | false =>
              simp only [cond_false] at hm
              split at hm
              · rename_i c E hg
                cases hb3 : (Nat.beq (k + cap * i.size) c.length && Nat.beq len cap && new.all AV.one) with
                | false => rw [hb3] at hm; cases hm
                | true =>
                  rw [hb3] at hm
                  cases hm
                  simp only [Bool.and_eq_true] at hb3
                  have e1 := ofBeq hb3.1.1
                  have e2 := ofBeq hb3.1.2
                  by_cases hc : cap' < len + n
                  · have hkill : Sim ρ h w ρ (h.set i1 .dead) w := Sim.set mt g1 hg trivial (fun _ _ => rfl) rfl rfl rfl rfl trivial
                    obtain ⟨u, w', ρ', p1, p2, p3⟩ := grow hc (h.set i1 .dead) hkill.mt fr rfl
                    exact ⟨u, w', ρ', p1, p2, hkill.trans p3, noq hcls⟩
                  · have ha : a' = ⟨b, o + k, none⟩ := g7.resolve_right (by omega)
                    subst ha
                    have hmul : (len + n) * i.size ≤ cap' * i.size := Nat.mul_le_mul_right _ (by omega)
                    rw [Nat.add_mul] at hmul
                    have fr' : Free ρ h.sz (h.sz + 1) := by intro j h1 h2; exact fr j h1 (by simpa using h2)
                    obtain ⟨q1, q2⟩ := Sim.regrow (P := P) mt fr' g1 hg hold n2 (by simp; omega) hb3.2
                    refine ⟨.slice (some ⟨b, o + k, none⟩) (len + n) cap', _, _, fun ty cs => hroom (some ⟨b, o + k, none⟩) len cap' (w.setCells b (o + k + len * i.size) nc.toList) (by omega) ?_ ty cs, ?_, q2, noq hcls⟩
                    · simp only [addr_add]
                      exact q1
                    · exact ⟨b, o + k, sz, _, cap', upd_self _ _ _, rfl, Nat.le_refl _, by omega, by simp, by omega, .inl (by simp)⟩
              · cases hm
  · cases hm


theorem b_append {as : Array TypeId} {args : Array Operand} {s t e : TypeId} {ts : List TypeId} {y1 y2 : Opd} {ys : List Opd} {d : TypeDesc} {i : TypeInfo} {z : AV} (ha : as.toList = s :: t :: ts) (hy : copds nt args.toList = some (y1 :: y2 :: ys))
    (hu : P.underlying s = some (.slice e)) (ht : P.underlying t = some d) (hd : isIntT d = false) (hi : P.info? e = some i) (hz : zeroO P e = some z) (hzl : z.cells.length = i.size) :
    OpS P nt (.call { callee := .builtin .append, args, argTypes := as }) (.append e i.size i.bytes z.cells y1 y2) := by
  refine s_builtin hy ?_
  intro env h v h' ρ vals w hm hv mt fr
  simp only [List.map_cons] at hv
  obtain ⟨u1, us, rfl, r1, hv⟩ := vals_cons hv
  simp only [VRs] at hv
  obtain ⟨u2, us2, rfl, r2, hv⟩ := hv
  obtain ⟨i', zv, z1, z2, z3⟩ := zeroO_spec hz
  rw [hi] at z1
  cases z1
  have hzs : zv.cells.size = i.size := by rw [← hzl, ((VR.ofV ρ z3).cells).length]; simp
  have hszO : szO P e = some i.size := by simp [szO, hi]
  simp only [opA] at hm
  unfold appendA at hm
  split at hm
  · cases hm
  · rename_i new n hsrc
    obtain ⟨s1, s2, s3⟩ := srcA_rel (P := P) mt hsrc r2
    obtain ⟨nc, n1, n2, n3⟩ := s3 n (Nat.le_refl _)
    rw [List.take_of_length_le (by omega)] at n2
    refine appendG_sound ?_ hzs mt fr r1 n2 n3 (Nat.le_succ 2) hm
    rw [types_cons ha]
    exact ⟨fun base len cap w' hle hst ty cs => run_append_room hu ht hd hszO s1 hle (n1 w rfl) hst ty cs, fun base len cap old hlt h1 h2 hold => run_append_grow hu ht hd hi z2 s1 hlt h1 h2 hold n1⟩

theorem b_appendZ {as : Array TypeId} {args : Array Operand} {s t e : TypeId} {ts : List TypeId} {y1 y2 : Opd} {ys : List Opd} {ik : IntKind} {i : TypeInfo} {z : AV} (ha : as.toList = s :: t :: ts) (hy : copds nt args.toList = some (y1 :: y2 :: ys))
    (hu : P.underlying s = some (.slice e)) (ht : P.underlying t = some (.int ik)) (hi : P.info? e = some i) (hz : zeroO P e = some z) (hzl : z.cells.length = i.size) (h0 : 0 < i.size) :
    OpS P nt (.call { callee := .builtin .append, args, argTypes := as }) (.appendZ e i.size i.bytes z.cells y1 y2) := by
  refine s_builtin hy ?_
  intro env h v h' ρ vals w hm hv mt fr
  simp only [List.map_cons] at hv
  obtain ⟨u1, us, rfl, r1, hv⟩ := vals_cons hv
  simp only [VRs] at hv
  obtain ⟨u2, us2, rfl, r2, hv⟩ := hv
  obtain ⟨i', zv, z1, z2, z3⟩ := zeroO_spec hz
  rw [hi] at z1
  cases z1
  have hzr := (VR.ofV ρ z3).cells
  have hzs : zv.cells.size = i.size := by rw [← hzl, hzr.length]; simp
  have hszO : szO P e = some i.size := by simp [szO, hi]
  simp only [opA, Ab.appendZ] at hm
  split at hm
  · rename_i kk n hn
    rw [hn] at r2
    simp only [VR] at r2
    subst r2
    cases hneg : decide (n < 0) with
    | true => rw [hneg] at hm; cases hm
    | false =>
      rw [hneg] at hm
      simp only [cond_false] at hm
      have hn0 : 0 ≤ n := by simpa using hneg
      cases hb : (Nat.ble (n.toNat * i.bytes) most && Nat.ble 1 i.bytes) with
      | false => rw [hb] at hm; cases hm
      | true =>
        rw [hb] at hm
        simp only [cond_true] at hm
        simp only [Bool.and_eq_true] at hb
        have b1 := Nat.le_of_ble_eq_true hb.2
        have b2 : n.toNat * i.bytes ≤ 4294967296 := Nat.le_of_ble_eq_true hb.1
        obtain ⟨N, rfl⟩ := Int.eq_ofNat_of_zero_le hn0
        simp only [Int.toNat_natCast] at hm b2
        have hN : N ≤ 4294967296 := Nat.le_trans (Nat.le_mul_of_pos_right N b1) b2
        have wl : IntKind.i64.wrap (N : Int) = N := IntWalk.i64_in _ (by omega)
        have hzeros : VRs ρ (zerosA z.cells N) (Builtin.zeroCells zv.cells N).toList := zeros_rel hzr (by omega) N
        have hcell : ∀ w' : World, ((if N * i.size = 0 then pure #[] else do pure (Builtin.zeroCells (← zeroValue e).cells N) : Sem (Array Value)).run P w') = .ok (Builtin.zeroCells zv.cells N) w' := by
          intro w'
          by_cases hz0 : N * i.size = 0
          · rw [if_pos hz0]
            have : N = 0 := by
              rcases Nat.mul_eq_zero.1 hz0 with h | h
              · exact h
              · omega
            subst this
            simp [Builtin.zeroCells, show Array.range 0 = #[] from rfl]
          · rw [if_neg hz0]
            simp [run_zero hi z2]
        have e48 : (2 : Int) ^ 48 = 281474976710656 := by decide
        have e48n : (2 : Nat) ^ 48 = 281474976710656 := by decide
        have hlim : ¬ ((N : Int) * (i.bytes : Int) > 2 ^ 48) := by
          rw [e48]
          have h9 : ((N * i.bytes : Nat) : Int) ≤ ((4294967296 : Nat) : Int) := Int.ofNat_le.2 b2
          rw [Int.natCast_mul] at h9
          omega
        refine appendG_sound ?_ hzs mt fr r1 hzeros (by rw [size_zeroCells, hzs]) (Nat.le_succ 2) hm
        rw [types_cons ha]
        constructor
        · intro base len cap w' hle hst ty cs
          simp only [builtin, Builtin.append_, Sem.run_bind, run_ul hu, Result.andThen_ok, szO_spec hszO, run_ul ht, Sem.run_pure, List.getElem?_toArray, List.getElem?_cons_zero, List.getElem?_cons_succ, if_true, asInt, asIntOf, wl]
          rw [if_neg (by omega)]
          simp only [Sem.run_bind, run_ti hi, Result.andThen_ok]
          rw [if_neg hlim]
          simp only [Sem.run_bind, Sem.run_pure, Result.andThen_ok, Int.toNat_natCast]
          rw [if_pos hle]
          simp only [Sem.run_bind, Bool.not_true, Bool.false_eq_true, if_false, hcell, Result.andThen_ok]
          cases base with
          | none => simp only at hst; subst hst; simp only [Sem.run_pure, Result.andThen_ok]
          | some a => simp only at hst; simp only [Sem.run_bind, hst, Sem.run_pure, Result.andThen_ok]
        · intro base len cap old hgt h1 h2 hold
          let nc := (Question.appendCap (len + N) cap e).cut (w.tape w.drawn (.appendCap (len + N) cap e))
          refine ⟨nc, Nat.le_add_right _ _, fun ty cs => ?_⟩
          have hnext : Builtin.nextslicecap (len + N) cap * i.bytes ≤ 281474976710656 := by
            have h1' := next_le (len + N) cap hgt
            have h2' : i.bytes ≤ 4294967296 := Nat.le_trans (Nat.le_mul_of_pos_left _ (by omega)) h2
            calc Builtin.nextslicecap (len + N) cap * i.bytes ≤ (2 * (len + N) + 192) * i.bytes := Nat.mul_le_mul_right _ h1'
              _ = 2 * ((len + N) * i.bytes) + 192 * i.bytes := by rw [Nat.add_mul, Nat.mul_assoc]
              _ ≤ 281474976710656 := by omega
          have hneed : ¬ (((len + N : Nat) : Int) > IntKind.i64.max) := by
            have : len + N ≤ 4294967296 := Nat.le_trans (Nat.le_mul_of_pos_right _ h1) h2
            simp [IntKind.max, IntKind.signed, IntKind.bits]
            omega
          simp only [builtin, Builtin.append_, Sem.run_bind, run_ul hu, Result.andThen_ok, szO_spec hszO, run_ul ht, Sem.run_pure, List.getElem?_toArray, List.getElem?_cons_zero, List.getElem?_cons_succ, if_true, asInt, asIntOf, wl]
          rw [if_neg (by omega)]
          simp only [Sem.run_bind, run_ti hi, Result.andThen_ok]
          rw [if_neg hlim]
          simp only [Sem.run_bind, Sem.run_pure, Result.andThen_ok, Int.toNat_natCast]
          rw [if_neg (by omega)]
          simp only [Sem.run_bind, run_ti hi, Result.andThen_ok, hneed, false_and, if_false]
          rw [if_neg (by rw [e48n]; omega)]
          simp only [Sem.run_bind, run_choose, Question.forced, Bool.false_eq_true, if_false, Result.andThen_ok, run_ti hi, run_askRoom, hold { w with drawn := w.drawn + 1 } rfl, Bool.not_true, hcell, run_zero hi z2, newRow, run_newObj, Sem.run_pure]
          rfl
  · cases hm

theorem b_copy {as : Array TypeId} {args : Array Operand} {s e : TypeId} {ts : List TypeId} {y1 y2 : Opd} {ys : List Opd} {es : Nat} (ha : as.toList = s :: ts) (hy : copds nt args.toList = some (y1 :: y2 :: ys))
    (hu : P.underlying s = some (.slice e)) (hsz : szO P e = some es) : OpS P nt (.call { callee := .builtin .copy, args, argTypes := as }) (.copy es y1 y2) := by
  refine s_builtin hy ?_
  intro env h v h' ρ vals w hm hv mt fr
  simp only [List.map_cons] at hv
  obtain ⟨u1, us, rfl, r1, hv⟩ := vals_cons hv
  simp only [VRs] at hv
  obtain ⟨u2, us2, rfl, r2, hv⟩ := hv
  rw [types_cons ha]
  simp only [opA] at hm
  split at hm
  · rename_i i k len cap ex es' hs
    rw [hs] at r1
    simp only [VR] at r1
    obtain ⟨b, o, sz, a', cap', g1, rfl, g3, g4, g5, g6, g7⟩ := r1
    cases hes : es.beq es' with
    | false => rw [hes] at hm; cases hm
    | true =>
      rw [hes] at hm
      simp only [cond_true] at hm
      split at hm
      · cases hm
      · rename_i cs n hsrc
        split at hm
        · rename_i h2 hst
          cases hm
          obtain ⟨s1, s2, s3⟩ := srcA_rel (P := P) mt hsrc r2
          obtain ⟨nc, n1, n2, n3⟩ := s3 (Nat.min n len) (Nat.min_le_left _ _)
          obtain ⟨q1, q2⟩ := storeN_sim (P := P) mt g1 n2 hst
          refine ⟨goInt (Nat.min n len), _, ρ, fun ty cs => ?_, rfl, q2, noq (Nat.le_succ 2)⟩
          have hstore : (storeCells a' nc.toList).run P w = .ok () (w.setCells b (o + k) nc.toList) := by
            rcases g7 with rfl | hc0
            · exact q1
            · have hm0 : Nat.min n len = 0 := by have : n.min len ≤ len := Nat.min_le_right n len; omega
              have : nc.toList = [] := by
                have : nc.toList.length = 0 := by simp [n3, hm0]
                exact List.length_eq_zero_iff.1 this
              rw [this]
              rfl
          simp only [builtin, Builtin.copy_, Sem.run_bind, run_ul hu, Result.andThen_ok, List.getElem?_toArray, List.getElem?_cons_zero, List.getElem?_cons_succ, s1, szO_spec hsz, n1 w rfl, hstore, Sem.run_pure]
        · cases hm
  · rename_i hs
    rw [hs] at r1
    simp only [VR] at r1
    obtain ⟨rfl, _⟩ := r1
    split at hm
    · rename_i p hsrc
      cases hm
      obtain ⟨cs, n⟩ := p
      obtain ⟨s1, s2, s3⟩ := srcA_rel (P := P) mt hsrc r2
      obtain ⟨nc, n1, n2, n3⟩ := s3 0 (Nat.zero_le _)
      refine ⟨goInt 0, w, ρ, fun ty cs => ?_, rfl, Sim.refl mt, fun _ => ⟨rfl, rfl⟩⟩
      have hmin : n.min 0 = 0 := Nat.min_zero n
      simp only [builtin, Builtin.copy_, Sem.run_bind, run_ul hu, Result.andThen_ok, List.getElem?_toArray, List.getElem?_cons_zero, List.getElem?_cons_succ, s1, szO_spec hsz, hmin, n1 w rfl, Sem.run_pure]
      rfl
    · cases hm
  · cases hm

theorem b_clearM {as : Array TypeId} {args : Array Operand} {t k e : TypeId} {ts : List TypeId} {y : Opd} {ys : List Opd} (ha : as.toList = t :: ts) (hy : copds nt args.toList = some (y :: ys))
    (hu : P.underlying t = some (.map k e)) : OpS P nt (.call { callee := .builtin .clear, args, argTypes := as }) (.clearM y) := by
  refine s_builtin hy ?_
  intro env h v h' ρ vals w hm hv mt fr
  simp only [List.map_cons] at hv
  obtain ⟨x, xs, rfl, rx, _⟩ := vals_cons hv
  rw [types_cons ha]
  simp only [opA] at hm
  split at hm
  · rename_i r hs
    rw [hs] at rx
    simp only [VR] at rx
    obtain ⟨b, n, p1, rfl⟩ := rx
    split at hm
    · rename_i es clock hg
      cases hm
      obtain ⟨es', q1, q2⟩ := map_at mt p1 hg
      refine ⟨undef, { w with heap := w.heap.setIfInBounds b (.map #[] clock) }, ρ, fun ty cs => ?_, VR.undef ρ, Sim.set mt p1 hg trivial (fun c hc => heap_set_ne hc _) (by simp) rfl rfl rfl ⟨#[], heap_set_self q1 _, rfl, rfl, by simp⟩, noq (Nat.le_succ 2)⟩
      simp only [builtin, Builtin.clear_, Sem.run_bind, run_ul hu, Result.andThen_ok, List.getElem?_toArray, List.getElem?_cons_zero, run_getMap q1, run_setMap q1, Sem.run_pure]
      rfl
    · cases hm
  · rename_i hs
    cases hm
    rw [hs] at rx
    simp only [VR] at rx
    obtain ⟨rfl, _⟩ := rx
    refine ⟨undef, w, ρ, fun ty cs => ?_, VR.undef ρ, Sim.refl mt, fun _ => ⟨rfl, rfl⟩⟩
    simp only [builtin, Builtin.clear_, Sem.run_bind, run_ul hu, Result.andThen_ok, List.getElem?_toArray, List.getElem?_cons_zero, Sem.run_pure]
    rfl
  · cases hm
theorem b_clearL {as : Array TypeId} {args : Array Operand} {t e : TypeId} {ts : List TypeId} {y : Opd} {ys : List Opd} {z : AV} {es : Nat} (ha : as.toList = t :: ts) (hy : copds nt args.toList = some (y :: ys))
    (hu : P.underlying t = some (.slice e)) (hz : zeroO P e = some z) (hl : z.cells.length = es) (h0 : 0 < es) : OpS P nt (.call { callee := .builtin .clear, args, argTypes := as }) (.clearL es z.cells y) := by
  refine s_builtin hy ?_
  intro env h v h' ρ vals w hm hv mt fr
  simp only [List.map_cons] at hv
  obtain ⟨x, xs, rfl, rx, _⟩ := vals_cons hv
  rw [types_cons ha]
  obtain ⟨i, zv, z1, z2, z3⟩ := zeroO_spec hz
  have hzr := (VR.ofV ρ z3).cells
  simp only [opA] at hm
  split at hm
  · rename_i hs
    cases hm
    rw [hs] at rx
    simp only [VR] at rx
    obtain ⟨rfl, _⟩ := rx
    refine ⟨undef, w, ρ, fun ty cs => ?_, VR.undef ρ, Sim.refl mt, fun _ => ⟨rfl, rfl⟩⟩
    simp only [builtin, Builtin.clear_, Sem.run_bind, run_ul hu, Result.andThen_ok, List.getElem?_toArray, List.getElem?_cons_zero, Sem.run_pure]
    rfl
  · rename_i i1 k len cap ex es' hs
    rw [hs] at rx
    simp only [VR] at rx
    obtain ⟨b, o, sz, a', cap', g1, rfl, g3, g4, g5, g6, g7⟩ := rx
    cases hes : es.beq es' with
    | false => rw [hes] at hm; cases hm
    | true =>
      rw [hes] at hm
      simp only [cond_true] at hm
      split at hm
      · rename_i h2 hst
        cases hm
        have hzeros : VRs ρ (zerosA z.cells len) (Builtin.zeroCells zv.cells len).toList := zeros_rel hzr (by omega) len
        obtain ⟨q1, q2⟩ := storeN_sim (P := P) mt g1 hzeros hst
        refine ⟨undef, _, ρ, fun ty cs => ?_, VR.undef ρ, q2, noq (Nat.le_succ 2)⟩
        cases len with
        | zero =>
          simp only [builtin, Builtin.clear_, Sem.run_bind, run_ul hu, Result.andThen_ok, List.getElem?_toArray, List.getElem?_cons_zero, Sem.run_pure]
          have : (Builtin.zeroCells zv.cells 0).toList = [] := by simp [Builtin.zeroCells, show Array.range 0 = #[] from rfl]
          rw [this]
          rfl
        | succ len =>
          have ha : a' = ⟨b, o + k, none⟩ := g7.resolve_right (by omega)
          subst ha
          simp only [builtin, Builtin.clear_, Sem.run_bind, run_ul hu, Result.andThen_ok, List.getElem?_toArray, List.getElem?_cons_zero, run_zero z1 z2, q1, Sem.run_pure]
          rfl
      · cases hm
  · cases hm
end
end Go.Ab
