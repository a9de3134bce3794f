/- Each operation of the mini-machine is the model's (1: values, memory). -/
import Derived.Test.YtljkcecalallmaaGreatDoorAb3
namespace Go.Ab
open Go
section
variable {P : Program} {nt : Nat}

theorem s_move {x : Operand} {y : Opd} (hx : copd nt x = some y) : OpS P nt (.move x) (.mv y) := by
  intro env h v h' ρ a w hm he mt _
  simp only [opA, Option.some.injEq, Prod.mk.injEq] at hm
  obtain ⟨rfl, rfl⟩ := hm
  exact ⟨a.eval x, w, ρ, .inl fun o ho => by simp [execOp, ho], opd_rel he hx, Sim.refl mt, fun _ => ⟨rfl, rfl⟩⟩
theorem s_assign {x : Operand} {y : Opd} (hx : copd nt x = some y) : OpS P nt (.assign x) (.mv y) := by
  intro env h v h' ρ a w hm he mt _
  simp only [opA, Option.some.injEq, Prod.mk.injEq] at hm
  obtain ⟨rfl, rfl⟩ := hm
  exact ⟨a.eval x, w, ρ, .inl fun o ho => by simp [execOp, ho], opd_rel he hx, Sim.refl mt, fun _ => ⟨rfl, rfl⟩⟩

theorem s_pick {c x y : Operand} {c' x' y' : Opd} (hc : copd nt c = some c') (hx : copd nt x = some x') (hy : copd nt y = some y') : OpS P nt (.pick c x y) (.pick c' x' y') := by
  intro env h v h' ρ a w hm he mt _
  have rc := opd_rel he hc
  simp only [opA] at hm
  split at hm
  · rename_i t ht
    simp only [Option.some.injEq, Prod.mk.injEq] at hm
    obtain ⟨rfl, rfl⟩ := hm
    rw [ht] at rc
    simp only [VR] at rc
    refine ⟨if t then a.eval x else a.eval y, w, ρ, .inl fun o ho => by simp [execOp, ho, rc, asBool], ?_, Sim.refl mt, fun _ => ⟨rfl, rfl⟩⟩
    cases t
    · exact opd_rel he hy
    · exact opd_rel he hx
  · cases hm

theorem s_alloc {t : TypeId} {z : AV} (hz : zeroO P t = some z) : OpS P nt (.alloc t) (.alloc t z.cells) := by
  intro env h v h' ρ a w hm he mt fr
  simp only [opA, Option.some.injEq, Prod.mk.injEq] at hm
  obtain ⟨rfl, rfl⟩ := hm
  obtain ⟨i, zv, h1, h2, h3⟩ := zeroO_spec hz
  refine ⟨.pointer (some ⟨w.heap.size, 0, none⟩), _, _, .inl fun o ho => ?_, ?_, newRow_sim (e := t) (E := t) (c' := zv.cells) (more := []) mt fr ⟨_, by simp, (VR.ofV ρ h3).cells⟩, noq (Nat.le_refl 2)⟩
  · simp [execOp, ho, Instr.alloc, run_zero h1 h2, newVar, newRow]
  · exact ⟨_, _, _, upd_self _ _ _, rfl⟩

theorem s_box {t : TypeId} {x : Operand} {y : Opd} (hx : copd nt x = some y) : OpS P nt (.box t x) (.box t y) := by
  intro env h v h' ρ a w hm he mt fr
  simp only [opA, Option.some.injEq, Prod.mk.injEq] at hm
  obtain ⟨rfl, rfl⟩ := hm
  have rx := opd_rel he hx
  have key : ∀ v : AV, (∃ m, v = .mp m) ∨ boxObj t v = .cells v.cells t false := fun v => by cases v <;> first | exact .inl ⟨_, rfl⟩ | exact .inr rfl
  rcases key (y.ev env) with ⟨m, e⟩ | e
  · rw [e] at rx
    simp only [VR] at rx
    obtain ⟨b, n, p1, rx⟩ := rx
    rw [e] at fr ⊢
    have p2 : m ≠ h.sz := by
      intro e2
      subst e2
      have := fr h.sz (Nat.le_refl _) (by simp)
      rw [this] at p1
      cases p1
    refine ⟨.pointer (some ⟨w.heap.size, 0, none⟩), _, _, .inl fun o ho => ?_, ⟨_, _, _, upd_self _ _ _, rfl⟩, Sim.alloc mt (by simpa [boxObj] using fr) (.mbox m) (.cells #[.map (some b)] t (0, 0)) 1 fun w' hw' => ⟨⟨b, n, t, (0, 0), by rw [upd_ne p2]; exact p1, hw'⟩, rfl⟩, noq (Nat.le_refl 2)⟩
    simp [execOp, ho, Instr.box, newVar, newRow, rx]
    rfl
  · rw [e] at fr ⊢
    refine ⟨.pointer (some ⟨w.heap.size, 0, none⟩), _, _, .inl fun o ho => ?_, ?_, newRow_sim (e := t) (E := t) (c' := (a.eval x).cells) (more := []) mt fr ⟨_, by simp, (opd_rel he hx).cells⟩, noq (Nat.le_refl 2)⟩
    · simp [execOp, ho, Instr.box, newVar, newRow]
    · exact ⟨_, _, _, upd_self _ _ _, rfl⟩

theorem foldl_sets (off : Nat) : ∀ (l : List Value) (k : Nat) (cs : Array Value), off + k + l.length ≤ cs.size →
    ((l.zipIdx k).foldl (fun (cs : Array Value) (x : Value × Nat) => cs.setIfInBounds (off + x.2) x.1) cs).toList = cs.toList.take (off + k) ++ l ++ cs.toList.drop (off + k + l.length)
  | [], k, cs, h => by simp
  | v :: l, k, cs, h => by
    simp only [List.zipIdx_cons, List.foldl_cons]
    rw [foldl_sets off l (k + 1) _ (by simp at h ⊢; omega)]
    simp only [Array.toList_setIfInBounds, List.length_cons] at h ⊢
    rw [show off + (k + 1) = off + k + 1 by omega, show off + k + 1 + l.length = off + k + (l.length + 1) by omega]
    rw [List.drop_set_of_lt (by omega)]
    have hlt : off + k < cs.toList.length := by simp; omega
    rw [List.take_add_one, List.take_set_of_le (by omega), List.getElem?_set_self hlt]
    simp

theorem fill_rel {ρ : Rn} {env : Env} {a : Act} (he : EnvR ρ env a nt) {place : Nat → Option (Nat × Nat)} :
    ∀ {ps : List (Nat × Operand)} {qs : List (Nat × Nat × Opd)}, partsO nt place ps = some qs → ∀ {cs cs' : List AV} {cells : Array Value}, VRs ρ cs cells.toList →
      fillA cs (qs.map fun p => (p.1, p.2.1, p.2.2.ev env)) = some cs' →
      cs'.length = cs.length ∧ ∃ cells', Instr.fill place cells (ps.map fun p => (p.1, a.eval p.2)) = some cells' ∧ VRs ρ cs' cells'.toList
  | [], qs, hp, cs, cs', cells, hc, hf => by
    simp only [partsO, Option.some.injEq] at hp
    subst hp
    simp only [List.map_nil, fillA, Option.some.injEq] at hf
    subst hf
    exact ⟨rfl, cells, rfl, hc⟩
  | (i, x) :: ps, qs, hp, cs, cs', cells, hc, hf => by
    simp only [partsO] at hp
    split at hp
    · rename_i off size y ps' h1 h2 h3
      simp only [Option.some.injEq] at hp
      subst hp
      simp only [List.map_cons, fillA] at hf
      have hx := opd_rel he h2
      have hxc := hx.cells
      have hlen := hxc.length
      have hcl := hc.length
      cases hb : ((y.ev env).cells.length.beq size && (off + (y.ev env).cells.length).ble cs.length) with
      | false => rw [hb] at hf; cases hf
      | true =>
        rw [hb] at hf
        simp only [cond_true] at hf
        rw [Bool.and_eq_true] at hb
        have b1 := ofBeq hb.1
        have b2 := Nat.le_of_ble_eq_true hb.2
        have hsz : (a.eval x).cells.size = size := by rw [← Array.length_toList, ← hlen, b1]
        have hcs : cs.length = cells.size := by rw [hcl]; simp
        have hfold := foldl_sets off (a.eval x).cells.toList 0 cells (by simp; omega)
        simp only [Nat.add_zero] at hfold
        have key := fill_rel he h3 (cells := ((a.eval x).cells.zipIdx.foldl (fun cs (c, j) => cs.setIfInBounds (off + j) c) cells)) (cs := cs.take off ++ (y.ev env).cells ++ cs.drop (off + (y.ev env).cells.length)) (by
          rw [← Array.foldl_toList, Array.toList_zipIdx]
          rw [hfold]
          rw [← hlen]
          exact ((hc.take off).append hxc).append (hc.drop _)) hf
        obtain ⟨k0, cells', k1, k2⟩ := key
        refine ⟨by rw [k0]; simp; omega, cells', ?_, k2⟩
        simp only [List.map_cons, Instr.fill, h1]
        rw [if_neg (by simp; omega)]
        exact k1
    · cases hp

theorem mapM_fields {w : World} : ∀ {fs : List Field} {pl : List (Nat × Nat)}, fieldsO P fs = some pl →
    (fs.mapM (m := Sem) fun f => do pure (f.offset, ← sizeOf f.type)).run P w = .ok pl w
  | [], pl, h => by simp only [fieldsO, Option.some.injEq] at h; subst h; simp
  | f :: fs, pl, h => by
    simp only [fieldsO] at h
    split at h
    · rename_i n r h1 h2
      simp only [Option.some.injEq] at h
      subst h
      have ih := mapM_fields (w := w) h2
      simp only [List.mapM_cons, Sem.run_bind, szO_spec h1, Result.andThen_ok, Sem.run_pure, ih]
    · cases h

theorem s_buildS {t : TypeId} {parts : Array (Nat × Operand)} {z : AV} {fs : Array Field} {pl : List (Nat × Nat)} {qs : List (Nat × Nat × Opd)} (hz : zeroO P t = some z)
    (hu : P.underlying t = some (.struct fs)) (hp : fieldsO P fs.toList = some pl) (hq : partsO nt (fun i => pl[i]?) parts.toList = some qs) : OpS P nt (.build t parts) (.build z.cells qs) := by
  intro env h v h' ρ a w hm he mt fr
  obtain ⟨i, zv, h1, h2, h3⟩ := zeroO_spec hz
  simp only [opA] at hm
  split at hm
  · rename_i cs hcs
    simp only [Option.some.injEq, Prod.mk.injEq] at hm
    obtain ⟨rfl, rfl⟩ := hm
    obtain ⟨_, cells', k1, k2⟩ := fill_rel he hq (cells := zv.cells) (VR.ofV ρ h3).cells hcs
    refine ⟨.agg cells', w, ρ, .inl fun o ho => ?_, ⟨_, rfl, k2⟩, Sim.refl mt, fun _ => ⟨rfl, rfl⟩⟩
    have hmm := mapM_fields (w := w) hp
    simp only [execOp, ho, Instr.build, Sem.run_bind, run_zero h1 h2, Result.andThen_ok, run_ul hu]
    rw [Array.mapM_eq_mapM_toList]
    simp only [Sem.run_map, hmm, Result.andThen_ok]
    have : (parts.map fun p => (p.1, a.eval p.2)).toList = parts.toList.map fun p => (p.1, a.eval p.2) := by simp
    simp only [List.getElem?_toArray]
    rw [show (Array.map (fun x => match x with | (i, x) => (i, a.eval x)) parts).toList = parts.toList.map fun p => (p.1, a.eval p.2) by simp]
    rw [k1]
    simp
  · cases hm
theorem s_buildA {t : TypeId} {parts : Array (Nat × Operand)} {z : AV} {len : Nat} {e : TypeId} {n : Nat} {qs : List (Nat × Nat × Opd)} (hz : zeroO P t = some z)
    (hu : P.underlying t = some (.array len e)) (hn : szO P e = some n) (hq : partsO nt (fun i => some (i * n, n)) parts.toList = some qs) : OpS P nt (.build t parts) (.build z.cells qs) := by
  intro env h v h' ρ a w hm he mt fr
  obtain ⟨i, zv, h1, h2, h3⟩ := zeroO_spec hz
  simp only [opA] at hm
  split at hm
  · rename_i cs hcs
    simp only [Option.some.injEq, Prod.mk.injEq] at hm
    obtain ⟨rfl, rfl⟩ := hm
    obtain ⟨_, cells', k1, k2⟩ := fill_rel he hq (cells := zv.cells) (VR.ofV ρ h3).cells hcs
    refine ⟨.agg cells', w, ρ, .inl fun o ho => ?_, ⟨_, rfl, k2⟩, Sim.refl mt, fun _ => ⟨rfl, rfl⟩⟩
    simp only [execOp, ho, Instr.build, Sem.run_bind, run_zero h1 h2, Result.andThen_ok, run_ul hu, szO_spec hn]
    rw [show (Array.map (fun x => match x with | (i, x) => (i, a.eval x)) parts).toList = parts.toList.map fun p => (p.1, a.eval p.2) by simp]
    rw [k1]
    simp
  · cases hm

theorem length_zerosA (z : List AV) : ∀ n, (zerosA z n).length = n * z.length
  | 0 => by simp [zerosA]
  | n + 1 => by simp [zerosA, length_zerosA z n, Nat.succ_mul]; omega
theorem get_zerosA (z : List AV) (hz : 0 < z.length) : ∀ (n i : Nat), i < n * z.length → (zerosA z n)[i]? = z[i % z.length]?
  | 0, i, h => by simp at h
  | n + 1, i, h => by
    simp only [zerosA]
    by_cases hi : i < z.length
    · rw [List.getElem?_append_left hi, Nat.mod_eq_of_lt hi]
    · rw [List.getElem?_append_right (by omega), get_zerosA z hz n (i - z.length) (by rw [Nat.succ_mul] at h; omega), Nat.mod_eq_sub_mod (by omega : i ≥ z.length)]
theorem zeros_rel {ρ : Rn} {z : List AV} {zc : Array Value} (h : VRs ρ z zc.toList) (hz : 0 < z.length) (n : Nat) :
    VRs ρ (zerosA z n) ((Array.range (n * zc.size)).map (zc[· % zc.size]!)).toList := by
  have hl : z.length = zc.size := by rw [h.length]; simp
  refine VRs.of_get (by simp [length_zerosA, hl]) fun i a v h1 h2 => ?_
  have hi : i < n * z.length := by
    have := (List.getElem?_eq_some_iff.1 h1).1
    rwa [length_zerosA] at this
  rw [get_zerosA z hz n i hi] at h1
  have hlt : i % z.length < z.length := Nat.mod_lt _ hz
  obtain ⟨u, hu, hr⟩ := h.get h1
  rw [Array.getElem?_toList, Array.getElem?_map, Array.getElem?_range, if_pos (by rwa [← hl])] at h2
  simp only [Option.map_some, Option.some.injEq] at h2
  rw [← hl] at h2
  have hlt' : i % z.length < zc.size := by omega
  rw [Array.getElem?_toList, Array.getElem?_eq_getElem hlt'] at hu
  rw [getElem!_pos zc _ hlt'] at h2
  cases hu
  subst h2
  exact hr

theorem s_bslice {t e : TypeId} {len : Nat} {parts : Array (Nat × Operand)} {z : AV} {n : Nat} {qs : List (Nat × Nat × Opd)} (hu : P.underlying t = some (.slice e)) (hz : zeroO P e = some z)
    (hn : szO P e = some n) (hq : partsO nt (fun i => some (i * n, n)) parts.toList = some qs) (h1 : z.cells.length = n) (h2 : 0 < n) (h3 : len * n ≤ 16777216) :
    OpS P nt (.buildSlice t len parts) (.bslice e n len z.cells qs) := by
  intro env h v h' ρ a w hm he mt fr
  obtain ⟨i, zv, g1, g2, g3⟩ := zeroO_spec hz
  simp only [opA] at hm
  split at hm
  · rename_i cs hcs
    simp only [Option.some.injEq, Prod.mk.injEq] at hm
    obtain ⟨rfl, rfl⟩ := hm
    have hzr := (VR.ofV ρ g3).cells
    have hzs : zv.cells.size = n := by rw [← h1, hzr.length]; simp
    have hzeros := zeros_rel hzr (by omega) len
    obtain ⟨k0, cells', k1, k2⟩ := fill_rel he hq hzeros hcs
    have hcl : cells'.size = len * n := by rw [← Array.length_toList, ← k2.length, k0, length_zerosA, h1]
    refine ⟨.slice (some ⟨w.heap.size, 0, none⟩) len len, _, _, .inl fun o ho => ?_, ?_, newRow_sim (e := e) (E := e) (c' := cells') (more := []) mt fr ⟨_, by simp, k2⟩, noq (Nat.le_refl 2)⟩
    · simp only [execOp, ho, Instr.buildSlice, Sem.run_bind, run_ul hu, Result.andThen_ok, szO_spec hn]
      rw [if_neg (by omega)]
      by_cases h0 : len * n = 0
      · have hlen0 : len = 0 := by
          rcases Nat.mul_eq_zero.1 h0 with h | h
          · exact h
          · omega
        rw [if_pos h0, pure_bind, h0]
        rw [hzs, h0] at k1
        rw [show (Array.map (fun x => match x with | (i, x) => (i, a.eval x)) parts).toList = parts.toList.map fun p => (p.1, a.eval p.2) by simp]
        have e0 : ((Array.range 0).map fun x => (#[] : Array Value)[x % (#[] : Array Value).size]!) = (Array.range 0).map (fun x => zv.cells[x % n]!) := by simp
        rw [e0, k1]
        simp [newRow]
      · rw [if_neg h0]
        simp only [Sem.run_bind, run_zero g1 g2, Sem.run_pure, Result.andThen_ok]
        rw [hzs] at k1 ⊢
        rw [show (Array.map (fun x => match x with | (i, x) => (i, a.eval x)) parts).toList = parts.toList.map fun p => (p.1, a.eval p.2) by simp]
        rw [k1]
        simp [newRow]
    · exact ⟨w.heap.size, 0, cells'.size, _, len, upd_self _ _ _, rfl, Nat.le_refl _, Nat.le_refl _, fun _ => rfl, by rw [hcl]; omega, .inl rfl⟩
  · cases hm

theorem aggO_some {t : TypeId} {n : Nat} (h : aggO P t = some (some n)) (w : World) : (isAgg t).run P w = .ok true w ∧ (sizeOf t).run P w = .ok n w := by
  unfold aggO at h
  split at h
  · rename_i hu
    cases e : szO P t with
    | none => rw [e] at h; cases h
    | some m => rw [e] at h; cases h; exact ⟨by simp [isAgg, run_ul hu], szO_spec e w⟩
  · rename_i hu
    cases e : szO P t with
    | none => rw [e] at h; cases h
    | some m => rw [e] at h; cases h; exact ⟨by simp [isAgg, run_ul hu], szO_spec e w⟩
  · cases h
  · cases h
theorem aggO_none {t : TypeId} (h : aggO P t = some none) (w : World) : (isAgg t).run P w = .ok false w := by
  unfold aggO at h
  split at h
  · cases e : szO P t <;> rw [e] at h <;> cases h
  · cases e : szO P t <;> rw [e] at h <;> cases h
  · rename_i d h1 h2 hu
    simp only [isAgg, Sem.run_bind, run_ul hu, Result.andThen_ok]
    cases d <;> first | rfl | exact (h1 _ rfl).elim | exact (h2 _ _ rfl).elim
  · cases h
def _root_.Go.Ab.Heap.loadO (h : Heap) (i k : Nat) : Option Nat → Option AV
  | none => h.load1 i k
  | some n => (h.loadN i k n).map .agg

theorem run_loadVar_rel {ρ : Rn} {h : Heap} {w : World} (m : Match ρ h w) {t : TypeId} {n : Option Nat} (hn : aggO P t = some n) {i b o sz k : Nat} (hi : ρ i = some (b, o, sz)) {v : AV}
    (hl : h.loadO i k n = some v) : ∃ u, (loadVar t ⟨b, o + k, none⟩).run P w = .ok u w ∧ VR ρ v u := by
  cases n with
  | none =>
    obtain ⟨u, h1, h2⟩ := load1_cell m hi hl
    exact ⟨u, by simp [loadVar, aggO_none hn, h1], h2⟩
  | some n =>
    simp only [Heap.loadO] at hl
    cases e : h.loadN i k n with
    | none => rw [e] at hl; cases hl
    | some cs =>
      rw [e] at hl
      cases hl
      obtain ⟨vs, h1, h2, h3⟩ := run_loadCells_rel (P := P) m hi e
      have := aggO_some hn w
      exact ⟨.agg vs, by simp [loadVar, this.1, this.2, h3], vs, rfl, h1⟩

theorem s_load {t : TypeId} {x : Operand} {y : Opd} {n : Option Nat} (hn : aggO P t = some n) (hx : copd nt x = some y) : OpS P nt (.load t x) (.load n y) := by
  intro env h v h' ρ a w hm he mt fr
  have rx := opd_rel he hx
  simp only [opA] at hm
  split at hm
  · rename_i i k hik
    rw [hik] at rx
    simp only [VR] at rx
    obtain ⟨b, o, sz, h1, h2⟩ := rx
    have hl : h.loadO i k n = some v ∧ h' = h := by
      cases n with
      | none =>
        simp only [Heap.loadO] at hm ⊢
        split at hm
        · rename_i e; cases hm; exact ⟨e, rfl⟩
        · cases hm
      | some n =>
        simp only [Heap.loadO] at hm ⊢
        split at hm
        · rename_i e; cases hm; exact ⟨by rw [e]; rfl, rfl⟩
        · cases hm
    obtain ⟨hl, rfl⟩ := hl
    obtain ⟨u, g1, g2⟩ := run_loadVar_rel (P := P) mt hn h1 hl
    exact ⟨u, w, ρ, .inl fun o' ho => by simp [execOp, ho, Instr.loadAt, Instr.sureAddr, h2, g1], g2, Sim.refl mt, fun _ => ⟨rfl, rfl⟩⟩
  · cases hm

theorem s_store {t : TypeId} {x y : Operand} {x' y' : Opd} {n : Nat} (hn : szO P t = some n) (hx : copd nt x = some x') (hy : copd nt y = some y') : OpS P nt (.store t x y) (.store n x' y') := by
  intro env h v h' ρ a w hm he mt fr
  have rx := opd_rel he hx
  have ry := (opd_rel he hy).cells
  simp only [opA] at hm
  split at hm
  · rename_i i k hik
    rw [hik] at rx
    simp only [VR] at rx
    obtain ⟨b, o, sz, h1, h2⟩ := rx
    cases hb : (y'.ev env).cells.length.beq n with
    | false => rw [hb] at hm; cases hm
    | true =>
      rw [hb] at hm
      simp only [cond_true] at hm
      have hb' := ofBeq hb
      split at hm
      · rename_i h2' hst
        cases hm
        obtain ⟨g1, g2⟩ := storeN_sim (P := P) mt h1 ry hst
        refine ⟨undef, _, ρ, .inr ⟨rfl, fun o' ho => ?_⟩, VR.undef ρ, g2, noq (Nat.le_succ 2)⟩
        have : (a.eval y).cells.size = n := by rw [← Array.length_toList, ← ry.length, hb']
        simp [execOp, ho, Instr.storeAt, Instr.sureAddr, h2, storeVar, szO_spec hn, this, g1]
      · cases hm
  · cases hm

theorem s_nilck {x : Operand} {y : Opd} (hx : copd nt x = some y) : OpS P nt (.nilCheck x) (.nilck y) := by
  intro env h v h' ρ a w hm he mt fr
  have rx := opd_rel he hx
  simp only [opA] at hm
  split at hm
  · rename_i i k hik
    cases hm
    rw [hik] at rx
    have rx' := rx
    simp only [VR] at rx
    obtain ⟨b, o, sz, h1, h2⟩ := rx
    exact ⟨a.eval x, w, ρ, .inl fun o' ho => by simp [execOp, ho, h2], rx', Sim.refl mt, fun _ => ⟨rfl, rfl⟩⟩
  · rename_i f p q hik
    cases hm
    rw [hik] at rx
    have rx' := rx
    simp only [VR] at rx
    obtain ⟨a', b', h2, _⟩ := rx
    exact ⟨a.eval x, w, ρ, .inl fun o' ho => by simp [execOp, ho, h2], rx', Sim.refl mt, fun _ => ⟨rfl, rfl⟩⟩
  · cases hm

theorem s_not {t : TypeId} {x : Operand} {y : Opd} (hx : copd nt x = some y) : OpS P nt (.unOp .not t x) (.not y) := by
  intro env h v h' ρ a w hm he mt fr
  have rx := opd_rel he hx
  simp only [opA] at hm
  split at hm
  · rename_i b hb
    cases hm
    rw [hb] at rx
    simp only [VR] at rx
    exact ⟨.bool !b, w, ρ, .inl fun o' ho => by simp [execOp, ho, rx, Op.unary], rfl, Sim.refl mt, fun _ => ⟨rfl, rfl⟩⟩
  · cases hm

theorem s_mkfn {f : FuncId} {p q : Array Operand} {p' q' : List Opd} (hp : copds nt p.toList = some p') (hq : copds nt q.toList = some q') : OpS P nt (.makeFunc (.func f) p q) (.mkfn f p' q') := by
  intro env h v h' ρ a w hm he mt fr
  simp only [opA, Option.some.injEq, Prod.mk.injEq] at hm
  obtain ⟨rfl, rfl⟩ := hm
  refine ⟨.func (.func f) (p.map a.eval) (q.map a.eval), w, ρ, .inl fun o' ho => by simp [execOp, ho, Instr.makeFunc], ?_, Sim.refl mt, fun _ => ⟨rfl, rfl⟩⟩
  exact ⟨_, _, rfl, by simpa using opds_rel he hp, by simpa using opds_rel he hq⟩

theorem s_mkmap {t : TypeId} : OpS P nt (.makeMap t none) .mkmap := by
  intro env h v h' ρ a w hm he mt fr
  simp only [opA, Option.some.injEq, Prod.mk.injEq] at hm
  obtain ⟨rfl, rfl⟩ := hm
  refine ⟨.map (some w.heap.size), _, _, .inl fun o' ho => by simp [execOp, ho, Instr.makeMap], ⟨_, 0, upd_self _ _ _, rfl⟩, Sim.alloc mt fr _ (.map #[] 0) 0 fun w' hw' => ⟨#[], hw', rfl, rfl, fun i x y h => by simp at h⟩, noq (Nat.le_refl 2)⟩
end
end Go.Ab
