/- Each operation of the mini-machine is the model's (3: conversions, slices, fields, indexes, maps). -/
import Derived.Test.YtljkcecalallmaaGreatDoorAb5
namespace Go.Ab
open Go
section
variable {P : Program} {nt : Nat}

theorem s_convI {s d : TypeId} {x : Operand} {y : Opd} {k k' : IntKind} (hs : P.underlying s = some (.int k')) (hd : P.underlying d = some (.int k)) (hx : copd nt x = some y) :
    OpS P nt (.convert s d x) (.convI k y) := by
  intro env h v h' ρ a w hm he mt fr
  have rx := opd_rel he hx
  simp only [opA] at hm
  split at hm
  · rename_i k1 n hn
    cases hm
    rw [hn] at rx
    simp only [VR] at rx
    rw [wrapA_eq]
    exact ⟨.int k (k.wrap n), w, ρ, .inl fun o' ho => by simp [execOp, ho, convert, run_ul hs, run_ul hd, rx, Conv.intToInt], rfl, Sim.refl mt, fun _ => ⟨rfl, rfl⟩⟩
  · cases hm

theorem s_extract {x : Operand} {y : Opd} {i : Nat} (hx : copd nt x = some y) : OpS P nt (.extract x i) (.extract y i) := by
  intro env h v h' ρ a w hm he mt fr
  have rx := opd_rel he hx
  simp only [opA] at hm
  split at hm
  · rename_i vs hvs
    split at hm
    · rename_i v' hv
      cases hm
      rw [hvs] at rx
      simp only [VR] at rx
      obtain ⟨vs', h1, h2⟩ := rx
      obtain ⟨u, hu, hr⟩ := h2.get hv
      rw [Array.getElem?_toList] at hu
      exact ⟨u, w, ρ, .inl fun o' ho => by simp [execOp, ho, Instr.extract, h1, hu], hr, Sim.refl mt, fun _ => ⟨rfl, rfl⟩⟩
    · cases hm
  · cases hm


theorem run_resolve_builtin (a : Act) (o : Oper) (b : Builtin) (args : Array Operand) (argTypes : Array TypeId) (ho : o.op = .call { callee := .builtin b, args, argTypes }) :
    execOp a.eval o = builtin b argTypes o.type (args.map fun | .const _ => true | _ => false) (args.map a.eval) := by
  simp only [execOp, ho, resolve]
  rfl

theorem s_builtin {b : Builtin} {argTypes : Array TypeId} {args : Array Operand} {ys : List Opd} {m : MOp} (hy : copds nt args.toList = some ys)
    (key : ∀ env h v h' ρ (vals : Array Value) w, opA m env h = some (v, h') → VRs ρ (ys.map (·.ev env)) vals.toList → Match ρ h w → Free ρ h.sz h'.sz →
      ∃ u w' ρ', (∀ ty cs, (builtin b argTypes ty cs vals).run P w = .ok (.value u) w') ∧ VR ρ' v u ∧ Sim ρ h w ρ' h' w' ∧ (m.cls ≤ 1 → w' = w ∧ ρ' = ρ)) :
    OpS P nt (.call { callee := .builtin b, args, argTypes }) m := by
  intro env h v h' ρ a w hm he mt fr
  obtain ⟨u, w', ρ', h1, h2, h3, h4⟩ := key env h v h' ρ (args.map a.eval) w hm (by simpa using opds_rel he hy) mt fr
  exact ⟨u, w', ρ', .inl fun o ho => by rw [run_resolve_builtin a o b args argTypes ho]; exact h1 _ _, h2, h3, h4⟩

theorem vals_cons {ρ : Rn} {a : AV} {as : List AV} {vals : Array Value} (h : VRs ρ (a :: as) vals.toList) : ∃ v vs, vals = (v :: vs).toArray ∧ VR ρ a v ∧ VRs ρ as vs := by
  simp only [VRs] at h
  obtain ⟨v, vs, h1, h2, h3⟩ := h
  exact ⟨v, vs, by rw [← h1], h2, h3⟩
theorem types_cons {as : Array TypeId} {t : TypeId} {ts : List TypeId} (h : as.toList = t :: ts) : as = (t :: ts).toArray := by rw [← h]

theorem b_lenS {as : Array TypeId} {args : Array Operand} {t : TypeId} {ts : List TypeId} {y : Opd} {ys : List Opd} (ha : as.toList = t :: ts) (hy : copds nt args.toList = some (y :: ys))
    (hu : P.underlying t = some .string) : OpS P nt (.call { callee := .builtin .len, args, argTypes := as }) (.lenS y) := by
  refine s_builtin hy ?_
  intro env h v h' ρ vals w hm hv mt fr
  simp only [List.map_cons] at hv
  obtain ⟨x, xs, rfl, rx, _⟩ := vals_cons hv
  rw [types_cons ha]
  simp only [opA] at hm
  split at hm
  · rename_i s hs
    cases hm
    rw [hs] at rx
    simp only [VR] at rx
    exact ⟨goInt s.length, w, ρ, fun _ _ => by simp [builtin, Builtin.len_, run_ul hu, rx, str_size], rfl, Sim.refl mt, fun _ => ⟨rfl, rfl⟩⟩
  · cases hm
theorem b_lenL {as : Array TypeId} {args : Array Operand} {t : TypeId} {ts : List TypeId} {y : Opd} {ys : List Opd} (ha : as.toList = t :: ts) (hy : copds nt args.toList = some (y :: ys))
    {e : TypeId} (hu : P.underlying t = some (.slice e)) : OpS P nt (.call { callee := .builtin .len, args, argTypes := as }) (.lenL y) := by
  refine s_builtin hy ?_
  intro env h v h' ρ vals w hm hv mt fr
  simp only [List.map_cons] at hv
  obtain ⟨x, xs, rfl, rx, _⟩ := vals_cons hv
  rw [types_cons ha]
  simp only [opA] at hm
  split at hm
  · rename_i hs
    cases hm
    rw [hs] at rx
    simp only [VR] at rx
    obtain ⟨_, _, _, _, _, _, rfl, _⟩ := rx
    exact ⟨_, w, ρ, fun _ _ => by simp [builtin, Builtin.len_, run_ul hu]; rfl, rfl, Sim.refl mt, fun _ => ⟨rfl, rfl⟩⟩
  · rename_i hs
    cases hm
    rw [hs] at rx
    simp only [VR] at rx
    obtain ⟨rfl, _⟩ := rx
    exact ⟨_, w, ρ, fun _ _ => by simp [builtin, Builtin.len_, run_ul hu]; rfl, rfl, Sim.refl mt, fun _ => ⟨rfl, rfl⟩⟩
  · cases hm
theorem b_lenA {as : Array TypeId} {args : Array Operand} {t : TypeId} {ts : List TypeId} {y : Opd} {ys : List Opd} (ha : as.toList = t :: ts) (hy : copds nt args.toList = some (y :: ys))
    {e : TypeId} {n : Nat} (hu : P.underlying t = some (.array n e)) : OpS P nt (.call { callee := .builtin .len, args, argTypes := as }) (.mv (.c (i64v n))) := by
  refine s_builtin hy ?_
  intro env h v h' ρ vals w hm hv mt fr
  simp only [List.map_cons] at hv
  obtain ⟨x, xs, rfl, rx, _⟩ := vals_cons hv
  rw [types_cons ha]
  simp only [opA, Opd.ev] at hm
  cases hm
  exact ⟨goInt n, w, ρ, fun _ _ => by simp [builtin, Builtin.len_, run_ul hu], rfl, Sim.refl mt, fun _ => ⟨rfl, rfl⟩⟩

/-- a map behind an id -/
theorem map_at {ρ : Rn} {h : Heap} {w : World} (m : Match ρ h w) {r b n : Nat} (hr : ρ r = some (b, 0, n)) {es : List (AV × AV × Nat)} {clock : Nat} (hg : h.get r = some (.map es clock)) :
    ∃ es', w.heap[b]? = some (.map es' clock) ∧ MRs ρ es es'.toList := by
  obtain ⟨es', h1, _, h2⟩ := m.objs r b 0 n hr _ hg
  exact ⟨es', h1, h2⟩
theorem run_getMap {w : World} {b : Nat} {es : Array MapEntry} {clock : Nat} (h : w.heap[b]? = some (.map es clock)) : (getObj b).run P w = .ok (.map es clock) w := by
  simp [getObj, Sem.run, h]
theorem run_setMap {w : World} {b : Nat} {es : Array MapEntry} {clock : Nat} (h : w.heap[b]? = some (.map es clock)) (o : Obj) : (setObj b o).run P w = .ok () { w with heap := w.heap.setIfInBounds b o } := by
  simp [setObj, Sem.run, h]

theorem b_lenM {as : Array TypeId} {args : Array Operand} {t : TypeId} {ts : List TypeId} {y : Opd} {ys : List Opd} (ha : as.toList = t :: ts) (hy : copds nt args.toList = some (y :: ys))
    {k e : TypeId} (hu : P.underlying t = some (.map k e)) : OpS P nt (.call { callee := .builtin .len, args, argTypes := as }) (.lenM y) := by
  refine s_builtin hy ?_
  intro env h v h' ρ vals w hm hv mt fr
  simp only [List.map_cons] at hv
  obtain ⟨x, xs, rfl, rx, _⟩ := vals_cons hv
  rw [types_cons ha]
  simp only [opA] at hm
  split at hm
  · rename_i hs
    cases hm
    rw [hs] at rx
    simp only [VR] at rx
    obtain ⟨rfl, _⟩ := rx
    exact ⟨_, w, ρ, fun _ _ => by simp [builtin, Builtin.len_, run_ul hu]; rfl, rfl, Sim.refl mt, fun _ => ⟨rfl, rfl⟩⟩
  · rename_i r hs
    rw [hs] at rx
    simp only [VR] at rx
    obtain ⟨b, n, h1, rfl⟩ := rx
    split at hm
    · rename_i es clock hg
      cases hm
      obtain ⟨es', g1, g2⟩ := map_at mt h1 hg
      refine ⟨goInt es'.size, w, ρ, fun _ _ => by simp [builtin, Builtin.len_, run_ul hu, run_getMap g1], ?_, Sim.refl mt, fun _ => ⟨rfl, rfl⟩⟩
      simp only [i64v, VR, goInt]
      rw [g2.1]; simp
    · cases hm
  · cases hm

theorem b_cap {as : Array TypeId} {args : Array Operand} {t : TypeId} {ts : List TypeId} {y : Opd} {ys : List Opd} (ha : as.toList = t :: ts) (hy : copds nt args.toList = some (y :: ys))
    {e : TypeId} (hu : P.underlying t = some (.slice e)) : OpS P nt (.call { callee := .builtin .cap, args, argTypes := as }) (.cap y) := by
  refine s_builtin hy ?_
  intro env h v h' ρ vals w hm hv mt fr
  simp only [List.map_cons] at hv
  obtain ⟨x, xs, rfl, rx, _⟩ := vals_cons hv
  rw [types_cons ha]
  simp only [opA] at hm
  split at hm
  · rename_i c es hs
    cases hm
    rw [hs] at rx
    simp only [VR] at rx
    obtain ⟨_, _, _, _, cap', _, rfl, _, _, hx, _⟩ := rx
    rw [hx trivial]
    exact ⟨_, w, ρ, fun _ _ => by simp [builtin, Builtin.cap_, run_ul hu]; rfl, rfl, Sim.refl mt, fun _ => ⟨rfl, rfl⟩⟩
  · rename_i hs
    cases hm
    rw [hs] at rx
    simp only [VR] at rx
    obtain ⟨rfl, _⟩ := rx
    exact ⟨_, w, ρ, fun _ _ => by simp [builtin, Builtin.cap_, run_ul hu]; rfl, rfl, Sim.refl mt, fun _ => ⟨rfl, rfl⟩⟩
  · cases hm

theorem b_min {as : Array TypeId} {args : Array Operand} {x y : Opd} (hy : copds nt args.toList = some [x, y]) : OpS P nt (.call { callee := .builtin .min, args, argTypes := as }) (.mn x y) := by
  refine s_builtin hy ?_
  intro env h v h' ρ vals w hm hv mt fr
  simp only [List.map_cons, List.map_nil] at hv
  obtain ⟨u, us, rfl, ru, hus⟩ := vals_cons hv
  simp only [VRs] at hus
  obtain ⟨u2, us2, rfl, ru2, rfl⟩ := hus
  simp only [opA] at hm
  split at hm
  · rename_i k a k' b h1 h2
    rw [h1] at ru
    rw [h2] at ru2
    simp only [VR] at ru ru2
    subst ru ru2
    split at hm
    · rename_i hk
      cases hm
      exact ⟨.int k (if b < a then b else a), w, ρ, fun _ _ => by simp [builtin, Builtin.min_, Builtin.min2], rfl, Sim.refl mt, fun _ => ⟨rfl, rfl⟩⟩
    · cases hm
  · cases hm
theorem b_max {as : Array TypeId} {args : Array Operand} {x y : Opd} (hy : copds nt args.toList = some [x, y]) : OpS P nt (.call { callee := .builtin .max, args, argTypes := as }) (.mx x y) := by
  refine s_builtin hy ?_
  intro env h v h' ρ vals w hm hv mt fr
  simp only [List.map_cons, List.map_nil] at hv
  obtain ⟨u, us, rfl, ru, hus⟩ := vals_cons hv
  simp only [VRs] at hus
  obtain ⟨u2, us2, rfl, ru2, rfl⟩ := hus
  simp only [opA] at hm
  split at hm
  · rename_i k a k' b h1 h2
    rw [h1] at ru
    rw [h2] at ru2
    simp only [VR] at ru ru2
    subst ru ru2
    split at hm
    · rename_i hk
      cases hm
      exact ⟨.int k (if b > a then b else a), w, ρ, fun _ _ => by simp [builtin, Builtin.max_, Builtin.max2], rfl, Sim.refl mt, fun _ => ⟨rfl, rfl⟩⟩
    · cases hm
  · cases hm

/-- fields, indexes -/
theorem s_faddr {s : TypeId} {x : Operand} {i : Nat} {y : Opd} {fs : Array Field} {f : Field} {n : Nat} (hx : copd nt x = some y) (hu : P.underlying s = some (.struct fs)) (hf : fs[i]? = some f)
    (hn : szO P f.type = some n) (h0 : n ≠ 0) : OpS P nt (.fieldAddr s x i) (.faddr f.offset y) := by
  intro env h v h' ρ a w hm he mt fr
  have rx := opd_rel he hx
  simp only [opA] at hm
  split at hm
  · rename_i j k hj
    cases hm
    rw [hj] at rx
    simp only [VR] at rx
    obtain ⟨b, o, sz, h1, h2⟩ := rx
    refine ⟨.pointer (some ⟨b, o + k + f.offset, none⟩), w, ρ, .inl fun o' ho => ?_, ⟨b, o, sz, h1, by rw [Nat.add_assoc]⟩, Sim.refl mt, fun _ => ⟨rfl, rfl⟩⟩
    simp [execOp, ho, Instr.fieldAt, run_ul hu, hf, h2, Instr.sureAddr, fieldPlace, szO_spec hn, h0, addr_add]
  · cases hm

theorem part_rel {ρ : Rn} {t : TypeId} {n : Option Nat} (hn : aggO P t = some n) {cs : List AV} {cs' : Array Value} (hc : VRs ρ cs cs'.toList) {off : Nat} {v : AV} (hv : aggOr n cs off = some v) (w : World) :
    ∃ u, (part t cs' off).run P w = .ok u w ∧ VR ρ v u := by
  cases n with
  | none =>
    simp only [aggOr] at hv
    obtain ⟨u, hu, hr⟩ := hc.get hv
    rw [Array.getElem?_toList] at hu
    exact ⟨u, by simp [part, aggO_none hn, hu], hr⟩
  | some n =>
    simp only [aggOr] at hv
    cases hb : Nat.ble (off + n) cs.length with
    | false => rw [hb] at hv; cases hv
    | true =>
      rw [hb] at hv
      cases hv
      have := aggO_some hn w
      refine ⟨.agg (cs'.extract off (off + n)), by simp [part, this.1, this.2], _, rfl, ?_⟩
      rw [Array.toList_extract, List.extract_eq_take_drop]
      have := (hc.drop off).take n
      simpa using this

theorem s_fld {t : TypeId} {x : Operand} {i : Nat} {y : Opd} {fs : Array Field} {f : Field} {n : Option Nat} (hx : copd nt x = some y) (hu : P.underlying t = some (.struct fs)) (hf : fs[i]? = some f)
    (hn : aggO P f.type = some n) : OpS P nt (.field t x i) (.fld f.offset n y) := by
  intro env h v h' ρ a w hm he mt fr
  have rx := opd_rel he hx
  simp only [opA] at hm
  split at hm
  · rename_i cs hcs
    split at hm
    · rename_i v' hv
      cases hm
      rw [hcs] at rx
      simp only [VR] at rx
      obtain ⟨cs', h1, h2⟩ := rx
      obtain ⟨u, g1, g2⟩ := part_rel (P := P) hn h2 hv w
      exact ⟨u, w, ρ, .inl fun o' ho => by simp [execOp, ho, Instr.field, run_ul hu, hf, h1, asAgg, g1], g2, Sim.refl mt, fun _ => ⟨rfl, rfl⟩⟩
    · cases hm
  · cases hm

theorem asNat_rel {ρ : Rn} {a : AV} {n : Nat} (h : asNat a = some n) {v : Value} (hr : VR ρ a v) : ∃ k, v = .int k n := by
  unfold asNat at h
  split at h
  · rename_i k m
    split at h
    · cases h
      simp only [VR] at hr
      exact ⟨k, by rw [hr]; congr 1; omega⟩
    · cases h
  · cases h

theorem s_iaddrA {t : TypeId} {x i : Operand} {x' i' : Opd} {len n : Nat} {e : TypeId} (hx : copd nt x = some x') (hi : copd nt i = some i') (hu : P.underlying t = some (.array len e)) (hn : szO P e = some n) :
    OpS P nt (.indexAddr t x i) (.iaddrA len n x' i') := by
  intro env h v h' ρ a w hm he mt fr
  have rx := opd_rel he hx
  have ri := opd_rel he hi
  simp only [opA] at hm
  split at hm
  · rename_i b k j hb hj
    obtain ⟨ki, hki⟩ := asNat_rel hj ri
    rw [hb] at rx
    simp only [VR] at rx
    obtain ⟨b', o, sz, h1, h2⟩ := rx
    cases hlt : Nat.blt j len with
    | false => rw [hlt] at hm; cases hm
    | true =>
      rw [hlt] at hm
      cases hm
      have hjl : j < len := Nat.le_of_ble_eq_true hlt
      refine ⟨.pointer (some ⟨b', o + k + j * n, none⟩), w, ρ, .inl fun o' ho => ?_, ⟨b', o, sz, h1, by rw [Nat.add_assoc]⟩, Sim.refl mt, fun _ => ⟨rfl, rfl⟩⟩
      simp [execOp, ho, Instr.indexAt, run_ul hu, h2, hki, asIntOf, Instr.sureAddr, hjl, szO_spec hn, addr_add]
  · cases hm
theorem s_iaddrS {t : TypeId} {x i : Operand} {x' i' : Opd} {n : Nat} {e : TypeId} (hx : copd nt x = some x') (hi : copd nt i = some i') (hu : P.underlying t = some (.slice e)) (hn : szO P e = some n) :
    OpS P nt (.indexAddr t x i) (.iaddrS n x' i') := by
  intro env h v h' ρ a w hm he mt fr
  have rx := opd_rel he hx
  have ri := opd_rel he hi
  simp only [opA] at hm
  split at hm
  · rename_i b k len cap ex es' j hb hj
    obtain ⟨ki, hki⟩ := asNat_rel hj ri
    rw [hb] at rx
    simp only [VR] at rx
    obtain ⟨b', o, sz, a', cap', h1, h2, h3, h4, h5, h6, h7⟩ := rx
    cases hlt : (Nat.blt j len && n.beq es') with
    | false => rw [hlt] at hm; cases hm
    | true =>
      rw [hlt] at hm
      cases hm
      rw [Bool.and_eq_true] at hlt
      have hjl : j < len := Nat.le_of_ble_eq_true hlt.1
      have ha' : a' = ⟨b', o + k, none⟩ := h7.resolve_right (by omega)
      subst ha'
      refine ⟨.pointer (some ⟨b', o + k + j * n, none⟩), w, ρ, .inl fun o' ho => ?_, ⟨b', o, sz, h1, by rw [Nat.add_assoc]⟩, Sim.refl mt, fun _ => ⟨rfl, rfl⟩⟩
      simp [execOp, ho, Instr.indexAt, run_ul hu, h2, hki, asIntOf, hjl, szO_spec hn, addr_add]
  · cases hm

theorem s_idxA {t : TypeId} {x i : Operand} {x' i' : Opd} {len n : Nat} {e : TypeId} {q : Option Nat} (hx : copd nt x = some x') (hi : copd nt i = some i') (hu : P.underlying t = some (.array len e)) (hn : szO P e = some n)
    (hq : aggO P e = some q) : OpS P nt (.index t x i) (.idxA len n q x' i') := by
  intro env h v h' ρ a w hm he mt fr
  have rx := opd_rel he hx
  have ri := opd_rel he hi
  simp only [opA] at hm
  split at hm
  · rename_i cs j hb hj
    obtain ⟨ki, hki⟩ := asNat_rel hj ri
    rw [hb] at rx
    simp only [VR] at rx
    obtain ⟨cs', h1, h2⟩ := rx
    cases hlt : Nat.blt j len with
    | false => rw [hlt] at hm; cases hm
    | true =>
      rw [hlt] at hm
      simp only [cond_true] at hm
      have hjl : j < len := Nat.le_of_ble_eq_true hlt
      split at hm
      · rename_i v' hv
        cases hm
        obtain ⟨u, g1, g2⟩ := part_rel (P := P) hq h2 hv w
        exact ⟨u, w, ρ, .inl fun o' ho => by simp [execOp, ho, Instr.index, run_ul hu, h1, hki, asIntOf, hjl, szO_spec hn, g1], g2, Sim.refl mt, fun _ => ⟨rfl, rfl⟩⟩
      · cases hm
  · cases hm
theorem s_idxS {t : TypeId} {x i : Operand} {x' i' : Opd} (hx : copd nt x = some x') (hi : copd nt i = some i') (hu : P.underlying t = some .string) : OpS P nt (.index t x i) (.idxS x' i') := by
  intro env h v h' ρ a w hm he mt fr
  have rx := opd_rel he hx
  have ri := opd_rel he hi
  simp only [opA] at hm
  split at hm
  · rename_i s j hb hj
    obtain ⟨ki, hki⟩ := asNat_rel hj ri
    rw [hb] at rx
    simp only [VR] at rx
    split at hm
    · rename_i b hsj
      cases hm
      have hlt : j < s.length := (List.getElem?_eq_some_iff.1 hsj).1
      have hsb : s[j] = b := (List.getElem?_eq_some_iff.1 hsj).2
      have : (⟨⟨s⟩⟩ : ByteArray)[j]? = some b := by
        rw [getElem?_pos (⟨⟨s⟩⟩ : ByteArray) j (by exact hlt)]
        exact congrArg some hsb
      exact ⟨.int .u8 b.toNat, w, ρ, .inl fun o' ho => by simp [execOp, ho, Instr.index, run_ul hu, rx, hki, asIntOf, this], rfl, Sim.refl mt, fun _ => ⟨rfl, rfl⟩⟩
    · cases hm
  · cases hm
end
end Go.Ab
