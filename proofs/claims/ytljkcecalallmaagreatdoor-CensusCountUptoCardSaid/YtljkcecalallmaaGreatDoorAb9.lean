/- Each operation of the mini-machine is the model's (6: make, append, copy, clear), and all of them together. -/
import Derived.Test.YtljkcecalallmaaGreatDoorAb8
namespace Go.Ab
open Go
section
variable {P : Program} {nt : Nat}

theorem s_mkslice {t e : TypeId} {l c : Operand} {l' c' : Opd} {i : TypeInfo} {z : AV} (hu : P.underlying t = some (.slice e)) (hi : P.info? e = some i) (hz : zeroO P e = some z) (hl : copd nt l = some l') (hc : copd nt c = some c')
    (h1 : z.cells.length = i.size) (h2 : 0 < i.size) : OpS P nt (.makeSlice t l c) (.mkslice e i.size i.bytes z.cells l' c') := by
  intro env h v h' ρ a w hm he mt fr
  obtain ⟨i', zv, z1, z2, z3⟩ := zeroO_spec hz
  rw [hi] at z1
  cases z1
  have rz := (VR.ofV ρ z3).cells
  have hzs : zv.cells.size = i.size := by rw [← h1, rz.length]; simp
  have rl := opd_rel he hl
  have rc := opd_rel he hc
  simp only [opA] at hm
  split at hm
  · rename_i ln cp hln hcp
    obtain ⟨kl, el⟩ := asNat_rel hln rl
    obtain ⟨kc, ec⟩ := asNat_rel hcp rc
    cases hb : (ln.ble cp && (cp * i.bytes).ble most && Nat.ble 1 i.bytes) with
    | false => rw [hb] at hm; cases hm
    | true =>
      rw [hb] at hm
      cases hm
      simp only [Bool.and_eq_true] at hb
      obtain ⟨⟨b1, b2⟩, b3⟩ := hb
      have b1 := Nat.le_of_ble_eq_true b1
      have b2 := Nat.le_of_ble_eq_true b2
      have b3 := Nat.le_of_ble_eq_true b3
      have hcp' : cp ≤ 4294967296 := Nat.le_trans (Nat.le_mul_of_pos_right cp b3) b2
      have wl : IntKind.i64.wrap (ln : Int) = ln := IntWalk.i64_in _ (by omega)
      have wc : IntKind.i64.wrap (cp : Int) = cp := IntWalk.i64_in _ (by omega)
      have hzeros := zeros_rel rz (by omega) cp
      let cells : Array Value := (Array.range (cp * zv.cells.size)).map (zv.cells[· % zv.cells.size]!)
      have hcs : cells.size = cp * i.size := by simp [cells, hzs]
      refine ⟨.slice (some ⟨w.heap.size, 0, none⟩) ln cp, { w with heap := w.heap.push (.cells cells e) }, _, .inl fun o' ho => ?_, ?_, newRow_sim (e := e) (E := e) (c' := cells) (more := []) mt fr ⟨cells.toList, by simp, hzeros⟩, noq (Nat.le_refl 2)⟩
      · have e0 : ((i.bytes : Int) * (cp : Int)) ≤ 281474976710656 := by
          have h9 : ((cp * i.bytes : Nat) : Int) ≤ ((most : Nat) : Int) := Int.ofNat_le.2 b2
          rw [Int.natCast_mul, Int.mul_comm] at h9
          have h8 : ((most : Nat) : Int) = 4294967296 := rfl
          omega
        have e1 : (decide ((cp : Int) < 0) || decide ((i.bytes : Int) * (cp : Int) > 2 ^ 48)) = false := by
          have e2 : (2 : Int) ^ 48 = 281474976710656 := by decide
          rw [e2]
          simp only [Bool.or_eq_false_iff, decide_eq_false_iff_not]
          exact ⟨by omega, by omega⟩
        simp only [execOp, ho, Instr.makeSlice, Sem.run_bind, run_ul hu, Result.andThen_ok, el, ec, asInt, asIntOf, Sem.run_pure, run_ti hi, wl, wc]
        rw [if_neg (by simp only [e1, Bool.false_or, Bool.or_eq_true, decide_eq_true_eq]; omega)]
        simp only [Sem.run_bind, run_askRoom, Result.andThen_ok, Int.toNat_natCast, szO_spec (show szO P e = some i.size by simp [szO, hi])]
        by_cases h0 : cp * i.size = 0
        · rw [if_pos h0]
          simp only [Sem.run_pure, Result.andThen_ok, newRow, Sem.run_bind, run_newObj]
          have hcp0 : cp = 0 := by
            rcases Nat.mul_eq_zero.1 h0 with h | h
            · exact h
            · omega
          subst hcp0
          have hr0 : Array.range 0 = #[] := rfl
          simp [cells, hr0]
        · rw [if_neg h0]
          simp only [Sem.run_bind, run_zero hi z2, Sem.run_pure, Result.andThen_ok, newRow, run_newObj]
          simp only [cells, hzs]
      · exact ⟨w.heap.size, 0, cells.size, _, cp, upd_self _ _ _, rfl, b1, Nat.le_refl _, fun _ => rfl, by rw [hcs]; omega, .inl rfl⟩
  · cases hm

theorem srcA_rel {ρ : Rn} {h : Heap} {w : World} (mt : Match ρ h w) {es : Nat} {x : AV} {new : List AV} {n : Nat} (hs : srcA h es x = some (new, n)) {x' : Value} (rx : VR ρ x x') :
    (Builtin.lenOf x').run P w = .ok n w ∧ new.length = n * es ∧ ∀ m, m ≤ n → ∃ cells : Array Value, (∀ w' : World, w'.heap = w.heap → (Builtin.firstCells es m x').run P w' = .ok cells w') ∧ VRs ρ (new.take (m * es)) cells.toList ∧ cells.size = m * es := by
  unfold srcA at hs
  split at hs
  · rename_i i k len cap ex es'
    simp only [VR] at rx
    obtain ⟨b, o, sz, a', cap', g1, rfl, g3, g4, g5, g6, g7⟩ := rx
    cases hes : es.beq es' with
    | false => rw [hes] at hs; cases hs
    | true =>
      rw [hes] at hs
      simp only [cond_true] at hs
      split at hs
      · rename_i cs hcs
        cases hs
        obtain ⟨vs, h1, h2, h3⟩ := loadN_cells mt g1 hcs
        have hl := (loadN_spec hcs).1
        refine ⟨rfl, hl, fun m hm => ?_⟩
        have hmul : m * es ≤ n * es := Nat.mul_le_mul_right _ hm
        refine ⟨(vs.take (m * es)).toArray, ?_, by simpa using h1.take (m * es), by simp; omega⟩
        intro w' ew
        have hc : ∀ a, w'.cell? a = w.cell? a := fun a => by simp only [World.cell?, ew]
        show (loadCells a' (m * es)).run P w' = _
        rcases g7 with rfl | hc0
        · have := run_loadCells_list (P := P) w' ⟨b, o + k, none⟩ (vs.take (m * es)) (fun j v hj => by
            rw [addr_add, hc]
            refine h3 j v ?_
            rw [List.getElem?_take] at hj
            split at hj
            · exact hj
            · cases hj)
          rw [List.length_take, h2, Nat.min_eq_left hmul] at this
          exact this
        · have : m * es = 0 := by
            have : m = 0 := by omega
            subst this
            simp
          rw [this]
          simp [loadCells, loadCellsFrom]
      · cases hs
  · cases hs
    simp only [VR] at rx
    obtain ⟨rfl, _⟩ := rx
    refine ⟨rfl, by simp, fun m hm => ⟨#[], fun _ _ => rfl, by simp; exact VRs.nil, ?_⟩⟩
    have : m = 0 := by omega
    subst this
    simp
  · rename_i l
    simp only [VR] at rx
    subst rx
    cases hes : Nat.beq es 1 with
    | false => rw [hes] at hs; cases hs
    | true =>
      rw [hes] at hs
      cases hs
      have := ofBeq hes
      subst this
      refine ⟨rfl, by simp, fun m hm => ⟨(l.take m).toArray.map fun b => Value.int .u8 b.toNat, ?_, ?_, by simp; omega⟩⟩
      · intro w' _
        show (pure _ : Sem (Array Value)).run P w' = _
        simp only [Sem.run_pure]
        congr 2
        rw [ByteArray.data_extract]
        apply Array.ext'
        rw [Array.toList_extract, List.extract_eq_take_drop]
        simp
      · refine VRs.of_get (by simp) fun i a v h1 h2 => ?_
        simp only [Nat.mul_one, List.getElem?_take] at h1
        simp only [Array.toList_map, List.getElem?_map, List.getElem?_take] at h2
        split at h1
        · rename_i hi
          rw [if_pos hi] at h2
          rw [List.getElem?_map] at h1
          cases e : l[i]? with
          | none => rw [e] at h1; cases h1
          | some q => rw [e] at h1 h2; cases h1; cases h2; rfl
        · cases h1
  · cases hs

theorem growBy_le (nl : Nat) : ∀ (r c : Nat), c ≤ 2 * nl + 192 → Builtin.growBy nl r c ≤ 2 * nl + 192
  | 0, c, h => h
  | r + 1, c, h => by
    simp only [Builtin.growBy]
    split
    · exact h
    · exact growBy_le nl r _ (by omega)
theorem next_le (need c : Nat) (h : c < need) : Builtin.nextslicecap need c ≤ 2 * need + 192 := by
  unfold Builtin.nextslicecap
  split
  · omega
  · split
    · omega
    · exact growBy_le need 4 c (by omega)

theorem size_zeroCells (z : Array Value) (n : Nat) : (Builtin.zeroCells z n).size = n * z.size := by simp [Builtin.zeroCells]

def isIntT : TypeDesc → Bool
  | .int _ => true
  | _ => false
theorem isIntT_match (d : TypeDesc) (h : isIntT d = false) : (match d with | .int _ => true | _ => false) = false := by
  cases d <;> first | rfl | simp [isIntT] at h
/-- 'append' where the room is too small -/
theorem run_append_grow {e s t : TypeId} {ts : List TypeId} {i : TypeInfo} {zv : Value} {d : TypeDesc} (hu : P.underlying s = some (.slice e)) (ht : P.underlying t = some d) (hd : isIntT d = false)
    (hi : P.info? e = some i) (hz : i.zero = some zv) {base : Option Addr} {len cap n : Nat} {x : Value} {vs : List Value} {w : World} (hlen : (Builtin.lenOf x).run P w = .ok n w) (hgt : cap < len + n)
    (hb1 : 1 ≤ i.bytes) (hb2 : (len + n) * i.bytes ≤ 4294967296) {old new : Array Value} (hold : ∀ w' : World, w'.heap = w.heap → (Builtin.firstCells i.size len (.slice base len cap)).run P w' = .ok old w')
    (hnew : ∀ w' : World, w'.heap = w.heap → (Builtin.firstCells i.size n x).run P w' = .ok new w') :
    ∃ nc, len + n ≤ nc ∧ ∀ (ty : TypeId) (cs : Array Bool), (builtin .append (s :: t :: ts).toArray ty cs (.slice base len cap :: x :: vs).toArray).run P w =
      .ok (.value (.slice (some ⟨w.heap.size, 0, none⟩) (len + n) nc)) { w with drawn := w.drawn + 1, heap := w.heap.push (.cells (old ++ new ++ Builtin.zeroCells zv.cells (nc - (len + n))) e) } := by
  let nc := (Question.appendCap (len + n) cap e).cut (w.tape w.drawn (.appendCap (len + n) cap e))
  refine ⟨nc, Nat.le_add_right _ _, fun ty cs => ?_⟩
  have hszO : szO P e = some i.size := by simp [szO, hi]
  have hnext : Builtin.nextslicecap (len + n) cap * i.bytes ≤ 281474976710656 := by
    have h1 := next_le (len + n) cap hgt
    have h2 : i.bytes ≤ 4294967296 := Nat.le_trans (Nat.le_mul_of_pos_left _ (by omega)) hb2
    calc Builtin.nextslicecap (len + n) cap * i.bytes ≤ (2 * (len + n) + 192) * i.bytes := Nat.mul_le_mul_right _ h1
      _ = 2 * ((len + n) * i.bytes) + 192 * i.bytes := by rw [Nat.add_mul, Nat.mul_assoc]
      _ ≤ 281474976710656 := by omega
  have hnle : ¬ (len + n ≤ cap) := by omega
  have hbytes : ¬ (i.bytes = 0) := by omega
  have e48 : (2 : Nat) ^ 48 = 281474976710656 := by decide
  cases d with
  | int k => simp [isIntT] at hd
  | _ =>
    simp only [builtin, Builtin.append_, Sem.run_bind, run_ul hu, Result.andThen_ok, szO_spec hszO, run_ul ht, Sem.run_pure, List.getElem?_toArray, List.getElem?_cons_zero, List.getElem?_cons_succ, Bool.false_eq_true, if_false, hlen]
    rw [if_neg hnle]
    simp only [Sem.run_bind, run_ti hi, Result.andThen_ok, hbytes, or_self, and_false, if_false]
    rw [if_neg (by rw [e48]; omega)]
    simp only [Sem.run_bind, run_choose, Question.forced, Bool.false_eq_true, if_false, Result.andThen_ok, run_ti hi, run_askRoom, hold { w with drawn := w.drawn + 1 } rfl, Bool.not_false, if_true, hnew { w with drawn := w.drawn + 1 } rfl, run_zero hi hz, newRow, run_newObj, Sem.run_pure]
    rfl
/-- 'append' where there is room -/
theorem run_append_room {e s t : TypeId} {ts : List TypeId} {n0 : Nat} {d : TypeDesc} (hu : P.underlying s = some (.slice e)) (ht : P.underlying t = some d) (hd : isIntT d = false)
    (hsz : szO P e = some n0) {base : Option Addr} {len cap n : Nat} {x : Value} {vs : List Value} {w w' : World} (hlen : (Builtin.lenOf x).run P w = .ok n w) (hle : len + n ≤ cap)
    {new : Array Value} (hnew : (Builtin.firstCells n0 n x).run P w = .ok new w)
    (hst : match base with | some a => (storeCells (a.add (len * n0)) new.toList).run P w = .ok () w' | none => w' = w) (ty : TypeId) (cs : Array Bool) :
    (builtin .append (s :: t :: ts).toArray ty cs (.slice base len cap :: x :: vs).toArray).run P w = .ok (.value (.slice base (len + n) cap)) w' := by
  cases d with
  | int k => simp [isIntT] at hd
  | _ =>
    simp only [builtin, Builtin.append_, Sem.run_bind, run_ul hu, Result.andThen_ok, szO_spec hsz, run_ul ht, Sem.run_pure, List.getElem?_toArray, List.getElem?_cons_zero, List.getElem?_cons_succ, Bool.false_eq_true, if_false, hlen]
    rw [if_pos hle]
    simp only [Sem.run_bind, Bool.not_false, if_true, hnew, Result.andThen_ok]
    cases base with
    | none => simp only at hst; subst hst; simp only [Sem.run_pure, Result.andThen_ok]
    | some a => simp only at hst; simp only [Sem.run_bind, hst, Sem.run_pure, Result.andThen_ok]

/-- in place, beyond what the mini-machine knows of the block -/
theorem Sim.regrow {ρ : Rn} {h : Heap} {w : World} (m : Match ρ h w) (f : Free ρ h.sz (h.sz + 1)) {i b o n k len es : Nat} (hi : ρ i = some (b, o, n)) {c : List AV} {e0 e : TypeId} (hg : h.get i = some (.cells c e0 false))
    {old new : List AV} (hold : h.loadN i k (len * es) = some old) {new' : List Value} (hr : VRs ρ new new') (hfit : o + k + len * es + new'.length ≤ n) (hone : new.all AV.one = true) :
    (storeCells ⟨b, o + k + len * es, none⟩ new').run P w = .ok () (w.setCells b (o + k + len * es) new') ∧
    Sim ρ h w (upd ρ h.sz (b, o + k, n)) ((h.set i .dead).alloc (.cells (old ++ new) e false)) (w.setCells b (o + k + len * es) new') := by
  obtain ⟨c', E, fz, h1, h2, h3, h4, h5⟩ := m.objs i b o n hi _ hg
  obtain ⟨c2, g1, g2, g3⟩ := setCells_heap b new' (o + k + len * es) w c' E fz h1 (by omega)
  obtain ⟨r1, r2, r3⟩ := setCells_rest b new' (o + k + len * es) w
  have hsz := setCells_size b new' (o + k + len * es) w
  have hout := setCells_other b new' (o + k + len * es) w
  have f0 : ρ h.sz = none := f _ (Nat.le_refl _) (Nat.lt_succ_self _)
  have le := upd_le (x := (b, o + k, n)) f0
  have hbl := m.blk i b o n hi
  have hii : i ≠ h.sz := by intro e; subst e; rw [f0] at hi; cases hi
  constructor
  · have := run_storeCells_cells (P := P) b (o + k + len * es) new' 0 w (fun j hj => by
        simp only [World.cell?, h1]
        have : o + k + len * es + j < c'.size := by omega
        simp [this]) (fun j hj => by
        simp only [World.frozen?, h1]
        have := h4 rfl (o + k + len * es + 0 + j) (by omega)
        simp only [Bool.and_eq_false_iff, decide_eq_false_iff_not]
        omega) (fun v hv => by
        obtain ⟨j, hj, rfl⟩ := List.mem_iff_getElem.1 hv
        have hj' : j < new.length := by rw [hr.length]; exact hj
        obtain ⟨u, hu, hru⟩ := hr.get (List.getElem?_eq_getElem hj')
        rw [List.getElem?_eq_getElem hj] at hu
        cases hu
        exact hru.one (List.all_eq_true.1 hone _ (List.getElem_mem hj')))
    simpa using this
  · obtain ⟨l1, l2⟩ := loadN_spec hold
    have inv : ∀ j b' o' k', upd ρ h.sz (b, o + k, n) j = some (b', o', k') → (j = h.sz ∧ b' = b ∧ o' = o + k ∧ k' = n) ∨ (j ≠ h.sz ∧ ρ j = some (b', o', k')) := by
      intro j b' o' k' e
      by_cases hj : j = h.sz
      · subst hj; rw [upd_self] at e; cases e; exact .inl ⟨rfl, rfl, rfl, rfl⟩
      · rw [upd_ne hj] at e; exact .inr ⟨hj, e⟩
    have get2 : ∀ j, j ≠ h.sz → j ≠ i → ((h.set i .dead).alloc (.cells (old ++ new) e false)).get j = h.get j := by
      intro j h1 h2
      rw [Heap.get_alloc, if_neg (by simpa using h1), Heap.get_set, if_neg h2]
    have getz : ((h.set i .dead).alloc (.cells (old ++ new) e false)).get h.sz = some (.cells (old ++ new) e false) := by
      rw [Heap.get_alloc]; simp
    have geti : ((h.set i .dead).alloc (.cells (old ++ new) e false)).get i = some .dead := by
      rw [Heap.get_alloc, if_neg (by simpa using hii), Heap.get_set, if_pos rfl]
    have other : ∀ j b' o' n', j ≠ i → ρ j = some (b', o', n') → Al (h.get j) → b' ≠ b := by
      intro j b' o' n' hj e' ha ee
      subst ee
      exact m.inj i j b' o n o' n' (Ne.symm hj) hi e' (by rw [hg]; trivial) ha
    refine ⟨le, ?_, ?_, ⟨?_, ?_, ?_, ?_⟩, ?_, by omega, by simp, ?_, r1, r2, r3⟩
    · intro j x e' e0
      rcases inv j x.1 x.2.1 x.2.2 e' with ⟨rfl, _⟩ | ⟨_, h'⟩
      · simp
      · rw [e0] at h'; cases h'
    · intro j b' o' k' e' e0
      rcases inv j b' o' k' e' with ⟨_, rfl, _⟩ | ⟨_, h'⟩
      · exact .inr ⟨i, o, n, hi, by rw [hg]; trivial⟩
      · rw [e0] at h'; cases h'
    · intro j b' o' k' e' x hx
      rcases inv j b' o' k' e' with ⟨rfl, rfl, rfl, rfl⟩ | ⟨hj, e'⟩
      · rw [getz] at hx
        cases hx
        have hln := hr.length
        refine ⟨c2, E, fz, g1, by omega, by simp; omega, h4, fun p a hp => ?_⟩
        rw [g3]
        by_cases hpo : p < len * es
        · rw [if_neg (by omega), List.getElem?_append_left (by omega)] at *
          have := l2 p a hp
          unfold Heap.load1 at this
          rw [hg] at this
          obtain ⟨v, hv, hrv⟩ := h5 (k + p) a this
          exact ⟨v, by rw [show o + k + p = o + (k + p) by omega]; exact hv, hrv.mono le⟩
        · rw [List.getElem?_append_right (by omega)] at hp
          obtain ⟨v, hv, hrv⟩ := hr.get hp
          have hlt : p - old.length < new'.length := (List.getElem?_eq_some_iff.1 hv).1
          rw [if_pos (by omega)]
          exact ⟨v, by rw [← hv]; congr 1; omega, hrv.mono le⟩
      · by_cases hji : j = i
        · subst hji
          rw [geti] at hx
          cases hx
          trivial
        · rw [get2 j hj hji] at hx
          cases x with
          | dead => trivial
          | cells c e'' ro => exact ((m.objs j b' o' k' e' _ hx).mono le).block (hout _ (other j b' o' k' hji e' (by rw [hx]; trivial)))
          | map es cl => exact ((m.objs j b' o' k' e' _ hx).mono le).block (hout _ (other j b' o' k' hji e' (by rw [hx]; trivial)))
          | iter s p => exact ((m.objs j b' o' k' e' _ hx).mono le).block (hout _ (other j b' o' k' hji e' (by rw [hx]; trivial)))
          | miter q => exact ((m.objs j b' o' k' e' _ hx).mono le).block (hout _ (other j b' o' k' hji e' (by rw [hx]; trivial)))
          | mbox q => exact ((m.objs j b' o' k' e' _ hx).mono le).block (hout _ (other j b' o' k' hji e' (by rw [hx]; trivial)))
    · intro j b' o' k' e'
      rw [hsz]
      rcases inv j b' o' k' e' with ⟨rfl, rfl, _⟩ | ⟨_, e'⟩
      · exact hbl
      · exact m.blk j b' o' k' e'
    · intro j q b' o' k' o2 k2 hjq e1 e2 hw ha
      have hji : j ≠ i := by intro e; subst e; rw [geti] at hw; exact hw
      have hqi : q ≠ i := by intro e; subst e; rw [geti] at ha; exact ha
      rcases inv j b' o' k' e1 with ⟨rfl, rfl, _⟩ | ⟨hj, e1⟩ <;> rcases inv q b' o2 k2 e2 with ⟨rfl, eb, _⟩ | ⟨hq, e2⟩
      · exact hjq rfl
      · rw [get2 q hq hqi] at ha
        exact other q b' o2 k2 hqi e2 ha rfl
      · rw [get2 j hj hji] at hw
        exact other j b' o' k' hji e1 hw.al eb
      · rw [get2 j hj hji] at hw
        rw [get2 q hq hqi] at ha
        exact m.inj j q b' o' k' o2 k2 hjq e1 e2 hw ha
    · intro j hj
      simp only [Heap.sz_alloc, Heap.sz_set] at hj
      rw [get2 j (by omega) (by intro e; subst e; have := m.fresh j (by omega); rw [hg] at this; cases this)]
      exact m.fresh j (by omega)
    · intro p hp hf
      refine hout p ?_
      intro e
      subst e
      exact hf i o n hi (by rw [hg]; trivial)
    · intro j x e' hw
      by_cases hji : j = i
      · subst hji; rw [hg]; trivial
      · have hj : j ≠ h.sz := by intro e; subst e; rw [f0] at e'; cases e'
        rwa [get2 j hj hji] at hw
end
end Go.Ab
