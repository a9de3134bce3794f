/- Each operation of the mini-machine is the model's (5: bytes, maps, making). -/
import Derived.Test.YtljkcecalallmaaGreatDoorAb7
import Derived.IntWalk
import Derived.Laws.BytesString
namespace Go.Ab
open Go
section
variable {P : Program} {nt : Nat}

theorem push_modify {α : Type} (xs : Array α) (x : α) (f : α → α) : (xs.push x).modify xs.size f = xs.push (f x) := by
  apply Array.ext_getElem?
  intro i
  rw [Array.getElem?_modify, Array.getElem?_push, Array.getElem?_push]
  by_cases h : i = xs.size
  · subst h; simp
  · rw [if_neg (Ne.symm h), if_neg h, if_neg h]

theorem s_s2b {s d e : TypeId} {x : Operand} {y : Opd} (hs : P.underlying s = some .string) (hd : P.underlying d = some (.slice e)) (he' : P.underlying e = some (.int .u8)) (hx : copd nt x = some y) :
    OpS P nt (.convert s d x) (.s2b e y) := by
  intro env h v h' ρ a w hm he mt fr
  have rx := opd_rel he hx
  simp only [opA] at hm
  split at hm
  · rename_i l hl
    cases hm
    rw [hl] at rx
    simp only [VR] at rx
    let cap := (Question.appendCap l.length 0 e).cut (w.tape w.drawn (.appendCap l.length 0 e))
    have hcap : l.length ≤ cap := Nat.le_add_right _ _
    let c' : Array Value := (⟨l⟩ : Array UInt8).map (fun b => Value.int .u8 b.toNat) ++ Array.replicate (cap - l.length) (Value.int .u8 0)
    have hc' : c'.size = cap := by simp [c']; omega
    refine ⟨.slice (some ⟨w.heap.size, 0, none⟩) l.length cap, { w with drawn := w.drawn + 1, heap := w.heap.push (.cells c' e (cap, cap + 1)) }, upd ρ h.sz (w.heap.size, 0, cap), .inl fun o' ho => ?_, ?_, ?_, noq (Nat.le_refl 2)⟩
    · simp only [execOp, ho, convert, Sem.run_bind, run_ul hs, run_ul hd, run_ul he', rx, Result.andThen_ok, Conv.stringToBytes, run_choose, Question.forced, Bool.false_eq_true, if_false, newRow, run_newObj, markStringish, run_shape, Sem.run_pure, str_size]
      simp only [World.shape?]
      rw [show (w.heap.push (Obj.cells c' e))[w.heap.size]? = some (Obj.cells c' e) by simp]
      simp only [run_freeze, Result.andThen_ok, World.freeze]
      rw [if_neg (by omega)]
      simp only [push_modify]
      simp only [hc', BEq.rfl, if_true]
      rfl
    · exact ⟨w.heap.size, 0, cap, _, cap, upd_self _ _ _, rfl, Nat.le_refl _, hcap, by simp, by omega, .inl rfl⟩
    · refine Sim.trans (Sim.drew mt) (Sim.alloc (w := { w with drawn := w.drawn + 1 }) (mt.world rfl) fr (.cells (l.map fun b => AV.int .u8 b.toNat) e false) (.cells c' e (cap, cap + 1)) cap fun w' hw' => ⟨c', e, _, hw', hc', by simp; omega, fun _ p hp => by simp; omega, fun k b hk => ?_⟩)
      simp only [List.getElem?_map, Option.map_eq_some_iff] at hk
      obtain ⟨z, hz, rfl⟩ := hk
      have hlt : k < l.length := (List.getElem?_eq_some_iff.1 hz).1
      refine ⟨.int .u8 z.toNat, ?_, rfl⟩
      rw [Nat.zero_add, Array.getElem?_append_left (by simpa using hlt)]
      simp [hz]
  · cases hm

theorem mapM_u8 : ∀ {cs : List AV} {l : List UInt8}, cs.mapM (fun | AV.int .u8 n => some (UInt8.ofNat n.toNat) | _ => none) = some l → ∀ {ρ : Rn} {vs : List Value}, VRs ρ cs vs →
    ∃ ns : List Int, vs = ns.map (Value.int .u8) ∧ l = ns.map fun n => UInt8.ofNat n.toNat
  | [], l, h, ρ, vs, hr => by
    simp at h
    subst h
    simp only [VRs] at hr
    subst hr
    exact ⟨[], rfl, rfl⟩
  | c :: cs, l, h, ρ, vs, hr => by
    simp only [List.mapM_cons, bind, Option.bind_eq_some_iff, pure, Option.some.injEq] at h
    obtain ⟨b, hb, l', hl', rfl⟩ := h
    simp only [VRs] at hr
    obtain ⟨v, vs', rfl, h2, h3⟩ := hr
    obtain ⟨ns, rfl, rfl⟩ := mapM_u8 hl' h3
    split at hb
    · rename_i n
      cases hb
      simp only [VR] at h2
      subst h2
      exact ⟨n :: ns, rfl, rfl⟩
    · cases hb

theorem foldl_push : ∀ (ns : List Int) (acc : ByteArray), ns.foldl (fun (r : ByteArray) n => r.push (UInt8.ofNat n.toNat)) acc = ⟨⟨acc.data.toList ++ ns.map fun n => UInt8.ofNat n.toNat⟩⟩
  | [], acc => by simp
  | n :: ns, acc => by
    rw [List.foldl_cons, foldl_push ns]
    simp [ByteArray.push]

theorem s_b2s {s d e : TypeId} {x : Operand} {y : Opd} (hs : P.underlying s = some (.slice e)) (hd : P.underlying d = some .string) (he' : P.underlying e = some (.int .u8)) (hx : copd nt x = some y) :
    OpS P nt (.convert s d x) (.b2s y) := by
  intro env h v h' ρ a w hm he mt fr
  have rx := opd_rel he hx
  simp only [opA] at hm
  split at hm
  · rename_i hl
    cases hm
    rw [hl] at rx
    simp only [VR] at rx
    obtain ⟨rx, _⟩ := rx
    exact ⟨.string .empty, w, ρ, .inl fun o' ho => by simp [execOp, ho, convert, run_ul hs, run_ul hd, run_ul he', rx, Conv.bytesToString], rfl, Sim.refl mt, fun _ => ⟨rfl, rfl⟩⟩
  · rename_i i k len cap ex es hl
    rw [hl] at rx
    simp only [VR] at rx
    obtain ⟨b, o, n, a', cap', g1, rx, g3, g4, g5, g6, g7⟩ := rx
    cases hes : Nat.beq es 1 with
    | false => rw [hes] at hm; cases hm
    | true =>
      rw [hes] at hm
      simp only [cond_true] at hm
      split at hm
      · rename_i cs hcs
        split at hm
        · rename_i l hl2
          cases hm
          obtain ⟨vs, h1, h2, h3⟩ := run_loadCells_rel (P := P) mt g1 hcs
          obtain ⟨ns, hns, rfl⟩ := mapM_u8 hl2 h1
          have hvs : vs = (ns.map (Value.int .u8)).toArray := by rw [← hns]
          have hload : (loadCells a' len).run P w = .ok (ns.map (Value.int .u8)).toArray w := by
            rcases g7 with rfl | hc0
            · rw [h3, hvs]
            · have hl0 : len = 0 := by omega
              subst hl0
              have : ns = [] := by
                have : vs.size = ns.length := by rw [hvs]; simp
                exact List.length_eq_zero_iff.1 (by omega)
              subst this
              rfl
          refine ⟨.string ⟨⟨ns.map fun (n : Int) => UInt8.ofNat n.toNat⟩⟩, w, ρ, .inl fun o' ho => ?_, by simp only [VR], Sim.refl mt, fun _ => ⟨rfl, rfl⟩⟩
          simp only [execOp, ho, convert, Sem.run_bind, run_ul hs, run_ul hd, run_ul he', rx, Result.andThen_ok, run_bytesToString w a' len cap' ns hload, foldl_push, Sem.run_pure]
          rfl
        · cases hm
      · cases hm
  · cases hm

/-- maps -/
theorem checkKey_run {t : TypeId} {kk : Nat} (hk : keyKind P t = some kk) {k : AV} (hok : keyOk kk k = true) {ρ : Rn} {v : Value} (hr : VR ρ k v) (empty : Bool) (n : Nat) (w : World) :
    (Instr.checkKey empty (n + 1) t v).run P w = .ok () w := by
  unfold keyKind at hk
  split at hk <;> cases hk
  · rename_i hu
    cases k <;> simp only [keyOk, reduceCtorEq] at hok
    simp only [VR] at hr
    subst hr
    simp [Instr.checkKey, run_ul hu]
  · rename_i hu
    cases k <;> simp only [keyOk, reduceCtorEq] at hok
    simp only [VR] at hr
    subst hr
    simp [Instr.checkKey, run_ul hu]

theorem same_rel {t : TypeId} {d : TypeDesc} (hu : P.underlying t = some d) {kk : Nat} (hk : keyKind P t = some kk) {k q : AV} (hok : keyOk kk k = true) {ρ : Rn} {k' q' : Value} (hr : VR ρ k k') (hq : VR ρ q q') {r : Bool} (h : scEq k q = some r) :
    Instr.sameNow d k' q' = some r ∧ (r = true → Instr.sameBits 10000 q' k' = true) := by
  unfold keyKind at hk
  rw [hu] at hk
  unfold scEq at h
  split at h
  · simp only [VR] at hr hq
    subst hr hq
    split at h
    · rename_i e
      subst e
      cases h
      split at hk <;> cases hk
      · rename_i e; cases e
        refine ⟨by simp [Instr.sameNow], fun e => ?_⟩
        simp at e
        subst e
        simp [Instr.sameBits]
      · simp [keyOk] at hok
    · cases h
  · split at hk <;> cases hk <;> simp [keyOk] at hok
  · simp only [VR] at hr hq
    subst hr hq
    cases h
    split at hk <;> cases hk
    · simp [keyOk] at hok
    · rename_i e; cases e
      refine ⟨?_, fun e => ?_⟩
      · simp only [Instr.sameNow]
        rw [beq_toListBytes, str_toList, str_toList]
      · simp at e
        subst e
        simp only [Instr.sameBits]
        rw [beq_toListBytes]
        simp
  · cases h

theorem findNow_rel {t : TypeId} {d : TypeDesc} (hu : P.underlying t = some d) {kk : Nat} (hk : keyKind P t = some kk) {k : AV} (hok : keyOk kk k = true) {ρ : Rn} {k' : Value} (hr : VR ρ k k') :
    ∀ (es : List (AV × AV × Nat)) (es' : List MapEntry) (i : Nat) (r : Option (Nat × AV)), MRs ρ es es' → findA k es i = some r →
      ∃ r', Instr.findNow d k' es' i = some r' ∧ match r, r' with
        | none, none => True
        | some (j, v), some (j', v') => j = j' ∧ VR ρ v v' ∧ i ≤ j ∧ ∃ e, es'[j - i]? = some e ∧ Instr.sameBits 10000 e.key k' = true
        | _, _ => False
  | [], es', i, r, hm, h => by
    simp only [findA, Option.some.injEq] at h
    subst h
    have : es' = [] := List.length_eq_zero_iff.1 hm.1.symm
    subst this
    exact ⟨none, rfl, trivial⟩
  | (q, v, bn) :: es, es', i, r, hm, h => by
    cases es' with
    | nil => exact absurd hm.1 (by simp)
    | cons e' es' =>
      obtain ⟨r1, r2, r3⟩ := hm.2 0 (q, v, bn) e' rfl rfl
      have htl : MRs ρ es es' := ⟨by simpa using hm.1, fun j x y h1 h2 => hm.2 (j + 1) x y (by simpa using h1) (by simpa using h2)⟩
      simp only [findA] at h
      split at h
      · rename_i hs
        cases h
        obtain ⟨s1, s2⟩ := same_rel (P := P) hu hk hok hr r1 hs
        refine ⟨some (i, e'.val), by simp [Instr.findNow, s1], rfl, r2, Nat.le_refl _, e', by simp, s2 rfl⟩
      · rename_i hs
        obtain ⟨s1, s2⟩ := same_rel (P := P) hu hk hok hr r1 hs
        obtain ⟨r', g1, g2⟩ := findNow_rel hu hk hok hr es es' (i + 1) r htl h
        refine ⟨r', by simp [Instr.findNow, s1, g1], ?_⟩
        cases r with
        | none => cases r' with
          | none => trivial
          | some _ => exact g2.elim
        | some x => cases r' with
          | none => exact g2.elim
          | some y =>
            obtain ⟨h1, h2, h3, e, h4, h5⟩ := g2
            refine ⟨h1, h2, by omega, e, ?_, h5⟩
            rw [show x.1 - i = (x.1 - (i + 1)) + 1 by omega]
            simpa using h4
      · cases h

theorem findKey_rel {t : TypeId} {kk : Nat} (hk : keyKind P t = some kk) {k : AV} (hok : keyOk kk k = true) {ρ : Rn} {k' : Value} (hr : VR ρ k k') {es : List (AV × AV × Nat)} {es' : List MapEntry} {r : Option (Nat × AV)}
    (hm : MRs ρ es es') (h : findA k es 0 = some r) (w : World) :
    ∃ r', (Instr.findKey t k' es').run P w = .ok r' w ∧ match r, r' with
        | none, none => True
        | some (j, v), some (j', v') => j = j' ∧ VR ρ v v' ∧ ∃ e, es'[j]? = some e ∧ Instr.sameBits 10000 e.key k' = true
        | _, _ => False := by
  have hu : ∃ d, P.underlying t = some d := by
    unfold keyKind at hk
    split at hk
    · rename_i hu; exact ⟨_, hu⟩
    · rename_i hu; exact ⟨_, hu⟩
    · cases hk
  obtain ⟨d, hu⟩ := hu
  obtain ⟨r', g1, g2⟩ := findNow_rel (P := P) hu hk hok hr es es' 0 r hm h
  refine ⟨r', by simp [Instr.findKey, run_ul hu, g1], ?_⟩
  cases r with
  | none => cases r' with
    | none => trivial
    | some _ => exact g2.elim
  | some x => cases r' with
    | none => exact g2.elim
    | some y =>
      obtain ⟨h1, h2, h3, e, h4, h5⟩ := g2
      exact ⟨h1, h2, e, by simpa using h4, h5⟩

theorem s_lookup {t k e : TypeId} {x i : Operand} {x' i' : Opd} {ok : Bool} {kk : Nat} {z : AV} (hx : copd nt x = some x') (hi : copd nt i = some i') (hu : P.underlying t = some (.map k e)) (hk : keyKind P k = some kk)
    (hz : zeroO P e = some z) : OpS P nt (.lookup t x i ok) (.lookup kk z ok x' i') := by
  intro env h v h' ρ a w hm he mt fr
  have rx := opd_rel he hx
  have ri := opd_rel he hi
  obtain ⟨ti, zv, z1, z2, z3⟩ := zeroO_spec hz
  have rz := VR.ofV ρ z3
  simp only [opA] at hm
  cases hok : keyOk kk (i'.ev env) with
  | false => rw [hok] at hm; cases hm
  | true =>
    rw [hok] at hm
    simp only [Bool.not_true, cond_false] at hm
    have hck := fun (em : Bool) => checkKey_run (P := P) hk hok ri em 9999 w
    split at hm
    · rename_i hl
      cases hm
      rw [hl] at rx
      simp only [VR] at rx
      obtain ⟨rx, _⟩ := rx
      obtain ⟨r', g1, g2⟩ := findKey_rel (P := P) hk hok ri (es := []) (es' := []) (r := none) ⟨rfl, by simp⟩ rfl w
      cases r' with
      | some _ => exact g2.elim
      | none =>
        refine ⟨if ok then .tuple #[zv, .bool false] else zv, w, ρ, .inl fun o' ho => ?_, ?_, Sim.refl mt, fun _ => ⟨rfl, rfl⟩⟩
        · simp only [execOp, ho, Instr.lookup, Sem.run_bind, run_ul hu, rx, Result.andThen_ok, Sem.run_pure, hck, g1, run_zero z1 z2]
        · cases ok
          · exact rz
          · exact ⟨_, rfl, VRs.cons rz (VRs.cons rfl VRs.nil)⟩
    · rename_i r hl
      rw [hl] at rx
      simp only [VR] at rx
      obtain ⟨b, n, p1, rx⟩ := rx
      split at hm
      · rename_i es clock hg
        obtain ⟨es', q1, q2⟩ := map_at mt p1 hg
        split at hm
        · rename_i j v' hf
          cases hm
          obtain ⟨r', g1, g2⟩ := findKey_rel (P := P) hk hok ri q2 hf w
          cases r' with
          | none => exact g2.elim
          | some y =>
            obtain ⟨y1, y2⟩ := y
            obtain ⟨e1, e2, _⟩ := g2
            refine ⟨if ok then .tuple #[y2, .bool true] else y2, w, ρ, .inl fun o' ho => ?_, ?_, Sim.refl mt, fun _ => ⟨rfl, rfl⟩⟩
            · simp only [execOp, ho, Instr.lookup, Sem.run_bind, run_ul hu, rx, Result.andThen_ok, Sem.run_pure, run_getMap q1, hck, g1]
            · cases ok
              · exact e2
              · exact ⟨_, rfl, VRs.cons e2 (VRs.cons rfl VRs.nil)⟩
        · rename_i hf
          cases hm
          obtain ⟨r', g1, g2⟩ := findKey_rel (P := P) hk hok ri q2 hf w
          cases r' with
          | some _ => exact g2.elim
          | none =>
            refine ⟨if ok then .tuple #[zv, .bool false] else zv, w, ρ, .inl fun o' ho => ?_, ?_, Sim.refl mt, fun _ => ⟨rfl, rfl⟩⟩
            · simp only [execOp, ho, Instr.lookup, Sem.run_bind, run_ul hu, rx, Result.andThen_ok, Sem.run_pure, run_getMap q1, hck, g1, run_zero z1 z2]
            · cases ok
              · exact rz
              · exact ⟨_, rfl, VRs.cons rz (VRs.cons rfl VRs.nil)⟩
        · cases hm
      · cases hm
    · cases hm

theorem heap_set_self {w : World} {b : Nat} {x : Obj} (h : w.heap[b]? = some x) (o : Obj) : (w.heap.setIfInBounds b o)[b]? = some o := by
  have : b < w.heap.size := (Array.getElem?_eq_some_iff.1 h).1
  simp [this]
theorem heap_set_ne {w : World} {b c : Nat} (h : c ≠ b) (o : Obj) : (w.heap.setIfInBounds b o)[c]? = w.heap[c]? := by
  rw [Array.getElem?_setIfInBounds_ne (Ne.symm h)]

theorem s_mapupd {t k e : TypeId} {m i x : Operand} {m' i' x' : Opd} {kk : Nat} (hm' : copd nt m = some m') (hi : copd nt i = some i') (hx : copd nt x = some x') (hu : P.underlying t = some (.map k e)) (hk : keyKind P k = some kk) :
    OpS P nt (.mapUpdate t m i x) (.mapupd kk m' i' x') := by
  intro env h v h' ρ a w hm he mt fr
  have rm := opd_rel he hm'
  have rx := opd_rel he hx
  have ri := opd_rel he hi
  simp only [opA] at hm
  cases hok : keyOk kk (i'.ev env) with
  | false => rw [hok] at hm; cases hm
  | true =>
    rw [hok] at hm
    simp only [Bool.not_true, cond_false] at hm
    have hck := fun (em : Bool) => checkKey_run (P := P) hk hok ri em 9999 w
    split at hm
    · rename_i r hl
      rw [hl] at rm
      simp only [VR] at rm
      obtain ⟨b, n, p1, rm⟩ := rm
      split at hm
      · rename_i es clock hg
        obtain ⟨es', q1, q2⟩ := map_at mt p1 hg
        split at hm
        · rename_i j v' hf
          cases hm
          obtain ⟨r', g1, g2⟩ := findKey_rel (P := P) hk hok ri q2 hf w
          cases r' with
          | none => exact g2.elim
          | some y =>
            obtain ⟨y1, y2⟩ := y
            obtain ⟨e1, e2, en, e3, e4⟩ := g2
            subst e1
            rw [Array.getElem?_toList] at e3
            refine ⟨undef, { w with heap := w.heap.setIfInBounds b (.map (es'.modify j fun e => { e with key := a.eval i, val := a.eval x }) clock) }, ρ, .inr ⟨rfl, fun o' ho => ?_⟩, VR.undef ρ, ?_, noq (Nat.le_succ 2)⟩
            · simp only [execOp, ho, Instr.mapUpdate, Sem.run_bind, run_ul hu, rm, Result.andThen_ok, run_getMap q1, hck, g1, Instr.keyThatStays, e3, Option.map_some, Option.getD_some, e4, if_true, Sem.run_pure, run_setMap q1]
            · refine Sim.set mt p1 hg trivial (fun c hc => heap_set_ne hc _) (by simp) rfl rfl rfl ⟨_, heap_set_self q1 _, rfl, ?_⟩
              refine ⟨by simp [setVal, q2.1], fun l p q h1 h2 => ?_⟩
              simp only [setVal, List.getElem?_modify] at h1
              rw [Array.getElem?_toList, Array.getElem?_modify] at h2
              by_cases hlj : j = l
              · subst hlj
                simp only [if_true] at h1 h2
                rw [e3] at h2
                cases h2
                cases h3 : es[j]? with
                | none => rw [h3] at h1; cases h1
                | some s =>
                  rw [h3] at h1
                  cases h1
                  have := q2.2 j s en h3 (by rw [Array.getElem?_toList]; exact e3)
                  exact ⟨ri, rx, this.2.2⟩
              · simp only [if_neg hlj] at h1 h2
                exact q2.2 l p q (by simpa using h1) (by rw [Array.getElem?_toList]; exact h2)
        · rename_i hf
          cases hm
          obtain ⟨r', g1, g2⟩ := findKey_rel (P := P) hk hok ri q2 hf w
          cases r' with
          | some _ => exact g2.elim
          | none =>
            refine ⟨undef, { w with heap := w.heap.setIfInBounds b (.map (es'.push { key := a.eval i, val := a.eval x, born := clock }) (clock + 1)) }, ρ, .inr ⟨rfl, fun o' ho => ?_⟩, VR.undef ρ, ?_, noq (Nat.le_succ 2)⟩
            · simp only [execOp, ho, Instr.mapUpdate, Sem.run_bind, run_ul hu, rm, Result.andThen_ok, run_getMap q1, hck, g1, run_setMap q1, Sem.run_pure]
            · refine Sim.set mt p1 hg trivial (fun c hc => heap_set_ne hc _) (by simp) rfl rfl rfl ⟨_, heap_set_self q1 _, rfl, ?_⟩
              have hlen : es.length = es'.size := by rw [q2.1]; simp
              refine ⟨by simp [hlen], fun l p q h1 h2 => ?_⟩
              rw [Array.getElem?_toList, Array.getElem?_push] at h2
              by_cases hlj : l = es'.size
              · rw [if_pos hlj] at h2
                cases h2
                rw [List.getElem?_append_right (by omega), show l - es.length = 0 by omega] at h1
                cases h1
                exact ⟨ri, rx, rfl⟩
              · rw [if_neg hlj] at h2
                have hlt : l < es'.size := (Array.getElem?_eq_some_iff.1 h2).1
                rw [List.getElem?_append_left (by omega)] at h1
                exact q2.2 l p q h1 (by rw [Array.getElem?_toList]; exact h2)
        · cases hm
      · cases hm
    · cases hm
end
end Go.Ab
