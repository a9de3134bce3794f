/- Regions that draw their order (4): the steps, and the whole. -/
import Derived.Test.YtljkcecalallmaaGreatDoorAb18
namespace Go.Ab
open Go
section
variable {P : Program} {nt : Nat} {call : CallF} {ops : Array Oper} {ms : List MOper} {env : Env} {h : Heap} {ρ0 : Rn} {w0 : World} {d0 : List Deferred}

theorem Up.closed {C : Ctx P nt call ops ms env h ρ0 w0 d0} {listed : Array Bool} {a : Act} {w : World} {ρ : Rn} {q : Nat} (I : Inv C listed a w ρ q) {i : Nat} (U : Up C listed i) :
    ∀ j o, Dn (listed.setIfInBounds i true) j = true → ops[j]? = some o → ∀ x ∈ directs o, Dn (listed.setIfInBounds i true) x = true := by
  intro j o hj ho x hx
  have hsz : i < listed.size := by rw [I.lsz]; exact U.lt
  rw [dn_set listed hsz] at hj ⊢
  split
  · rfl
  · by_cases e : j = i
    · subst e; exact U.dir o ho x hx
    · rw [if_neg e] at hj; exact I.closed j o hj ho x hx

theorem Inv.quiet {C : Ctx P nt call ops ms env h ρ0 w0 d0} {listed : Array Bool} {a : Act} {w : World} {ρ : Rn} {q : Nat} (I : Inv C listed a w ρ q) {i : Nat} (U : Up C listed i) {m : MOper} (hm : ms[i]? = some m)
    (hc : (noteD call ms env h i).cls ≤ 1) {u : Value} (hr : VR ρ (vD call ms env h i) u) : Inv C (listed.setIfInBounds i true) (a.put m.dst u) w ρ q := by
  have hsz : i < listed.size := by rw [I.lsz]; exact U.lt
  have hD : ∀ j, j ≠ i → Dn (listed.setIfInBounds i true) j = Dn listed j := fun j hj => by rw [dn_set listed hsz, if_neg hj]
  refine ⟨by simp [I.lsz], U.closed I, U.after I.lsz hm (Rn.le_refl ρ) I.er hr, I.qle, ?_, I.mt, ?_, ?_, I.le, ?_, I.rng, I.frame, I.size, I.keep, I.os, I.tape, I.output, by rw [put_defers]; exact I.defs⟩
  · intro e he hce
    have : e ≠ i := by intro x; subst x; omega
    rw [hD e this]
    exact I.effs e he hce
  · intro j hj hcj hDj hqj
    have : j ≠ i := by intro x; subst x; omega
    rw [hD j this] at hDj
    exact I.ext j hj hcj hDj hqj
  · intro j hj hDj
    have : j ≠ i := by intro x; subst x; rw [dn_set listed hsz, if_pos rfl] at hDj; cases hDj
    rw [hD j this] at hDj
    exact I.free j hj hDj
  · intro id x h1 h2
    obtain ⟨j, j1, j2, j3, j4⟩ := I.dom id x h1 h2
    refine ⟨j, j1, j2, j3, ?_⟩
    rw [dn_set listed hsz]
    split
    · rfl
    · exact j4

/-- where ids made by different operations lie -/
theorem Ctx.apart (C : Ctx P nt call ops ms env h ρ0 w0 d0) {i j id : Nat} (hij : i ≠ j) (h1 : (stD call ms env h i).2.sz ≤ id) (h2 : id < (stD call ms env h (i + 1)).2.sz) (h3 : (stD call ms env h j).2.sz ≤ id) (h4 : id < (stD call ms env h (j + 1)).2.sz) : False := by
  rcases Nat.lt_or_gt_of_ne hij with h | h
  · have := C.le (show i + 1 ≤ j by omega); omega
  · have := C.le (show j + 1 ≤ i by omega); omega

theorem Inv.alloc {C : Ctx P nt call ops ms env h ρ0 w0 d0} {listed : Array Bool} {a : Act} {w : World} {ρ : Rn} {q : Nat} (I : Inv C listed a w ρ q) {i : Nat} (U : Up C listed i) {m : MOper} (hm : ms[i]? = some m)
    (hc : (noteD call ms env h i).cls = 2) {obj : AObj} (hobj : (stD call ms env h (i + 1)).2 = (stD call ms env h i).2.alloc obj) {u : Value} {w' : World} {ρ' : Rn} (hr : VR ρ' (vD call ms env h i) u)
    (hid : ∃ x, ρ' (stD call ms env h i).2.sz = some x) (s : Sim ρ ⟨(stD call ms env h i).2.sz, .nil⟩ w ρ' ((⟨(stD call ms env h i).2.sz, .nil⟩ : Heap).alloc obj) w') :
    Inv C (listed.setIfInBounds i true) (a.put m.dst u) w' ρ' q := by
  have hsz : i < listed.size := by rw [I.lsz]; exact U.lt
  have hD : ∀ j, j ≠ i → Dn (listed.setIfInBounds i true) j = Dn listed j := fun j hj => by rw [dn_set listed hsz, if_neg hj]
  have hDi : Dn (listed.setIfInBounds i true) i = true := by rw [dn_set listed hsz, if_pos rfl]
  have hnone : ∀ j, (⟨(stD call ms env h i).2.sz, .nil⟩ : Heap).get j = none := fun j => rfl
  have hsi : (stD call ms env h (i + 1)).2.sz = (stD call ms env h i).2.sz + 1 := by rw [hobj]; rfl
  have hρi : ρ (stD call ms env h i).2.sz = none := I.free i U.lt U.undone _ (Nat.le_refl _) (by omega)
  have hnew : ∀ id x, ρ' id = some x → ρ id = none → id = (stD call ms env h i).2.sz := by
    intro id x h1 h2
    have := s.dom id x h1 h2
    simp at this
    omega
  have hblk : ∀ b, b < w.heap.size → w'.heap[b]? = w.heap[b]? := fun b hb => s.frame b hb fun j o n _ hw => hw
  obtain ⟨⟨b, o, n⟩, hx⟩ := hid
  have hbig : w.heap.size ≤ b := by
    rcases s.rng _ b o n hx hρi with h | ⟨j, _, _, _, hw⟩
    · exact h
    · exact hw.elim
  have hok : ObjOK ρ' w' b o n obj := s.mt.objs _ b o n hx obj (by rw [Heap.get_alloc]; simp)
  have hobjq : (stD call ms env h i).2.sz < (stD call ms env h q).2.sz → (stD call ms env h q).2.get (stD call ms env h i).2.sz = some obj := by
    intro hlt
    have hiq : i < q := by
      refine Nat.lt_of_not_le fun hle => ?_
      have := C.le hle
      omega
    have h1 : (stD call ms env h (i + 1)).2.get (stD call ms env h i).2.sz = some obj := by rw [hobj, Heap.get_alloc]; simp
    rw [← h1]
    have h2 := C.chain (id := (stD call ms env h i).2.sz) (a := i + 1) (by omega) (q - (i + 1)) (by have := I.qle; omega) (by
      intro x hx1 hx2 hx3
      have hxN : x < ms.length := by have := I.qle; omega
      have hob := ((C.plain U.lt).2.1 hc)
      obtain ⟨_, _, hob⟩ := hob
      exact U.pairs hxN hx3 (by omega) (by omega) (fun _ => (I.effs x hxN hx3).2 (by omega)) hob (.inr ⟨hc, by omega⟩))
    rwa [show i + 1 + (q - (i + 1)) = q by omega] at h2
  refine ⟨by simp [I.lsz], U.closed I, U.after I.lsz hm s.le I.er hr, I.qle, ?_, ⟨?_, s.mt.blk, ?_, C.hf q⟩, ?_, ?_, Rn.le_trans I.le s.le, ?_, ?_, ?_, Nat.le_trans I.size s.size, I.keep, s.os.trans I.os, s.tape.trans I.tape, s.output.trans I.output, by rw [put_defers]; exact I.defs⟩
  · intro e he hce
    have : e ≠ i := by intro x; subst x; omega
    rw [hD e this]
    exact I.effs e he hce
  · intro id b' o' n' h1 x hg
    cases e : ρ id with
    | some y =>
      have := s.le id y e
      rw [h1] at this
      cases this
      exact ((I.mt.objs id b' o' n' e x hg).mono s.le).block (hblk _ (I.mt.blk id b' o' n' e))
    | none =>
      have := hnew id _ h1 e
      subst this
      rw [hx] at h1
      cases h1
      have hlt : (stD call ms env h i).2.sz < (stD call ms env h q).2.sz := by
        refine Nat.lt_of_not_le fun hle => ?_
        rw [C.hf q _ hle] at hg
        cases hg
      rw [hobjq hlt] at hg
      cases hg
      exact hok
  · intro i1 j1 b' o' n' o2 n2 hij e1 e2 hw ha
    cases f1 : ρ i1 with
    | some y =>
      have := s.le i1 y f1
      rw [e1] at this
      cases this
      cases f2 : ρ j1 with
      | some z =>
        have := s.le j1 z f2
        rw [e2] at this
        cases this
        exact I.mt.inj i1 j1 b' o' n' o2 n2 hij f1 f2 hw ha
      | none =>
        have := hnew j1 _ e2 f2
        subst this
        rw [hx] at e2
        cases e2
        have := I.mt.blk i1 _ _ _ f1
        omega
    | none =>
      have := hnew i1 _ e1 f1
      subst this
      rw [hx] at e1
      cases e1
      cases f2 : ρ j1 with
      | some z =>
        have := s.le j1 z f2
        rw [e2] at this
        cases this
        have := I.mt.blk j1 _ _ _ f2
        omega
      | none => exact hij (hnew j1 _ e2 f2).symm
  · intro j hj hcj hDj hqj
    by_cases e : j = i
    · subst e
      refine ⟨b, o, n, obj, hx, by rw [hobj, Heap.get_alloc]; simp, hok, by have := I.size; omega, ?_⟩
      intro k b' o' n' hk e' eb
      subst eb
      cases f : ρ k with
      | some z =>
        have := s.le k z f
        rw [e'] at this
        cases this
        have := I.mt.blk k _ _ _ f
        omega
      | none => exact hk (hnew k _ e' f)
    · rw [hD j e] at hDj
      obtain ⟨b1, o1, n1, obj1, g1, g2, g3, g4, g5⟩ := I.ext j hj hcj hDj hqj
      have hb1 := I.mt.blk _ _ _ _ g1
      refine ⟨b1, o1, n1, obj1, s.le _ _ g1, g2, (g3.mono s.le).block (hblk b1 hb1), g4, ?_⟩
      intro k b' o' n' hk e' eb
      subst eb
      cases f : ρ k with
      | some z =>
        have := s.le k z f
        rw [e'] at this
        cases this
        exact g5 k _ _ _ hk f rfl
      | none =>
        have := hnew k _ e' f
        subst this
        rw [hx] at e'
        cases e'
        omega
  · intro j hj hDj id h1 h2
    have hji : j ≠ i := by intro x; subst x; rw [hDi] at hDj; cases hDj
    rw [hD j hji] at hDj
    cases e : ρ' id with
    | none => rfl
    | some x =>
      have := hnew id x e (I.free j hj hDj id h1 h2)
      subst this
      exact (C.apart hji h1 h2 (Nat.le_refl _) (by omega)).elim
  · intro id x h1 h2
    cases e : ρ id with
    | some y =>
      have := s.le id y e
      rw [h1] at this
      cases this
      obtain ⟨j, j1, j2, j3, j4⟩ := I.dom id x e h2
      refine ⟨j, j1, j2, j3, ?_⟩
      rw [dn_set listed hsz]
      split
      · rfl
      · exact j4
    | none =>
      have := hnew id x h1 e
      subst this
      exact ⟨i, U.lt, Nat.le_refl _, by omega, hDi⟩
  · intro id b' o' n' h1 h2
    cases e : ρ id with
    | some y =>
      have := s.le id y e
      rw [h1] at this
      cases this
      exact I.rng id b' o' n' e h2
    | none =>
      have := hnew id _ h1 e
      subst this
      rw [hx] at h1
      cases h1
      exact .inl (Nat.le_trans I.size hbig)
  · intro c hc1 hc2
    rw [hblk c (Nat.lt_of_lt_of_le hc1 I.size)]
    exact I.frame c hc1 hc2

/-- writable behind, writable ahead -/
theorem Inv.back {C : Ctx P nt call ops ms env h ρ0 w0 d0} {listed : Array Bool} {a : Act} {w : World} {ρ : Rn} {q : Nat} (I : Inv C listed a w ρ q) {e : Nat} (hqe : q ≤ e) (heN : e ≤ ms.length)
    (hne : ∀ x, q ≤ x → x < e → (noteD call ms env h x).cls ≠ 3) {j : Nat} {y : Nat × Nat × Nat} (hj : ρ0 j = some y) (hw : Wr ((stD call ms env h e).2.get j)) : Wr (h.get j) := by
  by_cases hlt : j < (stD call ms env h q).2.sz
  · have := C.chain hlt (e - q) (by omega) (fun x h1 h2 h3 => (hne x h1 (by omega) h3).elim)
    rw [show q + (e - q) = e by omega] at this
    rw [this] at hw
    exact I.keep j y hj hw
  · exfalso
    have h0 : (stD call ms env h 0).2.sz ≤ j := Nat.le_trans (C.le (Nat.zero_le q)) (by omega)
    have hN : (stD call ms env h ms.length).2.sz ≤ j := by
      refine Nat.le_of_not_lt fun h => ?_
      have := C.fr0 j h0 h
      rw [hj] at this
      cases this
    rw [C.hf e j (Nat.le_trans (C.le heN) hN)] at hw
    exact hw

theorem Inv.effect {C : Ctx P nt call ops ms env h ρ0 w0 d0} {listed : Array Bool} {a : Act} {w : World} {ρ : Rn} {q : Nat} (I : Inv C listed a w ρ q) {i : Nat} (U : Up C listed i) {m : MOper} (hm : ms[i]? = some m)
    (hc : (noteD call ms env h i).cls = 3) {u : Value} {w' : World} {ρ' : Rn} (hr : VR ρ' (vD call ms env h i) u) (s : Sim ρ (stD call ms env h i).2 w ρ' (stD call ms env h (i + 1)).2 w') :
    Inv C (listed.setIfInBounds i true) (a.put m.dst u) w' ρ' (i + 1) := by
  have hsz : i < listed.size := by rw [I.lsz]; exact U.lt
  have hD : ∀ j, j ≠ i → Dn (listed.setIfInBounds i true) j = Dn listed j := fun j hj => by rw [dn_set listed hsz, if_neg hj]
  have hDi : Dn (listed.setIfInBounds i true) i = true := by rw [dn_set listed hsz, if_pos rfl]
  obtain ⟨hqi, hfirst⟩ := U.first I hc
  have hiN := U.lt
  have hback : ∀ j y, ρ0 j = some y → Wr ((stD call ms env h i).2.get j) → Wr (h.get j) := fun j y hj hw => I.back hqi (by omega) hfirst hj hw
  refine ⟨by simp [I.lsz], U.closed I, U.after I.lsz hm s.le I.er hr, by omega, ?_, s.mt, ?_, ?_, Rn.le_trans I.le s.le, ?_, ?_, ?_, Nat.le_trans I.size s.size, ?_, s.os.trans I.os, s.tape.trans I.tape, s.output.trans I.output, by rw [put_defers]; exact I.defs⟩
  · intro e he hce
    by_cases ei : e = i
    · subst ei; rw [hDi]; simp
    · rw [hD e ei, I.effs e he hce]
      constructor
      · intro h; omega
      · intro h
        refine Nat.lt_of_not_le fun hle => ?_
        exact hfirst e hle (by omega) hce
  · intro j hj hcj hDj hqj
    have hji : j ≠ i := by omega
    rw [hD j hji] at hDj
    obtain ⟨b1, o1, n1, obj1, g1, g2, g3, g4, g5⟩ := I.ext j hj hcj hDj (by omega)
    have hb1 := I.mt.blk _ _ _ _ g1
    have hget : (stD call ms env h i).2.get (stD call ms env h j).2.sz = none := C.hf i _ (C.le (by omega))
    have hnw : ∀ k o n, ρ k = some (b1, o, n) → ¬ Wr ((stD call ms env h i).2.get k) := by
      intro k o n hk hw
      by_cases e : k = (stD call ms env h j).2.sz
      · subst e; rw [hget] at hw; exact hw
      · exact g5 k b1 o n e hk rfl
    refine ⟨b1, o1, n1, obj1, s.le _ _ g1, g2, (g3.mono s.le).block (s.frame b1 hb1 hnw), g4, ?_⟩
    intro k b' o' n' hk e' eb
    subst eb
    cases f : ρ k with
    | some z =>
      have := s.le k z f
      rw [e'] at this
      cases this
      exact g5 k _ _ _ hk f rfl
    | none =>
      rcases s.rng k b' o' n' e' f with h | ⟨k2, o2, n2, h1, h2⟩
      · omega
      · exact hnw k2 o2 n2 h1 h2
  · intro j hj hDj id h1 h2
    have hji : j ≠ i := by intro x; subst x; rw [hDi] at hDj; cases hDj
    rw [hD j hji] at hDj
    cases e : ρ' id with
    | none => rfl
    | some x =>
      have := s.dom id x e (I.free j hj hDj id h1 h2)
      exact (C.apart hji h1 h2 this.1 this.2).elim
  · intro id x h1 h2
    cases e : ρ id with
    | some y =>
      have := s.le id y e
      rw [h1] at this
      cases this
      obtain ⟨j, j1, j2, j3, j4⟩ := I.dom id x e h2
      refine ⟨j, j1, j2, j3, ?_⟩
      rw [dn_set listed hsz]
      split
      · rfl
      · exact j4
    | none =>
      have := s.dom id x h1 e
      exact ⟨i, U.lt, this.1, this.2, hDi⟩
  · intro id b' o' n' h1 h2
    cases e : ρ id with
    | some y =>
      have := s.le id y e
      rw [h1] at this
      cases this
      exact I.rng id b' o' n' e h2
    | none =>
      rcases s.rng id b' o' n' h1 e with h | ⟨j, o2, n2, g1, g2⟩
      · exact .inl (Nat.le_trans I.size h)
      · cases f : ρ0 j with
        | none => exact I.rng j b' o2 n2 g1 f
        | some y =>
          have := I.le j y f
          rw [g1] at this
          cases this
          exact .inr ⟨j, o2, n2, f, hback j _ f g2⟩
  · intro c hc1 hc2
    rw [s.frame c (Nat.lt_of_lt_of_le hc1 I.size) ?_]
    · exact I.frame c hc1 hc2
    · intro j o n hj hw
      cases f : ρ0 j with
      | none =>
        rcases I.rng j c o n hj f with h | ⟨k, o2, n2, g1, g2⟩
        · omega
        · exact hc2 k o2 n2 g1 g2
      | some y =>
        have := I.le j y f
        rw [hj] at this
        cases this
        exact hc2 j o n f (hback j _ f hw)
  · intro id x hx hw
    exact hback id x hx (s.keep id x (I.le id x hx) hw)

theorem match_empty {ρ : Rn} {w : World} (hb : ∀ i b o n, ρ i = some (b, o, n) → b < w.heap.size) (k : Nat) : Match ρ ⟨k, .nil⟩ w :=
  ⟨(fun i b o n _ x hx => by cases hx), hb, fun i j b o n o' n' _ _ _ hw => hw.elim, fun i _ => rfl⟩
theorem match_one {ρ : Rn} {w : World} (hb : ∀ i b o n, ρ i = some (b, o, n) → b < w.heap.size) {k : Nat} {x : AObj} (hx : ∀ b o n, ρ k = some (b, o, n) → ObjOK ρ w b o n x) : Match ρ ((⟨k + 1, .nil⟩ : Heap).set k x) w := by
  refine ⟨fun i b o n hi y hy => ?_, hb, fun i j b o n o' n' hij _ _ hw ha => ?_, fun i hi => ?_⟩
  · rw [Heap.get_set] at hy
    by_cases e : i = k
    · subst e; rw [if_pos rfl] at hy; cases hy; exact hx b o n hi
    · rw [if_neg e] at hy; cases hy
  · rw [Heap.get_set] at hw ha
    by_cases e : i = k
    · by_cases e2 : j = k
      · exact hij (e.trans e2.symm)
      · rw [if_neg e2] at ha; exact ha
    · rw [if_neg e] at hw; exact hw
  · have : k + 1 ≤ i := hi
    rw [Heap.get_set, if_neg (by omega)]
    rfl

/-- One step, whichever. -/
theorem Inv.step {C : Ctx P nt call ops ms env h ρ0 w0 d0} {listed : Array Bool} {a : Act} {w : World} {ρ : Rn} {q : Nat} (I : Inv C listed a w ρ q) {i : Nat} (U : Up C listed i) {F : Fence} (hF : Wd F) {n' : Nat} {K : Act → World → Prop} {Q : Exit → Act → World → Prop}
    (hK : ∀ a' w' ρ' q', Inv C (listed.setIfInBounds i true) a' w' ρ' q' → K a' w') : wpOpIn F n' P ops Q i K a w := by
  obtain ⟨o, m, ho, hm, hco, hst, hnote⟩ := C.get U.lt
  have hdst : m.dst = o.dst := (compOper_spec hco).1
  have hlooks : ∀ t ∈ m.looks, (Opd.t t).ev (mix ms (vD call ms env h) (Dn listed) env ms.length) = (Opd.t t).ev (stD call ms env h i).1 := fun t ht => U.looks hm ht
  have hw := wantedA_congr hlooks
  have hcong := stepA_congr (call := call) hlooks
  unfold wpOpIn
  rw [ho]
  simp only
  -- with a heap of our own choice
  have go : ∀ (Hx Hx' : Heap), stepA call m (stD call ms env h i).1 Hx = some (vD call ms env h i, Hx') → Match ρ Hx w → Free ρ Hx.sz Hx'.sz →
      (∀ u w' ρ', VR ρ' (vD call ms env h i) u → Sim ρ Hx w ρ' Hx' w' → (wantedA m (stD call ms env h i).1 = some false ∨ m.op.cls ≤ 1 → w' = w ∧ ρ' = ρ) → K (a.put o.dst u) w') →
      if Region.wanted o (yielded ops a.tmps) then o.wpIn F n' P a w K Q else (∀ f, o.about P w a.eval = some f → F.fn f) ∧ K (a.put o.dst undef) w := by
    intro Hx Hx' h1 h2 h3 h4
    exact stepY_sound hF C.hcall (noY_sound AnyI) hco (by rw [stepY_noY, hcong]; exact h1) I.er h2 trivial h3 (fun u w' ρ' r s t => h4 u w' ρ' r s (by rw [← hw]; exact t))
  obtain ⟨p1, p2, p3⟩ := C.plain U.lt
  by_cases h3 : (noteD call ms env h i).cls = 3
  · obtain ⟨hqi, hfirst⟩ := U.first I h3
    refine go _ _ hst (I.matchAt hqi (by have := U.lt; omega) hfirst) (I.free i U.lt U.undone) ?_
    intro u w' ρ' r s _
    rw [← hdst]
    exact hK _ _ _ _ (I.effect U hm h3 r s)
  by_cases h2 : (noteD call ms env h i).cls = 2
  · -- it makes an object
    have hw2 : wantedA m (stD call ms env h i).1 = some true ∧ m.op.cls = 2 := by
      rw [hnote] at h2
      unfold noteA at h2
      split at h2
      · rename_i e; exact ⟨e, h2⟩
      · simp at h2
    rw [stepA_plain hw2.1 (by omega)] at hst
    obtain ⟨obj, e1, e2, e3⟩ := alloc_any hw2.2 hst
    refine go ⟨(stD call ms env h i).2.sz, .nil⟩ _ (by rw [stepA_plain hw2.1 (by omega)]; exact e3 _ rfl) (match_empty I.mt.blk _) ?_ ?_
    · intro j h1 h2'
      refine I.free i U.lt U.undone j h1 ?_
      rw [e1]
      exact h2'
    · intro u w' ρ' r s _
      rw [← hdst]
      exact hK _ _ _ _ (I.alloc U hm h2 e1 r (e2 ρ' u r) s)
  -- it makes nothing
  have hcls : (noteD call ms env h i).cls ≤ 1 := by omega
  have fin : ∀ u w' ρ', VR ρ' (vD call ms env h i) u → (wantedA m (stD call ms env h i).1 = some false ∨ m.op.cls ≤ 1 → w' = w ∧ ρ' = ρ) → (wantedA m (stD call ms env h i).1 = some false ∨ m.op.cls ≤ 1) → K (a.put o.dst u) w' := by
    intro u w' ρ' r t hq
    obtain ⟨rfl, rfl⟩ := t hq
    rw [← hdst]
    exact hK _ _ _ _ (I.quiet U hm hcls r)
  cases hwv : wantedA m (stD call ms env h i).1 with
  | none => unfold stepA at hst; rw [hwv] at hst; cases hst
  | some b =>
    cases b with
    | false =>
      have hv : stepA call m (stD call ms env h i).1 (stD call ms env h q).2 = some (vD call ms env h i, (stD call ms env h q).2) := by
        unfold stepA at hst ⊢
        rw [hwv] at hst ⊢
        simp only [Option.some.injEq, Prod.mk.injEq] at hst ⊢
        exact ⟨hst.1, trivial⟩
      refine go _ _ hv I.mt (fun j h1 h2 => by omega) ?_
      intro u w' ρ' r s t
      exact fin u w' ρ' r t (.inl hwv)
    | true =>
      have hop : m.op.cls ≤ 1 := by
        rw [hnote] at hcls
        unfold noteA at hcls
        rw [hwv] at hcls
        exact hcls
      have hpl := stepA_plain (call := call) hwv (by omega : m.op.cls ≠ 3)
      rw [hpl] at hst
      by_cases h0 : m.op.cls = 0
      · obtain ⟨_, e2⟩ := pure_any h0 hst
        refine go _ _ (by rw [hpl]; exact e2 (stD call ms env h q).2) I.mt (fun j h1 h2 => by omega) ?_
        intro u w' ρ' r s t
        exact fin u w' ρ' r t (.inr hop)
      · have h1c : m.op.cls = 1 := by omega
        obtain ⟨_, e2⟩ := read_any h1c hst
        cases hrd : m.op.rd (stD call ms env h i).1 with
        | none =>
          refine go _ _ (by rw [hpl]; exact e2 (stD call ms env h q).2 (fun id hid => by rw [hrd] at hid; cases hid)) I.mt (fun j h1 h2 => by omega) ?_
          intro u w' ρ' r s t
          exact fin u w' ρ' r t (.inr hop)
        | some id =>
          have hobj : (noteD call ms env h i).obj = some id := by
            rw [hnote]
            unfold noteA
            rw [hwv]
            simp only [h1c]
            exact hrd
          have hn1 : (noteD call ms env h i).cls = 1 := by
            rw [hnote]
            unfold noteA
            rw [hwv]
            exact h1c
          have hiN := U.lt
          have hqN := I.qle
          cases hg : (stD call ms env h i).2.get id with
          | none =>
            refine go _ _ (by rw [hpl]; exact e2 ⟨0, .nil⟩ (fun id' hid => by rw [hrd] at hid; cases hid; rw [hg]; rfl)) (match_empty I.mt.blk 0) (fun j h1 h2 => by omega) ?_
            intro u w' ρ' r s t
            exact fin u w' ρ' r t (.inr hop)
          | some x =>
            have hlt : id < (stD call ms env h i).2.sz := by
              refine Nat.lt_of_not_le fun hle => ?_
              rw [C.hf i id hle] at hg
              cases hg
            refine go ((⟨id + 1, .nil⟩ : Heap).set id x) _ (by rw [hpl]; exact e2 _ (fun id' hid => by rw [hrd] at hid; cases hid; rw [hg, Heap.get_set, if_pos rfl])) (match_one I.mt.blk ?_) (fun j h1 h2 => by omega) ?_
            · intro b o' n hρ
              have pairs := fun {e : Nat} (he : e < ms.length) (hc : (noteD call ms env h e).cls = 3) (hne : e ≠ i) (hD : e < i → Dn listed e = false) (hD2 : i < e → Dn listed e = true) => U.pairs he hc hne hD hD2 hobj (.inl hn1)
              by_cases hiq : i < q
              · have := C.chain hlt (q - i) (by omega) (by
                  intro e h1 h2 h3
                  have heN : e < ms.length := by omega
                  by_cases hei : e = i
                  · subst hei; omega
                  · exact pairs heN h3 hei (by omega) (fun _ => (I.effs e heN h3).2 (by omega)))
                rw [show i + (q - i) = q by omega] at this
                exact I.mt.objs id b o' n hρ x (by rw [this, hg])
              · by_cases hidq : id < (stD call ms env h q).2.sz
                · have := C.chain hidq (i - q) (by omega) (by
                    intro e h1 h2 h3
                    have heN : e < ms.length := by omega
                    refine pairs heN h3 (by omega) (fun _ => ?_) (by omega)
                    cases hDe : Dn listed e with
                    | false => rfl
                    | true => have := (I.effs e heN h3).1 hDe; omega)
                  rw [show q + (i - q) = i by omega] at this
                  exact I.mt.objs id b o' n hρ x (by rw [← this, hg])
                · obtain ⟨j, j1, j2, j3, j4, j5⟩ := I.late hρ (by omega) (Nat.lt_of_lt_of_le hlt (C.le (by omega)))
                  subst j5
                  have hji : j < i := by
                    refine Nat.lt_of_not_le fun hle => ?_
                    have := C.le hle
                    omega
                  obtain ⟨b1, o1, n1, obj1, g1, g2, g3, _⟩ := I.ext j j2 j3 j4 j1
                  obtain ⟨_, p2', _⟩ := C.plain j2
                  obtain ⟨obj', e', _⟩ := p2' j3
                  have hsz : (stD call ms env h j).2.sz < (stD call ms env h (j + 1)).2.sz := by rw [e']; simp
                  have := C.chain hsz (i - (j + 1)) (by omega) (by
                    intro e h1 h2 h3
                    have heN : e < ms.length := by omega
                    refine pairs heN h3 (by omega) (fun _ => ?_) (by omega)
                    cases hDe : Dn listed e with
                    | false => rfl
                    | true => have := (I.effs e heN h3).1 hDe; omega)
                  rw [show j + 1 + (i - (j + 1)) = i by omega, hg, g2] at this
                  cases this
                  rw [g1] at hρ
                  cases hρ
                  exact g3
            · intro u w' ρ' r s t
              exact fin u w' ρ' r t (.inr hop)

def undone (listed : Array Bool) : Nat := listed.toList.countP (· == false)
theorem undone_set {listed : Array Bool} {i : Nat} (hi : i < listed.size) (hD : Dn listed i = false) : undone (listed.setIfInBounds i true) + 1 = undone listed := by
  have hl : listed[i] = false := by
    unfold Dn at hD
    simpa [Array.getD_eq_getD_getElem?, hi] using hD
  unfold undone
  rw [Array.toList_setIfInBounds]
  have hi' : i < listed.toList.length := by simpa using hi
  have := List.countP_set (p := (· == false)) (l := listed.toList) (a := true) hi'
  rw [this]
  have hp : 0 < listed.toList.countP (· == false) := List.countP_pos_iff.2 ⟨listed.toList[i], List.getElem_mem hi', by simp [hl]⟩
  have e1 : listed.toList[i] = false := by simpa using hl
  have e2 : (if (listed.toList[i] == false) = true then 1 else 0) = 1 := by rw [e1]; rfl
  have e3 : (if (true == false) = true then 1 else 0) = 0 := rfl
  omega
theorem undone_zero {listed : Array Bool} (hu : undone listed = 0) : ∀ j, j < listed.size → Dn listed j = true := by
  intro j hj
  cases hD : Dn listed j with
  | true => rfl
  | false => have := undone_set hj hD; omega

theorem Inv.done {C : Ctx P nt call ops ms env h ρ0 w0 d0} {listed : Array Bool} {a : Act} {w : World} {ρ : Rn} {q : Nat} (I : Inv C listed a w ρ q) (hall : ∀ j, j < ms.length → Dn listed j = true) :
    EnvR ρ (stD call ms env h ms.length).1 a nt ∧ Sim ρ0 h w0 ρ (stD call ms env h ms.length).2 w := by
  have hne : ∀ x, q ≤ x → x < ms.length → (noteD call ms env h x).cls ≠ 3 := by
    intro x h1 h2 h3
    have := (I.effs x h2 h3).1 (hall x h2)
    omega
  constructor
  · refine ⟨I.er.size, fun t v ht => ?_⟩
    rw [← mix_run C.T (Dn listed) t ms.length fun i hi _ => hall i hi]
    exact I.er.rel t v ht
  · refine ⟨I.le, fun i x h1 h2 => ?_, I.rng, I.matchAt I.qle (Nat.le_refl _) hne, I.frame, I.size, C.le (Nat.zero_le _), fun i x hx hw => I.back I.qle (Nat.le_refl _) hne hx hw, I.os, I.tape, I.output⟩
    obtain ⟨j, j1, j2, j3, _⟩ := I.dom i x h1 h2
    exact ⟨Nat.le_trans (C.le (Nat.zero_le j)) j2, Nat.lt_of_lt_of_le j3 (C.le (by omega))⟩

theorem any_sound {F : Fence} (hF : Wd F) {n' : Nat} (C : Ctx P nt call ops ms env h ρ0 w0 d0) {Q : Exit → Act → World → Prop} (hQ : ∀ a' w' ρ', EnvR ρ' (stD call ms env h ms.length).1 a' nt → Sim ρ0 h w0 ρ' (stD call ms env h ms.length).2 w' → a'.defers = d0 → Q .normal a' w') :
    ∀ (fuel : Nat) (listed : Array Bool) (a : Act) (w : World) (ρ : Rn) (q : Nat), Inv C listed a w ρ q → undone listed ≤ fuel → wpAnyIn F n' P .any ops Q fuel listed a w := by
  have hlen : ms.length = ops.size := by rw [(compOpers_get C.hms).1]; simp
  intro fuel
  induction fuel with
  | zero =>
    intro listed a w ρ q I hu
    have hall := undone_zero (by omega : undone listed = 0)
    have hall' : ∀ j, j < ms.length → Dn listed j = true := fun j hj => hall j (by rw [I.lsz]; exact hj)
    obtain ⟨e1, e2⟩ := I.done hall'
    refine ⟨?_, hQ a w ρ e1 e2 I.defs⟩
    cases hr : Region.ready .any ops listed with
    | nil => rfl
    | cons x xs =>
      have := mem_ready (ops := ops) (by rw [I.lsz, hlen]) (show x ∈ Region.ready .any ops listed by rw [hr]; simp)
      rw [hall' x (by omega)] at this
      cases this.2.1
  | succ fuel ih =>
    intro listed a w ρ q I hu
    refine ⟨fun hr => ?_, fun i hi => ?_⟩
    · have hall := ready_nil (by rw [I.lsz, hlen]) C.lt hr
      obtain ⟨e1, e2⟩ := I.done fun j hj => hall j (by omega)
      exact hQ a w ρ e1 e2 I.defs
    · have U := Ctx.up I hi
      refine I.step U hF ?_
      intro a' w' ρ' q' I'
      refine ih _ a' w' ρ' q' I' ?_
      have := undone_set (by rw [I.lsz]; exact U.lt) U.undone
      omega
end

theorem draw_sound {P : Program} (hm : P.follows .mixedOrders = true) : DrawSound P := by
  intro F hF n' nt call hcall id ops ms pr hms hpr ht hlt env env' h h' hd ρ a w he mt fr Q hQ
  subst hpr
  obtain ⟨T, hend⟩ := drawA_trace call ms env h ms 0 (predsAll ops.toList []) env' h' rfl hd
  have hend := hend (Nat.zero_le _)
  have C : Ctx P nt call ops ms env h ρ w a.defers := by
    refine ⟨hcall, hms, T, ht, ?_, mt, by rw [hend]; exact fr⟩
    intro j o ho i hi
    rw [List.all_eq_true] at hlt
    have := hlt (o, j) (List.mem_zipIdx_iff_getElem?.2 (by rw [Array.getElem?_toList]; exact ho))
    exact Nat.le_of_ble_eq_true (List.all_eq_true.1 this i hi)
  have hlen : ms.length = ops.size := by rw [(compOpers_get hms).1]; simp
  have hD : ∀ j, Dn (Array.replicate ops.size false) j = false := by
    intro j
    unfold Dn
    simp only [Array.getD_eq_getD_getElem?, Array.getElem?_replicate]
    split <;> rfl
  refine wpIn_region_any hm ?_
  refine any_sound hF (d0 := a.defers) C (by rw [hend]; exact hQ) ops.size _ a _ ρ 0 ?_ ?_
  · refine ⟨by simp [hlen], (fun j o hj => by rw [hD] at hj; cases hj), ?_, Nat.zero_le _, fun e _ _ => by rw [hD]; simp, mt.world rfl, (fun i _ _ hDi => by rw [hD] at hDi; cases hDi), ?_, Rn.le_refl ρ, (fun i x h1 h2 => by rw [h2] at h1; cases h1), (fun i b o n h1 h2 => by rw [h2] at h1; cases h1),
      fun _ _ _ => rfl, Nat.le_refl _, fun _ _ _ hw => hw, rfl, rfl, rfl, rfl⟩
    · refine ⟨he.size, fun t v ht' => ?_⟩
      have := mix_stable ms (vD call ms env h) (Dn (Array.replicate ops.size false)) env t 0 ms.length (fun i _ _ hDi => by rw [hD] at hDi; cases hDi)
      rw [Nat.zero_add] at this
      rw [this]
      exact he.rel t v ht'
    · intro i hi _
      exact C.fr0.mono (C.le (Nat.zero_le i)) (C.le (by omega))
  · unfold undone
    simp [List.countP_replicate]
end Go.Ab
