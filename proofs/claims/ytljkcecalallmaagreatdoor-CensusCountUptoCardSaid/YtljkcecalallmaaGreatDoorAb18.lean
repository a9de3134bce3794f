/- Regions that draw their order (3): each step; the end. -/
import Derived.Test.YtljkcecalallmaaGreatDoorAb17
namespace Go.Ab
open Go
section
variable {P : Program} {nt : Nat} {call : CallF} {ops : Array Oper} {ms : List MOper} {env : Env} {h : Heap} {ρ0 : Rn} {w0 : World} {d0 : List Deferred}

theorem dn_set (listed : Array Bool) {i j : Nat} (hi : i < listed.size) : Dn (listed.setIfInBounds i true) j = if j = i then true else Dn listed j := by
  unfold Dn
  simp only [Array.getD_eq_getD_getElem?, Array.getElem?_setIfInBounds]
  by_cases e : i = j
  · subst e; simp [hi]
  · rw [if_neg e, if_neg (Ne.symm e)]

theorem mem_ready {listed : Array Bool} {i : Nat} (hsz : listed.size = ops.size) (hi : i ∈ Region.ready .any ops listed) : i < ops.size ∧ Dn listed i = false ∧ ∀ o, ops[i]? = some o → ∀ x ∈ directs o, Dn listed x = true := by
  unfold Region.ready at hi
  rw [List.mem_filter] at hi
  obtain ⟨h1, h2⟩ := hi
  have hlt := List.mem_range.1 h1
  rw [Bool.and_eq_true] at h2
  refine ⟨hlt, ?_, fun o ho x hx => ?_⟩
  · have h3 := h2.1
    have hl : i < listed.size := by omega
    unfold Dn
    simp only [Array.getD_eq_getD_getElem?, Array.getElem?_eq_getElem hl, Option.getD_some] at h3 ⊢
    simpa using h3
  · have h3 := h2.2
    rw [ho] at h3
    simp only [Option.map_some, Option.getD_some] at h3
    unfold directs at hx
    rw [List.mem_map] at hx
    obtain ⟨e, he, rfl⟩ := hx
    rw [List.mem_filter] at he
    rw [← Array.all_toList] at h3
    have := List.all_eq_true.1 h3 e he.1
    rw [he.2] at this
    simpa [Dn] using this

theorem ready_nil {listed : Array Bool} (hsz : listed.size = ops.size) (hlt : ∀ j o, ops[j]? = some o → ∀ i ∈ directs o, i < j) (hr : Region.ready .any ops listed = []) : ∀ j, j < ops.size → Dn listed j = true := by
  intro j
  induction j using Nat.strongRecOn with
  | _ j ih =>
    intro hj
    cases hD : Dn listed j with
    | true => rfl
    | false =>
      exfalso
      have : j ∈ Region.ready .any ops listed := by
        unfold Region.ready
        rw [List.mem_filter]
        refine ⟨List.mem_range.2 hj, ?_⟩
        rw [Bool.and_eq_true]
        constructor
        · have hl : j < listed.size := by omega
          unfold Dn at hD
          simp only [Array.getD_eq_getD_getElem?, Array.getElem?_eq_getElem hl, Option.getD_some] at hD ⊢
          simpa using hD
        · have ho := Array.getElem?_eq_getElem hj
          rw [ho]
          simp only [Option.map_some, Option.getD_some]
          rw [← Array.all_toList]
          refine List.all_eq_true.2 fun e he => ?_
          cases hb : Region.binds .any e with
          | false => rfl
          | true =>
            have hd : e.on ∈ directs ops[j] := List.mem_map.2 ⟨e, List.mem_filter.2 ⟨he, hb⟩, rfl⟩
            have hlt' := hlt j _ ho _ hd
            have := ih e.on hlt' (by omega)
            simpa [Dn] using this
      rw [hr] at this
      cases this

/-- the order of the operations that touch one temporary -/
theorem tmps_spec {prs : List (List Nat)} (ht : tmpsOk ms prs = true) {i j t : Nat} {o : MOper} (hj : ms[j]? = some o) (hi : dstAt ms i = some t) (hne : i ≠ j) (hl : t ∈ o.looks ∨ o.dst = some t) :
    (((prs[j]?).getD []).contains i = true ∨ ((prs[i]?).getD []).contains j = true) := by
  unfold tmpsOk at ht
  rw [List.all_eq_true] at ht
  have h1 := ht (o, j) (List.mem_zipIdx_iff_getElem?.2 hj)
  simp only [Bool.and_eq_true] at h1
  have h2 := h1.2
  rw [List.all_eq_true] at h2
  unfold dstAt at hi
  cases hm : ms[i]? with
  | none => rw [hm] at hi; cases hi
  | some p =>
    rw [hm] at hi
    simp only [Option.bind_some] at hi
    have h3 := h2 (p, i) (List.mem_zipIdx_iff_getElem?.2 hm)
    simp only [hi] at h3
    simp only [Bool.or_eq_true, beq_iff_eq, Bool.not_eq_true', Bool.or_eq_false_iff, List.contains_iff_mem] at h3
    rcases h3 with ((h3 | h3) | h3) | h3
    · exact (hne h3).elim
    · obtain ⟨h4, h5⟩ := h3
      rcases hl with hl | hl
      · exfalso
        have : o.looks.contains t = true := by rw [List.contains_iff_mem]; exact hl
        rw [this] at h4
        cases h4
      · rw [hl] at h5; simp at h5
    · left; rw [List.contains_iff_mem]; exact h3
    · right; rw [List.contains_iff_mem]; exact h3
theorem preds_lt {prs : List (List Nat)} (ht : tmpsOk ms prs = true) {j : Nat} {o : MOper} (hj : ms[j]? = some o) {x : Nat} (hx : x ∈ (prs[j]?).getD []) : x < j := by
  unfold tmpsOk at ht
  rw [List.all_eq_true] at ht
  have h1 := ht (o, j) (List.mem_zipIdx_iff_getElem?.2 hj)
  simp only [Bool.and_eq_true] at h1
  exact Nat.le_of_ble_eq_true (List.all_eq_true.1 h1.1 x hx)

/-- an operation that may come up now -/
structure Up (C : Ctx P nt call ops ms env h ρ0 w0 d0) (listed : Array Bool) (i : Nat) : Prop where
  lt : i < ms.length
  undone : Dn listed i = false
  dir : ∀ o, ops[i]? = some o → ∀ x ∈ directs o, Dn listed x = true
  mine : ∀ x ∈ ((predsAll ops.toList [])[i]?).getD [], Dn listed x = true
  notOf : ∀ j, j < ms.length → Dn listed j = true → i ∉ ((predsAll ops.toList [])[j]?).getD []

theorem Ctx.up {C : Ctx P nt call ops ms env h ρ0 w0 d0} {listed : Array Bool} {a : Act} {w : World} {ρ : Rn} {q : Nat} (I : Inv C listed a w ρ q) {i : Nat} (hi : i ∈ Region.ready .any ops listed) : Up C listed i := by
  have hlen : ms.length = ops.size := by rw [(compOpers_get C.hms).1]; simp
  obtain ⟨h1, h2, h3⟩ := mem_ready (by rw [I.lsz, hlen]) hi
  have hiN : i < ms.length := by omega
  have closedAll : ∀ j p, j < ms.length → Dn listed j = true → (predsAll ops.toList [])[j]? = some p → ∀ x ∈ p, Dn listed x = true := by
    intro j p hj hD hp
    refine preds_closed (D := fun x => Dn listed x = true) C.lt I.closed j p hD hp ?_
    exact ⟨ops[j]'(by omega), Array.getElem?_eq_getElem _⟩
  refine ⟨hiN, h2, h3, ?_, ?_⟩
  · intro x hx
    cases hp : (predsAll ops.toList [])[i]? with
    | none => rw [hp] at hx; simp at hx
    | some p =>
      rw [hp] at hx
      have := preds_closed (D := fun x => Dn listed x = true ∨ x = i) C.lt (by
        rintro j o (hj | rfl) ho y hy
        · exact .inl (I.closed j o hj ho y hy)
        · exact .inl (h3 o ho y hy)) i p (.inr rfl) hp ⟨ops[i]'(by omega), Array.getElem?_eq_getElem _⟩ x hx
      rcases this with h | h
      · exact h
      · subst h
        obtain ⟨o, m, _, hm, _⟩ := C.get hiN
        have := preds_lt C.tmps hm (x := x) (by rw [hp]; exact hx)
        omega
  · intro j hj hD hx
    cases hp : (predsAll ops.toList [])[j]? with
    | none => rw [hp] at hx; simp at hx
    | some p =>
      rw [hp] at hx
      have := closedAll j p hj hD hp i hx
      rw [h2] at this
      cases this

/-- what it looks at is as in the text's order -/
theorem Up.looks {C : Ctx P nt call ops ms env h ρ0 w0 d0} {listed : Array Bool} {i : Nat} (U : Up C listed i) {m : MOper} (hm : ms[i]? = some m) {t : Nat} (ht : t ∈ m.looks) :
    (Opd.t t).ev (mix ms (vD call ms env h) (Dn listed) env ms.length) = (Opd.t t).ev (stD call ms env h i).1 := by
  have hi := U.lt
  have e1 := mix_stable ms (vD call ms env h) (Dn listed) env t i (ms.length - i) (by
    intro j h1 h2 hD hd
    have hji : j ≠ i := by intro e; subst e; rw [U.undone] at hD; cases hD
    rcases tmps_spec C.tmps hm hd hji (.inl ht) with h | h
    · have := preds_lt C.tmps hm (List.contains_iff_mem.1 h)
      omega
    · exact U.notOf j (by omega) hD (List.contains_iff_mem.1 h))
  rw [show i + (ms.length - i) = ms.length by omega] at e1
  rw [e1]
  refine mix_run C.T (Dn listed) t i fun j hj hd => ?_
  rcases tmps_spec C.tmps hm hd (by omega) (.inl ht) with h | h
  · exact U.mine j (List.contains_iff_mem.1 h)
  · obtain ⟨_, m', _, hm', _⟩ := C.get (show j < ms.length by omega)
    have := preds_lt C.tmps hm' (List.contains_iff_mem.1 h)
    omega

/-- the temporaries behind it -/
theorem Up.after {C : Ctx P nt call ops ms env h ρ0 w0 d0} {listed : Array Bool} {i : Nat} (U : Up C listed i) (hsz : listed.size = ms.length) {m : MOper} (hm : ms[i]? = some m) {ρ ρ' : Rn} {a : Act} (hle : ρ.le ρ')
    (he : EnvR ρ (mix ms (vD call ms env h) (Dn listed) env ms.length) a nt) {u : Value} (hr : VR ρ' (vD call ms env h i) u) :
    EnvR ρ' (mix ms (vD call ms env h) (Dn (listed.setIfInBounds i true)) env ms.length) (a.put m.dst u) nt := by
  have hi := U.lt
  have hp := he.put hle hr m.dst
  refine ⟨hp.size, fun t x hx => ?_⟩
  have := hp.rel t x hx
  suffices e : (Opd.t t).ev (mix ms (vD call ms env h) (Dn (listed.setIfInBounds i true)) env ms.length) = (Opd.t t).ev (putA (mix ms (vD call ms env h) (Dn listed) env ms.length) m.dst (vD call ms env h i)) by
    rw [e]; exact this
  have hD : ∀ j, j ≠ i → Dn (listed.setIfInBounds i true) j = Dn listed j := fun j hj => by rw [dn_set listed (by omega), if_neg hj]
  by_cases hd : m.dst = some t
  · rw [hd, ev_put_self]
    have hda : dstAt ms i = some t := by simp [dstAt, hm, hd]
    have e1 := mix_stable ms (vD call ms env h) (Dn (listed.setIfInBounds i true)) env t (i + 1) (ms.length - (i + 1)) (by
      intro j h1 h2 hDj hdj
      rw [hD j (by omega)] at hDj
      rcases tmps_spec C.tmps hm hdj (by omega) (.inr hd) with h | h
      · have := preds_lt C.tmps hm (List.contains_iff_mem.1 h)
        omega
      · exact U.notOf j (by omega) hDj (List.contains_iff_mem.1 h))
    rw [show i + 1 + (ms.length - (i + 1)) = ms.length by omega] at e1
    rw [e1]
    exact mix_self _ _ _ _ _ _ (by rw [dn_set listed (by omega), if_pos rfl]) hda
  · rw [ev_put_other hd]
    exact mix_other ms _ (Dn listed) (Dn (listed.setIfInBounds i true)) env t i hD (by simp [dstAt, hm, hd]) _

/-- the effects that stand between an operation and what has been done are not ordered against it, and leave its object alone -/
theorem Up.pairs {C : Ctx P nt call ops ms env h ρ0 w0 d0} {listed : Array Bool} {i : Nat} (U : Up C listed i) {e : Nat} (he : e < ms.length) (hc : (noteD call ms env h e).cls = 3) (hn : e ≠ i)
    (hD : e < i → Dn listed e = false) (hD2 : i < e → Dn listed e = true) {id : Nat} (ho : (noteD call ms env h i).obj = some id) (hk : (noteD call ms env h i).cls = 1 ∨ (noteD call ms env h i).cls = 2 ∧ i < e) :
    (stD call ms env h e).2.get id = (stD call ms env h (e + 1)).2.get id := by
  have hlen : ms.length = ops.size := by rw [(compOpers_get C.hms).1]; simp
  have hh : ∀ j, j < ms.length → (noteD call ms env h j).h = (stD call ms env h j).2 ∧ (noteD call ms env h j).h' = (stD call ms env h (j + 1)).2 := by
    intro j hj
    obtain ⟨o, m, _, _, _, _, hn⟩ := C.get hj
    rw [hn]
    unfold noteA
    split <;> exact ⟨rfl, rfl⟩
  have hpr : ∀ j, j < ms.length → ∃ p, (predsAll ops.toList [])[j]? = some p := by
    intro j hj
    obtain ⟨o, m, ho, _⟩ := C.get hj
    obtain ⟨p, hp, _⟩ := (predsAll_spec ops.toList []).2 j o (by rw [Array.getElem?_toList]; exact ho)
    simp only [List.length_nil, Nat.zero_add] at hp
    exact ⟨p, hp⟩
  rcases Nat.lt_or_gt_of_ne hn with hlt | hgt
  · obtain ⟨p, hp⟩ := hpr i U.lt
    rcases C.T.pair i e p (Nat.zero_le _) U.lt hlt hp with h1 | h1
    · have := U.mine e (by rw [hp]; exact List.contains_iff_mem.1 h1)
      rw [hD hlt] at this
      cases this
    · rcases hk with hk | ⟨_, hk⟩
      · unfold pairOk at h1
        rw [hk, hc] at h1
        simp only [ho, (hh e he).1, (hh e he).2] at h1
        exact objEq_eq h1
      · omega
  · obtain ⟨p, hp⟩ := hpr e he
    rcases C.T.pair e i p (Nat.zero_le _) he hgt hp with h1 | h1
    · exact (U.notOf e he (hD2 hgt) (by rw [hp]; exact List.contains_iff_mem.1 h1)).elim
    · unfold pairOk at h1
      rw [hc] at h1
      rcases hk with hk | ⟨hk, _⟩
      · rw [hk] at h1
        simp only [ho, (hh e he).1, (hh e he).2] at h1
        exact objEq_eq h1
      · rw [hk] at h1
        simp only [ho, (hh e he).1, (hh e he).2] at h1
        exact objEq_eq h1
/-- no effect between what has been done and an effect that may come up -/
theorem Up.first {C : Ctx P nt call ops ms env h ρ0 w0 d0} {listed : Array Bool} {a : Act} {w : World} {ρ : Rn} {q : Nat} (I : Inv C listed a w ρ q) {i : Nat} (U : Up C listed i) (hc : (noteD call ms env h i).cls = 3) :
    q ≤ i ∧ ∀ x, q ≤ x → x < i → (noteD call ms env h x).cls ≠ 3 := by
  have hqi : q ≤ i := by
    refine Nat.le_of_not_lt fun hlt => ?_
    have := (I.effs i U.lt hc).2 hlt
    rw [U.undone] at this
    cases this
  refine ⟨hqi, fun x h1 h2 h3 => ?_⟩
  obtain ⟨o, m, ho, _⟩ := C.get U.lt
  obtain ⟨p, hp, _⟩ := (predsAll_spec ops.toList []).2 i o (by rw [Array.getElem?_toList]; exact ho)
  simp only [List.length_nil, Nat.zero_add] at hp
  rcases C.T.pair i x p (Nat.zero_le _) U.lt h2 hp with h4 | h4
  · have := U.mine x (by rw [hp]; exact List.contains_iff_mem.1 h4)
    have := (I.effs x (by have := U.lt; omega) h3).1 this
    omega
  · unfold pairOk at h4
    rw [hc, h3] at h4
    cases h4
end
end Go.Ab
