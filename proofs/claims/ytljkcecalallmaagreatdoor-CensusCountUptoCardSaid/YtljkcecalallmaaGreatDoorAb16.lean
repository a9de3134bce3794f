/- Regions that draw their order (1): the run in the text's order, and what may differ from it. -/
import Derived.Test.YtljkcecalallmaaGreatDoorAb15b
namespace Go.Ab
open Go

theorem stepA_congr {call : CallF} {m : MOper} {env env' : Env} (h : ∀ t ∈ m.looks, (Opd.t t).ev env = (Opd.t t).ev env') (hp : Heap) : stepA call m env hp = stepA call m env' hp := by
  have hop : ∀ y ∈ m.op.opds, y.ev env = y.ev env' := by
    intro y hy
    cases y with
    | c v => rfl
    | t n => exact h n (List.mem_append_left _ (List.mem_flatMap.2 ⟨.t n, hy, by simp [Opd.tmps]⟩))
  have hw : wantedA m env = wantedA m env' := by
    unfold wantedA
    cases hg : m.guard with
    | none => rfl
    | some gw =>
      obtain ⟨t, want⟩ := gw
      simp only
      rw [h t (List.mem_append_right _ (by rw [hg]; simp))]
  unfold stepA
  rw [hw]
  split
  · rfl
  · rfl
  · split
    · rename_i f args e
      rw [e] at hop
      simp only [MOp.opds, List.mem_cons, forall_eq_or_imp] at hop
      rw [hop.1]
      split
      · rw [List.map_congr_left fun y hy => hop.2 y hy]
      · rfl
    · exact opA_congr hop hp
theorem wantedA_congr {m : MOper} {env env' : Env} (h : ∀ t ∈ m.looks, (Opd.t t).ev env = (Opd.t t).ev env') : wantedA m env = wantedA m env' := by
  unfold wantedA
  cases hg : m.guard with
  | none => rfl
  | some gw =>
    obtain ⟨t, want⟩ := gw
    simp only
    rw [h t (List.mem_append_right _ (by rw [hg]; simp))]

section
variable (call : CallF) (ms : List MOper) (env : Env) (h : Heap)
def stD : Nat → Env × Heap
  | 0 => (env, h)
  | k + 1 => match ms[k]? with
    | some m => match stepA call m (stD k).1 (stD k).2 with
      | some (v, h') => (putA (stD k).1 m.dst v, h')
      | none => stD k
    | none => stD k
def vD (k : Nat) : AV := match ms[k]? with
  | some m => match stepA call m (stD call ms env h k).1 (stD call ms env h k).2 with
    | some (v, _) => v
    | none => undefA
  | none => undefA
def noteD (k : Nat) : Note := match ms[k]? with
  | some m => noteA m (stD call ms env h k).1 (stD call ms env h k).2 (stD call ms env h (k + 1)).2
  | none => ⟨0, none, h, h⟩

/-- the run, step by step -/
structure Trace (prs : List (List Nat)) (k : Nat) : Prop where
  step : ∀ j m, k ≤ j → ms[j]? = some m → stepA call m (stD call ms env h j).1 (stD call ms env h j).2 = some (vD call ms env h j, (stD call ms env h (j + 1)).2) ∧
    (stD call ms env h (j + 1)).1 = putA (stD call ms env h j).1 m.dst (vD call ms env h j)
  pair : ∀ j i p, k ≤ j → j < ms.length → i < j → prs[j]? = some p → p.contains i = true ∨ pairOk (noteD call ms env h i) (noteD call ms env h j) = true

theorem pairsOk_spec {pr : List Nat} {b : Note} {f : Nat → Note} : ∀ (k : Nat), pairsOk pr b k ((List.range k).reverse.map f) = true → ∀ i, i < k → pr.contains i = true ∨ pairOk (f i) b = true
  | 0, _, i, hi => by omega
  | k + 1, hp, i, hi => by
    rw [List.range_succ, List.reverse_append] at hp
    simp only [List.reverse_cons, List.reverse_nil, List.nil_append, List.map_cons, List.singleton_append] at hp
    simp only [pairsOk, Bool.and_eq_true, Bool.or_eq_true] at hp
    by_cases e : i = k
    · subst e; exact hp.1
    · exact pairsOk_spec k hp.2 i (by omega)

theorem drawA_trace : ∀ (os : List MOper) (k : Nat) (prs : List (List Nat)) (env' : Env) (h' : Heap), ms.drop k = os →
    drawA call os (prs.drop k) k ((List.range k).reverse.map (noteD call ms env h)) (stD call ms env h k).1 (stD call ms env h k).2 = some (env', h') →
    Trace call ms env h prs k ∧ (k ≤ ms.length → stD call ms env h ms.length = (env', h'))
  | [], k, prs, env', h', hk, hd => by
    simp only [drawA, Option.some.injEq, Prod.mk.injEq] at hd
    have hl : ms.length ≤ k := List.drop_eq_nil_iff.1 hk
    refine ⟨⟨fun j m hj hm => ?_, fun j i p hj hjl => by omega⟩, fun hkl => ?_⟩
    · have := (List.getElem?_eq_some_iff.1 hm).1
      omega
    · have : k = ms.length := by omega
      subst this
      exact Prod.ext hd.1 hd.2
  | o :: os, k, prs, env', h', hk, hd => by
    have hkl : k < ms.length := by
      have := congrArg List.length hk
      simp at this
      omega
    have ho : ms[k]? = some o := by
      have := congrArg (·[0]?) hk
      simpa using this
    have hk' : ms.drop (k + 1) = os := by rw [← List.drop_drop, hk]; rfl
    cases hp : prs.drop k with
    | nil => rw [hp] at hd; simp [drawA] at hd
    | cons pr prs' =>
      have hpk : prs[k]? = some pr := by
        have := congrArg (·[0]?) hp
        simpa using this
      have hp' : prs.drop (k + 1) = prs' := by rw [← List.drop_drop, hp]; rfl
      rw [hp] at hd
      simp only [drawA] at hd
      split at hd
      · rename_i v h1 hst
        have e1 : stD call ms env h (k + 1) = (putA (stD call ms env h k).1 o.dst v, h1) := by
          simp only [stD, ho, hst]
        have e2 : vD call ms env h k = v := by simp only [vD, ho, hst]
        have e3 : noteD call ms env h k = noteA o (stD call ms env h k).1 (stD call ms env h k).2 h1 := by simp only [noteD, ho, e1]
        cases hb : pairsOk pr (noteA o (stD call ms env h k).1 (stD call ms env h k).2 h1) k ((List.range k).reverse.map (noteD call ms env h)) with
        | false => simp only [hb] at hd; cases hd
        | true =>
          simp only [hb, cond_true] at hd
          have hns : noteA o (stD call ms env h k).1 (stD call ms env h k).2 h1 :: (List.range k).reverse.map (noteD call ms env h) = (List.range (k + 1)).reverse.map (noteD call ms env h) := by
            rw [List.range_succ, List.reverse_append]
            simp [e3]
          rw [hns, ← hp'] at hd
          have hd' : drawA call os (prs.drop (k + 1)) (k + 1) ((List.range (k + 1)).reverse.map (noteD call ms env h)) (stD call ms env h (k + 1)).1 (stD call ms env h (k + 1)).2 = some (env', h') := by
            rw [e1]; exact hd
          obtain ⟨t, hend⟩ := drawA_trace os (k + 1) prs env' h' hk' hd'
          refine ⟨⟨fun j m hj hm => ?_, fun j i p hj hjl hij hpj => ?_⟩, fun _ => hend hkl⟩
          · by_cases e : j = k
            · subst e
              rw [ho] at hm
              cases hm
              rw [e2, e1]
              exact ⟨hst, rfl⟩
            · exact t.step j m (by omega) hm
          · by_cases e : j = k
            · subst e
              rw [hpk] at hpj
              cases hpj
              rw [e3]
              exact pairsOk_spec j hb i hij
            · exact t.pair j i p (by omega) hjl hij hpj
      · cases hd
end

/-- the temporaries, where just some operations have run -/
def mix (ms : List MOper) (V : Nat → AV) (D : Nat → Bool) (E0 : Env) : Nat → Env
  | 0 => E0
  | k + 1 => match ms[k]? with
    | some m => bif D k then putA (mix ms V D E0 k) m.dst (V k) else mix ms V D E0 k
    | none => mix ms V D E0 k
def dstAt (ms : List MOper) (i : Nat) : Option Nat := (ms[i]?).bind (·.dst)

theorem ev_put_other {env : Env} {dst : Option Nat} {v : AV} {t : Nat} (h : dst ≠ some t) : (Opd.t t).ev (putA env dst v) = (Opd.t t).ev env := by
  cases dst with
  | none => rfl
  | some d =>
    have : t ≠ d := by intro e; subst e; exact h rfl
    simp only [putA, Opd.ev, Tr.get_set, if_neg this]
theorem ev_put_self {env : Env} {v : AV} {t : Nat} : (Opd.t t).ev (putA env (some t) v) = v := by simp [putA, Opd.ev, Tr.get_set]

theorem mix_step (ms : List MOper) (V : Nat → AV) (D : Nat → Bool) (E0 : Env) (k t : Nat) (h : D k = true → dstAt ms k ≠ some t) : (Opd.t t).ev (mix ms V D E0 (k + 1)) = (Opd.t t).ev (mix ms V D E0 k) := by
  simp only [mix]
  cases hm : ms[k]? with
  | none => rfl
  | some m =>
    cases hD : D k with
    | false => rfl
    | true =>
      refine ev_put_other ?_
      have := h hD
      simpa [dstAt, hm] using this
theorem mix_stable (ms : List MOper) (V : Nat → AV) (D : Nat → Bool) (E0 : Env) (t k : Nat) : ∀ n, (∀ i, k ≤ i → i < k + n → D i = true → dstAt ms i ≠ some t) → (Opd.t t).ev (mix ms V D E0 (k + n)) = (Opd.t t).ev (mix ms V D E0 k)
  | 0, _ => rfl
  | n + 1, h => by
    rw [show k + (n + 1) = (k + n) + 1 by omega, mix_step ms V D E0 (k + n) t (h (k + n) (by omega) (by omega))]
    exact mix_stable ms V D E0 t k n fun i h1 h2 => h i h1 (by omega)
theorem mix_self (ms : List MOper) (V : Nat → AV) (D : Nat → Bool) (E0 : Env) (k t : Nat) (h : D k = true) (hd : dstAt ms k = some t) : (Opd.t t).ev (mix ms V D E0 (k + 1)) = V k := by
  simp only [mix]
  cases hm : ms[k]? with
  | none => simp [dstAt, hm] at hd
  | some m =>
    simp only [dstAt, hm, Option.bind_some] at hd
    simp only [h, cond_true, hd]
    exact ev_put_self
theorem mix_other (ms : List MOper) (V : Nat → AV) (D D' : Nat → Bool) (E0 : Env) (t j : Nat) (hD : ∀ i, i ≠ j → D' i = D i) (hj : dstAt ms j ≠ some t) : ∀ k, (Opd.t t).ev (mix ms V D' E0 k) = (Opd.t t).ev (mix ms V D E0 k)
  | 0 => rfl
  | k + 1 => by
    have ih := mix_other ms V D D' E0 t j hD hj k
    by_cases e : k = j
    · subst e
      rw [mix_step _ _ _ _ _ _ (fun _ => hj), mix_step _ _ _ _ _ _ (fun _ => hj), ih]
    · have hk := hD k e
      by_cases hd : dstAt ms k = some t
      · cases hb : D k with
        | true => rw [mix_self _ _ _ _ _ _ (by rw [hk, hb]) hd, mix_self _ _ _ _ _ _ hb hd]
        | false => rw [mix_step _ _ _ _ _ _ (by rw [hk, hb]; intro h; cases h), mix_step _ _ _ _ _ _ (by rw [hb]; intro h; cases h), ih]
      · rw [mix_step _ _ _ _ _ _ (fun _ => hd), mix_step _ _ _ _ _ _ (fun _ => hd), ih]

theorem mix_run {call : CallF} {ms : List MOper} {env : Env} {h : Heap} {prs : List (List Nat)} (T : Trace call ms env h prs 0) (D : Nat → Bool) (t : Nat) : ∀ k, (∀ i, i < k → dstAt ms i = some t → D i = true) →
    (Opd.t t).ev (mix ms (vD call ms env h) D env k) = (Opd.t t).ev (stD call ms env h k).1
  | 0, _ => rfl
  | k + 1, hD => by
    have ih := mix_run T D t k fun i hi => hD i (by omega)
    cases hm : ms[k]? with
    | none =>
      have e1 : mix ms (vD call ms env h) D env (k + 1) = mix ms (vD call ms env h) D env k := by simp only [mix, hm]
      have e2 : stD call ms env h (k + 1) = stD call ms env h k := by simp only [stD, hm]
      rw [e1, e2, ih]
    | some m =>
      have hst := (T.step k m (Nat.zero_le _) hm).2
      rw [hst]
      by_cases hd : dstAt ms k = some t
      · rw [mix_self _ _ _ _ _ _ (hD k (by omega) hd) hd]
        have : m.dst = some t := by simpa [dstAt, hm] using hd
        rw [this, ev_put_self]
      · rw [mix_step _ _ _ _ _ _ (fun _ => hd), ih]
        have : m.dst ≠ some t := by simpa [dstAt, hm] using hd
        rw [ev_put_other this]

/-- orders -/
theorem mem_predsOf {acc : List (List Nat)} {x : Nat} : ∀ {is : List Nat}, x ∈ predsOf acc is → x ∈ is ∨ ∃ i ∈ is, x ∈ (acc[i]?).getD []
  | [], h => by simp [predsOf] at h
  | i :: is, h => by
    simp only [predsOf, List.mem_cons, List.mem_append] at h
    rcases h with rfl | h | h
    · exact .inl (by simp)
    · exact .inr ⟨i, by simp, h⟩
    · rcases mem_predsOf h with h | ⟨j, hj, hx⟩
      · exact .inl (by simp [h])
      · exact .inr ⟨j, by simp [hj], hx⟩
theorem predsAll_spec : ∀ (os : List Oper) (acc : List (List Nat)), (∀ i, i < acc.length → (predsAll os acc)[i]? = acc[i]?) ∧
    ∀ j o, os[j]? = some o → ∃ p, (predsAll os acc)[acc.length + j]? = some p ∧ ∀ x ∈ p, x ∈ directs o ∨ ∃ i ∈ directs o, x ∈ ((predsAll os acc)[i]?).getD []
  | [], acc => ⟨fun i hi => rfl, fun j o h => by simp at h⟩
  | o :: os, acc => by
    obtain ⟨h1, h2⟩ := predsAll_spec os (acc ++ [(predsOf acc (directs o)).eraseDups])
    simp only [predsAll]
    refine ⟨fun i hi => ?_, fun j o' hj => ?_⟩
    · rw [h1 i (by simp; omega), List.getElem?_append_left hi]
    · cases j with
      | zero =>
        simp at hj
        subst hj
        refine ⟨(predsOf acc (directs o)).eraseDups, ?_, fun x hx => ?_⟩
        · rw [Nat.add_zero, h1 acc.length (by simp), List.getElem?_append_right (Nat.le_refl _)]
          simp
        · rcases mem_predsOf (List.mem_eraseDups.1 hx) with h | ⟨i, hi, hx⟩
          · exact .inl h
          · refine .inr ⟨i, hi, ?_⟩
            cases e : acc[i]? with
            | none => rw [e] at hx; simp at hx
            | some q =>
              have hlt := (List.getElem?_eq_some_iff.1 e).1
              rw [h1 i (by simp; omega), List.getElem?_append_left hlt]
              exact hx
      | succ j =>
        simp at hj
        obtain ⟨p, g1, g2⟩ := h2 j o' hj
        refine ⟨p, ?_, g2⟩
        rw [← g1]
        congr 1
        simp
        omega
theorem preds_closed {ops : Array Oper} (hlt : ∀ j o, ops[j]? = some o → ∀ i ∈ directs o, i < j) {D : Nat → Prop} (hD : ∀ j o, D j → ops[j]? = some o → ∀ i ∈ directs o, D i) :
    ∀ (j : Nat) p, D j → (predsAll ops.toList [])[j]? = some p → (∃ o, ops[j]? = some o) → ∀ x ∈ p, D x := by
  intro j
  induction j using Nat.strongRecOn with
  | _ j ih =>
    intro p hj hp ho x hx
    obtain ⟨o, ho⟩ := ho
    obtain ⟨p', h1, h2⟩ := (predsAll_spec ops.toList []).2 j o (by rw [Array.getElem?_toList]; exact ho)
    simp only [List.length_nil, Nat.zero_add] at h1
    rw [hp] at h1
    cases h1
    rcases h2 x hx with h | ⟨i, hi, h⟩
    · exact hD j o hj ho x h
    · have hij := hlt j o ho i hi
      cases e : (predsAll ops.toList [])[i]? with
      | none => rw [e] at h; simp at h
      | some q =>
        rw [e] at h
        have hio : ∃ o', ops[i]? = some o' := by
          have : j < ops.size := (Array.getElem?_eq_some_iff.1 ho).1
          exact ⟨ops[i], Array.getElem?_eq_getElem (by omega)⟩
        exact ih i hij q (hD j o hj ho i hi) e hio x h
end Go.Ab
