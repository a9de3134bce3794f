/- Regions that draw their order (2): every order comes to what the text's order comes to. -/
import Derived.Test.YtljkcecalallmaaGreatDoorAb16
namespace Go.Ab
open Go

theorem compOpers_get {P : Program} {nt : Nat} {ops : Array Oper} : ∀ {os : List Oper} {ms : List MOper}, compOpers P nt ops os = some ms → ms.length = os.length ∧ ∀ (j : Nat) (o : Oper), os[j]? = some o → ∃ m, ms[j]? = some m ∧ compOper P nt ops o = some m
  | [], ms, h => by simp only [compOpers, Option.some.injEq] at h; subst h; exact ⟨rfl, fun j o h => by simp at h⟩
  | o :: os, ms, h => by
    simp only [compOpers] at h
    split at h
    · rename_i m ms' h1 h2
      cases h
      obtain ⟨g1, g2⟩ := compOpers_get h2
      refine ⟨by simp [g1], fun j o' hj => ?_⟩
      cases j with
      | zero => simp at hj; subst hj; exact ⟨m, rfl, h1⟩
      | succ j => simp at hj; simpa using g2 j o' hj
    · cases h

theorem stepA_plain {call : CallF} {m : MOper} {env : Env} (hw : wantedA m env = some true) (hc : m.op.cls ≠ 3) (h : Heap) : stepA call m env h = opA m.op env h := by
  unfold stepA
  rw [hw]
  cases hop : m.op <;> first | rfl | (exfalso; rw [hop] at hc; exact hc rfl)

def Dn (listed : Array Bool) (j : Nat) : Bool := listed.getD j false

/-- all that stays fixed while the orders are gone through -/
structure Ctx (P : Program) (nt : Nat) (call : CallF) (ops : Array Oper) (ms : List MOper) (env : Env) (h : Heap) (ρ0 : Rn) (w0 : World) (d0 : List Deferred) : Prop where
  hcall : SoundC P call
  hms : compOpers P nt ops ops.toList = some ms
  T : Trace call ms env h (predsAll ops.toList []) 0
  tmps : tmpsOk ms (predsAll ops.toList []) = true
  lt : ∀ j o, ops[j]? = some o → ∀ i ∈ directs o, i < j
  mt0 : Match ρ0 h w0
  fr0 : Free ρ0 h.sz (stD call ms env h ms.length).2.sz

section
variable {P : Program} {nt : Nat} {call : CallF} {ops : Array Oper} {ms : List MOper} {env : Env} {h : Heap} {ρ0 : Rn} {w0 : World} {d0 : List Deferred}

theorem Ctx.get (C : Ctx P nt call ops ms env h ρ0 w0 d0) {j : Nat} (hj : j < ms.length) : ∃ o m, ops[j]? = some o ∧ ms[j]? = some m ∧ compOper P nt ops o = some m ∧
    stepA call m (stD call ms env h j).1 (stD call ms env h j).2 = some (vD call ms env h j, (stD call ms env h (j + 1)).2) ∧
    noteD call ms env h j = noteA m (stD call ms env h j).1 (stD call ms env h j).2 (stD call ms env h (j + 1)).2 := by
  obtain ⟨g1, g2⟩ := compOpers_get C.hms
  have hjo : j < ops.toList.length := by omega
  have ho : ops.toList[j]? = some ops.toList[j] := List.getElem?_eq_getElem hjo
  obtain ⟨m, h1, h2⟩ := g2 j _ ho
  refine ⟨_, m, by rw [← Array.getElem?_toList]; exact ho, h1, h2, (C.T.step j m (Nat.zero_le _) h1).1, ?_⟩
  simp only [noteD, h1]

theorem Ctx.mono (C : Ctx P nt call ops ms env h ρ0 w0 d0) : ∀ (n j : Nat), HMono (stD call ms env h j).2 (stD call ms env h (j + n)).2
  | 0, j => .refl _
  | n + 1, j => by
    have ih := C.mono n j
    refine ih.trans ?_
    rw [show j + (n + 1) = (j + n) + 1 by omega]
    by_cases hj : j + n < ms.length
    · obtain ⟨o, m, _, _, _, h4, _⟩ := C.get hj
      exact stepA_mono C.hcall h4
    · have : ms[j + n]? = none := List.getElem?_eq_none (by omega)
      simp only [stD, this]
      exact .refl _
theorem Ctx.le (C : Ctx P nt call ops ms env h ρ0 w0 d0) {i j : Nat} (hij : i ≤ j) : (stD call ms env h i).2.sz ≤ (stD call ms env h j).2.sz := by
  have := (C.mono (j - i) i).1
  rwa [show i + (j - i) = j by omega] at this
theorem Ctx.hf (C : Ctx P nt call ops ms env h ρ0 w0 d0) (j : Nat) : HF (stD call ms env h j).2 := by
  have := (C.mono j 0).2 C.mt0.fresh
  simpa using this

/-- what an operation that is no effect does to the heap -/
theorem Ctx.plain (C : Ctx P nt call ops ms env h ρ0 w0 d0) {j : Nat} (hj : j < ms.length) : ((noteD call ms env h j).cls ≤ 1 → (stD call ms env h (j + 1)).2 = (stD call ms env h j).2) ∧
    ((noteD call ms env h j).cls = 2 → ∃ obj, (stD call ms env h (j + 1)).2 = (stD call ms env h j).2.alloc obj ∧ (noteD call ms env h j).obj = some (stD call ms env h j).2.sz) ∧ (noteD call ms env h j).cls ≤ 3 := by
  obtain ⟨o, m, _, _, _, hs, hn⟩ := C.get hj
  rw [hn]
  unfold noteA
  split
  · rename_i hw
    have hcl : m.op.cls ≤ 3 := by cases m.op <;> simp [MOp.cls]
    refine ⟨fun hc => ?_, fun hc => ?_, hcl⟩
    · simp only at hc
      rw [stepA_plain hw (by omega)] at hs
      by_cases h0 : m.op.cls = 0
      · exact (pure_any h0 hs).1
      · exact (read_any (by omega) hs).1
    · simp only at hc
      rw [stepA_plain hw (by omega)] at hs
      obtain ⟨obj, h1, _⟩ := alloc_any hc hs
      exact ⟨obj, h1, by simp [hc]⟩
  · rename_i hw
    refine ⟨fun _ => ?_, fun hc => by simp at hc, by simp⟩
    unfold stepA at hs
    split at hs
    · cases hs
    · simp only [Option.some.injEq, Prod.mk.injEq] at hs; exact hs.2.symm
    · rename_i hw2; exact (hw hw2).elim

theorem Ctx.keep1 (C : Ctx P nt call ops ms env h ρ0 w0 d0) {j : Nat} (hj : j < ms.length) (hc : (noteD call ms env h j).cls ≠ 3) {id : Nat} (hid : id < (stD call ms env h j).2.sz) :
    (stD call ms env h (j + 1)).2.get id = (stD call ms env h j).2.get id := by
  obtain ⟨p1, p2, p3⟩ := C.plain hj
  by_cases h1 : (noteD call ms env h j).cls ≤ 1
  · rw [p1 h1]
  · obtain ⟨obj, e, _⟩ := p2 (by omega)
    rw [e, Heap.get_alloc, if_neg (by omega)]

theorem Ctx.chain (C : Ctx P nt call ops ms env h ρ0 w0 d0) {id a : Nat} (hid : id < (stD call ms env h a).2.sz) : ∀ n, a + n ≤ ms.length →
    (∀ x, a ≤ x → x < a + n → (noteD call ms env h x).cls = 3 → (stD call ms env h x).2.get id = (stD call ms env h (x + 1)).2.get id) → (stD call ms env h (a + n)).2.get id = (stD call ms env h a).2.get id
  | 0, _, _ => rfl
  | n + 1, hn, hx => by
    have ih := C.chain hid n (by omega) fun x h1 h2 => hx x h1 (by omega)
    rw [← ih]
    by_cases hc : (noteD call ms env h (a + n)).cls = 3
    · exact (hx (a + n) (by omega) (by omega) hc).symm
    · exact C.keep1 (by omega) hc (Nat.lt_of_lt_of_le hid (C.le (by omega)))

structure Inv (C : Ctx P nt call ops ms env h ρ0 w0 d0) (listed : Array Bool) (a : Act) (w : World) (ρ : Rn) (q : Nat) : Prop where
  lsz : listed.size = ms.length
  closed : ∀ j o, Dn listed j = true → ops[j]? = some o → ∀ i ∈ directs o, Dn listed i = true
  er : EnvR ρ (mix ms (vD call ms env h) (Dn listed) env ms.length) a nt
  qle : q ≤ ms.length
  effs : ∀ e, e < ms.length → (noteD call ms env h e).cls = 3 → (Dn listed e = true ↔ e < q)
  mt : Match ρ (stD call ms env h q).2 w
  ext : ∀ i, i < ms.length → (noteD call ms env h i).cls = 2 → Dn listed i = true → q ≤ i → ∃ b o n obj, ρ (stD call ms env h i).2.sz = some (b, o, n) ∧
    (stD call ms env h (i + 1)).2.get (stD call ms env h i).2.sz = some obj ∧ ObjOK ρ w b o n obj ∧ w0.heap.size ≤ b ∧ ∀ j b' o' n', j ≠ (stD call ms env h i).2.sz → ρ j = some (b', o', n') → b' ≠ b
  free : ∀ i, i < ms.length → Dn listed i = false → Free ρ (stD call ms env h i).2.sz (stD call ms env h (i + 1)).2.sz
  le : ρ0.le ρ
  dom : ∀ i x, ρ i = some x → ρ0 i = none → ∃ j, j < ms.length ∧ (stD call ms env h j).2.sz ≤ i ∧ i < (stD call ms env h (j + 1)).2.sz ∧ Dn listed j = true
  rng : ∀ i b o n, ρ i = some (b, o, n) → ρ0 i = none → w0.heap.size ≤ b ∨ ∃ j o n, ρ0 j = some (b, o, n) ∧ Wr (h.get j)
  frame : ∀ b, b < w0.heap.size → (∀ j o n, ρ0 j = some (b, o, n) → ¬ Wr (h.get j)) → w.heap[b]? = w0.heap[b]?
  size : w0.heap.size ≤ w.heap.size
  keep : ∀ i x, ρ0 i = some x → Wr ((stD call ms env h q).2.get i) → Wr (h.get i)
  os : w.os = w0.os
  tape : w.tape = w0.tape
  output : w.output = w0.output
  defs : a.defers = d0

/-- an id beyond the last effect is an operation's that made it -/
theorem Inv.late {C : Ctx P nt call ops ms env h ρ0 w0 d0} {listed : Array Bool} {a : Act} {w : World} {ρ : Rn} {q : Nat} (I : Inv C listed a w ρ q) {id : Nat} {x : Nat × Nat × Nat} (hρ : ρ id = some x) (hq : (stD call ms env h q).2.sz ≤ id) (hN : id < (stD call ms env h ms.length).2.sz) :
    ∃ j, q ≤ j ∧ j < ms.length ∧ (noteD call ms env h j).cls = 2 ∧ Dn listed j = true ∧ id = (stD call ms env h j).2.sz := by
  cases h0 : ρ0 id with
  | some y =>
    have := C.fr0 id (Nat.le_trans (C.le (Nat.zero_le q)) hq) hN
    rw [h0] at this
    cases this
  | none =>
    obtain ⟨j, h1, h2, h3, h4⟩ := I.dom id x hρ h0
    have hqj : q ≤ j := by
      refine Nat.le_of_not_lt fun hlt => ?_
      have := C.le (show j + 1 ≤ q by omega)
      omega
    obtain ⟨p1, p2, p3⟩ := C.plain h1
    have hne : (noteD call ms env h j).cls ≠ 3 := fun e => by
      have := (I.effs j h1 e).1 h4
      omega
    by_cases hc : (noteD call ms env h j).cls ≤ 1
    · rw [p1 hc] at h3; omega
    · obtain ⟨obj, e, _⟩ := p2 (by omega)
      rw [e] at h3
      simp at h3
      exact ⟨j, hqj, h1, by omega, h4, by omega⟩

/-- the heap ahead of a later operation fits too, if no effect lies between -/
theorem Inv.matchAt {C : Ctx P nt call ops ms env h ρ0 w0 d0} {listed : Array Bool} {a : Act} {w : World} {ρ : Rn} {q : Nat} (I : Inv C listed a w ρ q) {e : Nat} (hqe : q ≤ e) (heN : e ≤ ms.length)
    (hne : ∀ x, q ≤ x → x < e → (noteD call ms env h x).cls ≠ 3) : Match ρ (stD call ms env h e).2 w := by
  have early : ∀ id, id < (stD call ms env h q).2.sz → (stD call ms env h e).2.get id = (stD call ms env h q).2.get id := by
    intro id hid
    have := C.chain hid (e - q) (by omega) (fun x h1 h2 h3 => (hne x h1 (by omega) h3).elim)
    rwa [show q + (e - q) = e by omega] at this
  have late : ∀ id x y, ρ id = some x → (stD call ms env h q).2.sz ≤ id → (stD call ms env h e).2.get id = some y → ∃ b o n, x = (b, o, n) ∧ ObjOK ρ w b o n y ∧ ∀ j b' o' n', j ≠ id → ρ j = some (b', o', n') → b' ≠ b := by
    intro id x y hρ hq hg
    have hlt : id < (stD call ms env h e).2.sz := by
      refine Nat.lt_of_not_le fun hle => ?_
      rw [C.hf e id hle] at hg
      cases hg
    obtain ⟨j, j1, j2, j3, j4, j5⟩ := I.late hρ hq (Nat.lt_of_lt_of_le hlt (C.le heN))
    subst j5
    have hje : j < e := by
      refine Nat.lt_of_not_le fun hle => ?_
      have := C.le hle
      omega
    obtain ⟨b, o, n, obj, g1, g2, g3, _, g5⟩ := I.ext j j2 j3 j4 j1
    obtain ⟨_, p2, _⟩ := C.plain j2
    obtain ⟨obj', e', _⟩ := p2 j3
    have hsz : (stD call ms env h j).2.sz < (stD call ms env h (j + 1)).2.sz := by rw [e']; simp
    have := C.chain hsz (e - (j + 1)) (by omega) (fun x h1 h2 h3 => (hne x (by omega) (by omega) h3).elim)
    rw [show j + 1 + (e - (j + 1)) = e by omega] at this
    rw [this, g2] at hg
    cases hg
    rw [g1] at hρ
    cases hρ
    exact ⟨b, o, n, rfl, g3, g5⟩
  refine ⟨?_, I.mt.blk, ?_, C.hf e⟩
  · intro i b o n hρ x hg
    by_cases hi : i < (stD call ms env h q).2.sz
    · rw [early i hi] at hg
      exact I.mt.objs i b o n hρ x hg
    · obtain ⟨b', o', n', ex, g1, _⟩ := late i _ x hρ (by omega) hg
      cases ex
      exact g1
  · intro i j b o n o' n' hij h1 h2 hw ha
    obtain ⟨x, hx⟩ : ∃ x, (stD call ms env h e).2.get i = some x := by
      cases e1 : (stD call ms env h e).2.get i with
      | none => rw [e1] at hw; exact hw.elim
      | some x => exact ⟨x, rfl⟩
    obtain ⟨y, hy⟩ : ∃ y, (stD call ms env h e).2.get j = some y := by
      cases e1 : (stD call ms env h e).2.get j with
      | none => rw [e1] at ha; exact ha.elim
      | some x => exact ⟨x, rfl⟩
    by_cases hi : i < (stD call ms env h q).2.sz
    · by_cases hj : j < (stD call ms env h q).2.sz
      · rw [early i hi] at hw
        rw [early j hj] at ha
        exact I.mt.inj i j b o n o' n' hij h1 h2 hw ha
      · obtain ⟨b', o'', n'', ex, _, g2⟩ := late j _ y h2 (by omega) hy
        cases ex
        exact g2 i b o n hij h1 rfl
    · obtain ⟨b', o'', n'', ex, _, g2⟩ := late i _ x h1 (by omega) hx
      cases ex
      exact g2 j b o' n' (Ne.symm hij) h2 rfl
end
end Go.Ab
