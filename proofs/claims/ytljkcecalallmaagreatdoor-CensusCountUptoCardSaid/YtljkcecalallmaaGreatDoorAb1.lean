/- The relation between the mini-machine's heap and a world. -/
import Derived.Test.YtljkcecalallmaaGreatDoorAb0
namespace Go.Ab
open Go

/-- a renaming: of an abstract block the block, the place of its first cell, the block's size -/
abbrev Rn := Nat → Option (Nat × Nat × Nat)
def Rn.le (ρ ρ' : Rn) : Prop := ∀ i x, ρ i = some x → ρ' i = some x
theorem Rn.le_refl (ρ : Rn) : ρ.le ρ := fun _ _ h => h
theorem Rn.le_trans {a b c : Rn} (h : a.le b) (k : b.le c) : a.le c := fun i x e => k i x (h i x e)

mutual
def VR (ρ : Rn) : AV → Value → Prop
  | .int k n, v => v = .int k n
  | .bool b, v => v = .bool b
  | .str l, v => v = .string ⟨⟨l⟩⟩
  | .sc u, v => v = u ∧ u.oneCell' = true
  | .ptr i k, v => ∃ b o n, ρ i = some (b, o, n) ∧ v = .pointer (some ⟨b, o + k, none⟩)
  | .sl i k len cap ex es, v => ∃ b o n a' cap', ρ i = some (b, o, n) ∧ v = .slice (some a') len cap' ∧ len ≤ cap ∧ cap ≤ cap' ∧ (ex = true → cap' = cap) ∧
      o + k + cap' * es ≤ n ∧ (a' = ⟨b, o + k, none⟩ ∨ cap' = 0)
  | .mp i, v => ∃ b n, ρ i = some (b, 0, n) ∧ v = .map (some b)
  | .fn f a b, v => ∃ a' b', v = .func (.func f) a' b' ∧ VRs ρ a a'.toList ∧ VRs ρ b b'.toList
  | .agg cs, v => ∃ cs', v = .agg cs' ∧ VRs ρ cs cs'.toList
  | .tup vs, v => ∃ vs', v = .tuple vs' ∧ VRs ρ vs vs'.toList
  | .yd i, v => ∃ b o n, ρ i = some (b, o, n) ∧ v = .func (.yield b) #[] #[]
def VRs (ρ : Rn) : List AV → List Value → Prop
  | [], l => l = []
  | a :: as, l => ∃ v vs, l = v :: vs ∧ VR ρ a v ∧ VRs ρ as vs
end

mutual
theorem VR.mono {ρ ρ' : Rn} (h : ρ.le ρ') : ∀ {a : AV} {v : Value}, VR ρ a v → VR ρ' a v
  | .int _ _, _, e => by simpa [VR] using e
  | .bool _, _, e => by simpa [VR] using e
  | .str _, _, e => by simpa [VR] using e
  | .sc _, _, e => by simpa [VR] using e
  | .ptr i k, _, e => by
    simp only [VR] at e ⊢
    obtain ⟨b, o, n, h1, h2⟩ := e
    exact ⟨b, o, n, h _ _ h1, h2⟩
  | .sl .., _, e => by
    simp only [VR] at e ⊢
    obtain ⟨b, o, n, a', cap', h1, h2⟩ := e
    exact ⟨b, o, n, a', cap', h _ _ h1, h2⟩
  | .mp i, _, e => by
    simp only [VR] at e ⊢
    obtain ⟨b, n, h1, h2⟩ := e
    exact ⟨b, n, h _ _ h1, h2⟩
  | .fn .., _, e => by
    simp only [VR] at e ⊢
    obtain ⟨a', b', h1, h2, h3⟩ := e
    exact ⟨a', b', h1, VRs.mono h h2, VRs.mono h h3⟩
  | .agg _, _, e => by
    simp only [VR] at e ⊢
    obtain ⟨a', h1, h2⟩ := e
    exact ⟨a', h1, VRs.mono h h2⟩
  | .tup _, _, e => by
    simp only [VR] at e ⊢
    obtain ⟨a', h1, h2⟩ := e
    exact ⟨a', h1, VRs.mono h h2⟩
  | .yd i, _, e => by
    simp only [VR] at e ⊢
    obtain ⟨b, o, n, h1, h2⟩ := e
    exact ⟨b, o, n, h _ _ h1, h2⟩
theorem VRs.mono {ρ ρ' : Rn} (h : ρ.le ρ') : ∀ {l : List AV} {l' : List Value}, VRs ρ l l' → VRs ρ' l l'
  | [], _, e => by simpa [VRs] using e
  | _ :: _, _, e => by
    simp only [VRs] at e ⊢
    obtain ⟨v, vs, h1, h2, h3⟩ := e
    exact ⟨v, vs, h1, VR.mono h h2, VRs.mono h h3⟩
end

theorem VRs.length {ρ : Rn} : ∀ {l : List AV} {l' : List Value}, VRs ρ l l' → l.length = l'.length
  | [], _, e => by simp only [VRs] at e; simp [e]
  | _ :: _, _, e => by
    simp only [VRs] at e
    obtain ⟨v, vs, h1, _, h3⟩ := e
    subst h1; simp [VRs.length h3]
theorem VRs.nil {ρ : Rn} : VRs ρ [] [] := rfl
theorem VRs.cons {ρ : Rn} {a : AV} {v : Value} {l : List AV} {l' : List Value} (h : VR ρ a v) (k : VRs ρ l l') : VRs ρ (a :: l) (v :: l') := ⟨v, l', rfl, h, k⟩
theorem VRs.get {ρ : Rn} : ∀ {l : List AV} {l' : List Value}, VRs ρ l l' → ∀ {i : Nat} {a : AV}, l[i]? = some a → ∃ v, l'[i]? = some v ∧ VR ρ a v
  | [], _, _, i, a, h => by simp at h
  | x :: xs, _, e, i, a, h => by
    simp only [VRs] at e
    obtain ⟨v, vs, h1, h2, h3⟩ := e
    subst h1
    cases i with
    | zero => simp at h; subst h; exact ⟨v, by simp, h2⟩
    | succ i => simp at h; obtain ⟨u, hu, hv⟩ := VRs.get h3 h; exact ⟨u, by simpa using hu, hv⟩
theorem VRs.of_get {ρ : Rn} : ∀ {l : List AV} {l' : List Value}, l.length = l'.length → (∀ (i : Nat) (a : AV) (v : Value), l[i]? = some a → l'[i]? = some v → VR ρ a v) → VRs ρ l l'
  | [], l', h, _ => by cases l' with | nil => exact VRs.nil | cons _ _ => simp at h
  | x :: xs, l', h, k => by
    cases l' with
    | nil => simp at h
    | cons y ys => exact VRs.cons (k 0 x y rfl rfl) (VRs.of_get (by simpa using h) fun i a v h1 h2 => k (i + 1) a v (by simpa using h1) (by simpa using h2))
theorem VRs.append {ρ : Rn} : ∀ {l m : List AV} {l' m' : List Value}, VRs ρ l l' → VRs ρ m m' → VRs ρ (l ++ m) (l' ++ m')
  | [], _, _, _, e, k => by simp only [VRs] at e; subst e; simpa using k
  | _ :: _, _, _, _, e, k => by
    simp only [VRs] at e
    obtain ⟨v, vs, h1, h2, h3⟩ := e
    subst h1
    exact VRs.cons h2 (VRs.append h3 k)
theorem VRs.take {ρ : Rn} : ∀ (n : Nat) {l : List AV} {l' : List Value}, VRs ρ l l' → VRs ρ (l.take n) (l'.take n)
  | 0, _, _, _ => by simp; exact VRs.nil
  | n + 1, [], _, e => by simp only [VRs] at e; subst e; simp; exact VRs.nil
  | n + 1, _ :: _, _, e => by
    simp only [VRs] at e
    obtain ⟨v, vs, h1, h2, h3⟩ := e
    subst h1
    exact VRs.cons h2 (VRs.take n h3)
theorem VRs.drop {ρ : Rn} : ∀ (n : Nat) {l : List AV} {l' : List Value}, VRs ρ l l' → VRs ρ (l.drop n) (l'.drop n)
  | 0, _, _, e => by simpa using e
  | n + 1, [], _, e => by simp only [VRs] at e; subst e; simp; exact VRs.nil
  | n + 1, _ :: _, _, e => by
    simp only [VRs] at e
    obtain ⟨v, vs, h1, h2, h3⟩ := e
    subst h1
    simpa using VRs.drop n h3

theorem ba_eta (s : ByteArray) : (⟨⟨s.data.toList⟩⟩ : ByteArray) = s := by cases s; rfl
theorem VR.ofV1 (ρ : Rn) {v : Value} {a : AV} (h : Ab.ofV1 v = some a) : VR ρ a v := by
  cases v <;> simp only [Ab.ofV1, Option.some.injEq, reduceCtorEq] at h <;> subst h <;> simp [VR, Value.oneCell']
theorem VRs.ofVs (ρ : Rn) : ∀ {l : List Value} {as : List AV}, Ab.ofVs l = some as → VRs ρ as l
  | [], as, h => by simp only [Ab.ofVs, Option.some.injEq] at h; subst h; exact VRs.nil
  | v :: vs, as, h => by
    simp only [Ab.ofVs] at h
    split at h
    · rename_i a as' h1 h2
      simp only [Option.some.injEq] at h
      subst h
      exact VRs.cons (VR.ofV1 ρ h1) (VRs.ofVs ρ h2)
    · cases h
theorem VR.ofV (ρ : Rn) {v : Value} {a : AV} (h : Ab.ofV v = some a) : VR ρ a v := by
  unfold Ab.ofV at h
  split at h
  · rename_i cs
    cases e : Ab.ofVs cs.toList with
    | none => rw [e] at h; cases h
    | some as => rw [e] at h; cases h; exact ⟨cs, rfl, VRs.ofVs ρ e⟩
  · rename_i cs
    cases e : Ab.ofVs cs.toList with
    | none => rw [e] at h; cases h
    | some as => rw [e] at h; cases h; exact ⟨cs, rfl, VRs.ofVs ρ e⟩
  · exact VR.ofV1 ρ h

theorem VR.cells {ρ : Rn} {a : AV} {v : Value} (h : VR ρ a v) : VRs ρ a.cells v.cells.toList := by
  cases a with
  | agg cs => simp only [VR] at h; obtain ⟨cs', rfl, h2⟩ := h; exact h2
  | sc u =>
    have h' := h
    simp only [VR] at h
    obtain ⟨rfl, h2⟩ := h
    cases v with
    | agg cs => simp [Value.oneCell'] at h2
    | _ => exact VRs.cons h' VRs.nil
  | int => simp only [VR] at h; subst h; exact VRs.cons (by simp [VR]) VRs.nil
  | bool => simp only [VR] at h; subst h; exact VRs.cons (by simp [VR]) VRs.nil
  | str => simp only [VR] at h; subst h; exact VRs.cons (by simp [VR]) VRs.nil
  | ptr => have h' := h; simp only [VR] at h; obtain ⟨b, o, n, h1, rfl⟩ := h; exact VRs.cons h' VRs.nil
  | sl => have h' := h; simp only [VR] at h; obtain ⟨b, o, n, a', c', h1, rfl, _⟩ := h; exact VRs.cons h' VRs.nil
  | mp => have h' := h; simp only [VR] at h; obtain ⟨b, o, h1, rfl⟩ := h; exact VRs.cons h' VRs.nil
  | fn => have h' := h; simp only [VR] at h; obtain ⟨b, o, rfl, _⟩ := h; exact VRs.cons h' VRs.nil
  | tup => have h' := h; simp only [VR] at h; obtain ⟨b, rfl, _⟩ := h; exact VRs.cons h' VRs.nil
  | yd => have h' := h; simp only [VR] at h; obtain ⟨b, o, n, _, rfl⟩ := h; exact VRs.cons h' VRs.nil

theorem VR.one {ρ : Rn} {a : AV} {v : Value} (h : VR ρ a v) (ho : a.one = true) : v.oneCell' = true := by
  cases a <;> simp only [VR] at h <;> simp only [AV.one] at ho
  case int => subst h; rfl
  case bool => subst h; rfl
  case str => subst h; rfl
  case sc => obtain ⟨rfl, h2⟩ := h; exact h2
  case ptr => obtain ⟨b, o, n, h1, rfl⟩ := h; rfl
  case sl => obtain ⟨b, o, n, a', c', h1, rfl, _⟩ := h; rfl
  case mp => obtain ⟨b, o, h1, rfl⟩ := h; rfl
  case fn => obtain ⟨b, o, rfl, _⟩ := h; rfl
  case agg => cases ho
  case tup => cases ho
  case yd => obtain ⟨b, o, n, _, rfl⟩ := h; rfl

/-- entries of maps -/
def MRs (ρ : Rn) (es : List (AV × AV × Nat)) (es' : List MapEntry) : Prop :=
  es.length = es'.length ∧ ∀ (i : Nat) (x : AV × AV × Nat) (y : MapEntry), es[i]? = some x → es'[i]? = some y → VR ρ x.1 y.key ∧ VR ρ x.2.1 y.val ∧ y.born = x.2.2
theorem MRs.mono {ρ ρ' : Rn} (h : ρ.le ρ') {es : List (AV × AV × Nat)} {es' : List MapEntry} (k : MRs ρ es es') : MRs ρ' es es' :=
  ⟨k.1, fun i x y h1 h2 => let ⟨a, b, c⟩ := k.2 i x y h1 h2; ⟨a.mono h, b.mono h, c⟩⟩

def ObjOK (ρ : Rn) (w : World) (b o n : Nat) : AObj → Prop
  | .cells c _ ro => ∃ c' E fz, w.heap[b]? = some (.cells c' E fz) ∧ c'.size = n ∧ o + c.length ≤ n ∧ (ro = false → ∀ p, p < n → ¬(fz.1 ≤ p ∧ p < fz.2)) ∧
      ∀ (k : Nat) (a : AV), c[k]? = some a → ∃ v, c'[o + k]? = some v ∧ VR ρ a v
  | .map es clock => ∃ es', w.heap[b]? = some (.map es' clock) ∧ o = 0 ∧ MRs ρ es es'.toList
  | .dead => True
  | .iter s pos => w.heap[b]? = some (.stringIter ⟨⟨s⟩⟩ pos) ∧ o = 0
  | .miter m => (∃ bm nm since seen last, ρ m = some (bm, 0, nm) ∧ w.heap[b]? = some (.mapIter (some bm) since seen last)) ∧ o = 0
  | .mbox m => (∃ bm nm E fz, ρ m = some (bm, 0, nm) ∧ w.heap[b]? = some (.cells #[.map (some bm)] E fz)) ∧ o = 0
theorem ObjOK.mono {ρ ρ' : Rn} (h : ρ.le ρ') {w : World} {b o n : Nat} {x : AObj} (k : ObjOK ρ w b o n x) : ObjOK ρ' w b o n x := by
  cases x with
  | cells c e ro =>
    obtain ⟨c', E, fz, h1, h2, h3, h4, h5⟩ := k
    exact ⟨c', E, fz, h1, h2, h3, h4, fun k a e => let ⟨v, p, q⟩ := h5 k a e; ⟨v, p, q.mono h⟩⟩
  | map es clock => obtain ⟨es', h1, h2, h3⟩ := k; exact ⟨es', h1, h2, h3.mono h⟩
  | dead => trivial
  | iter s pos => exact k
  | miter m => obtain ⟨⟨bm, nm, a, b, c, h1, h2⟩, h3⟩ := k; exact ⟨⟨bm, nm, a, b, c, h _ _ h1, h2⟩, h3⟩
  | mbox m => obtain ⟨⟨bm, nm, a, b, h1, h2⟩, h3⟩ := k; exact ⟨⟨bm, nm, a, b, h _ _ h1, h2⟩, h3⟩
/-- it looks at its own block alone -/
theorem ObjOK.block {ρ : Rn} {w w' : World} {b o n : Nat} {x : AObj} (k : ObjOK ρ w b o n x) (e : w'.heap[b]? = w.heap[b]?) : ObjOK ρ w' b o n x := by
  cases x <;> simp only [ObjOK] at k ⊢ <;> (try rw [e]) <;> first | exact k | trivial

/-- it may be written -/
def Wr : Option AObj → Prop
  | some (.cells _ _ false) => True
  | some (.map _ _) => True
  | some (.iter _ _) => True
  | _ => False
/-- it may be read -/
def Al : Option AObj → Prop
  | some (.cells _ _ _) => True
  | some (.map _ _) => True
  | some (.iter _ _) => True
  | some (.miter _) => True
  | some (.mbox _) => True
  | _ => False
theorem Wr.al {o : Option AObj} (h : Wr o) : Al o := by
  match o, h with
  | some (.cells _ _ false), _ => trivial
  | some (.map _ _), _ => trivial
  | some (.iter _ _), _ => trivial

structure Match (ρ : Rn) (h : Heap) (w : World) : Prop where
  objs : ∀ i b o n, ρ i = some (b, o, n) → ∀ x, h.get i = some x → ObjOK ρ w b o n x
  blk : ∀ i b o n, ρ i = some (b, o, n) → b < w.heap.size
  inj : ∀ i j b o n o' n', i ≠ j → ρ i = some (b, o, n) → ρ j = some (b, o', n') → Wr (h.get i) → Al (h.get j) → False
  fresh : ∀ i, h.sz ≤ i → h.get i = none

structure Sim (ρ : Rn) (h : Heap) (w : World) (ρ' : Rn) (h' : Heap) (w' : World) : Prop where
  le : ρ.le ρ'
  dom : ∀ i x, ρ' i = some x → ρ i = none → h.sz ≤ i ∧ i < h'.sz
  rng : ∀ i b o n, ρ' i = some (b, o, n) → ρ i = none → w.heap.size ≤ b ∨ ∃ j o n, ρ j = some (b, o, n) ∧ Wr (h.get j)
  mt : Match ρ' h' w'
  frame : ∀ b, b < w.heap.size → (∀ j o n, ρ j = some (b, o, n) → ¬ Wr (h.get j)) → w'.heap[b]? = w.heap[b]?
  size : w.heap.size ≤ w'.heap.size
  hsz : h.sz ≤ h'.sz
  keep : ∀ i x, ρ i = some x → Wr (h'.get i) → Wr (h.get i)
  os : w'.os = w.os
  tape : w'.tape = w.tape
  output : w'.output = w.output

/-- ids to come have no block yet -/
def Free (ρ : Rn) (a b : Nat) : Prop := ∀ i, a ≤ i → i < b → ρ i = none

theorem Sim.refl {ρ : Rn} {h : Heap} {w : World} (m : Match ρ h w) : Sim ρ h w ρ h w :=
  ⟨Rn.le_refl ρ, (fun i x h1 h2 => by rw [h2] at h1; cases h1), (fun i b o n h1 h2 => by rw [h2] at h1; cases h1), m, fun _ _ _ => rfl, Nat.le_refl _, Nat.le_refl _, fun _ _ _ h => h, rfl, rfl, rfl⟩
theorem Match.world {ρ : Rn} {h : Heap} {w w' : World} (m : Match ρ h w) (e : w'.heap = w.heap) : Match ρ h w' :=
  ⟨fun i b o n h1 x h2 => (m.objs i b o n h1 x h2).block (by rw [e]), fun i b o n h1 => by rw [e]; exact m.blk i b o n h1, m.inj, m.fresh⟩
theorem Sim.drew {ρ : Rn} {h : Heap} {w : World} (m : Match ρ h w) : Sim ρ h w ρ h { w with drawn := w.drawn + 1 } :=
  { Sim.refl m with mt := m.world rfl }
theorem Sim.trans {ρ ρ1 ρ2 : Rn} {h h1 h2 : Heap} {w w1 w2 : World} (s : Sim ρ h w ρ1 h1 w1) (t : Sim ρ1 h1 w1 ρ2 h2 w2) : Sim ρ h w ρ2 h2 w2 where
  le := Rn.le_trans s.le t.le
  dom := fun i x e e0 => by
    cases e1 : ρ1 i with
    | none => have := t.dom i x e e1; exact ⟨Nat.le_trans s.hsz this.1, this.2⟩
    | some y => have := s.dom i y e1 e0; exact ⟨this.1, Nat.lt_of_lt_of_le this.2 t.hsz⟩
  rng := fun i b o n e e0 => by
    cases e1 : ρ1 i with
    | none =>
      rcases t.rng i b o n e e1 with h' | ⟨j, o', n', hj, hw⟩
      · exact .inl (Nat.le_trans s.size h')
      · cases ej : ρ j with
        | none => exact s.rng j b o' n' hj ej
        | some y =>
          have := s.le j y ej
          rw [hj] at this
          cases this
          exact .inr ⟨j, o', n', ej, s.keep j _ ej hw⟩
    | some y =>
      have := t.le i y e1
      rw [e] at this
      cases this
      exact s.rng i b o n e1 e0
  mt := t.mt
  frame := fun b hb hf => by
    rw [t.frame b (Nat.lt_of_lt_of_le hb s.size) ?_, s.frame b hb hf]
    intro j o n hj hw
    cases ej : ρ j with
    | none =>
      rcases s.rng j b o n hj ej with h' | ⟨k, o', n', hk, hw'⟩
      · omega
      · exact hf k o' n' hk hw'
    | some y =>
      have := s.le j y ej
      rw [hj] at this
      cases this
      exact hf j o n ej (s.keep j _ ej hw)
  size := Nat.le_trans s.size t.size
  hsz := Nat.le_trans s.hsz t.hsz
  keep := fun i x e hw => s.keep i x e (t.keep i x (s.le i x e) hw)
  os := t.os.trans s.os
  tape := t.tape.trans s.tape
  output := t.output.trans s.output
theorem Free.mono {ρ : Rn} {a b a' b' : Nat} (f : Free ρ a b) (h1 : a ≤ a') (h2 : b' ≤ b) : Free ρ a' b' := fun i x y => f i (Nat.le_trans h1 x) (Nat.lt_of_lt_of_le y h2)
theorem Sim.free {ρ ρ' : Rn} {h h' : Heap} {w w' : World} (s : Sim ρ h w ρ' h' w') {c : Nat} (f : Free ρ h.sz c) : Free ρ' h'.sz c := by
  intro i h1 h2
  cases e : ρ' i with
  | none => rfl
  | some x =>
    have := s.dom i x e (f i (Nat.le_trans s.hsz h1) h2)
    omega

def upd (ρ : Rn) (i : Nat) (x : Nat × Nat × Nat) : Rn := fun j => if j = i then some x else ρ j
theorem upd_le {ρ : Rn} {i : Nat} {x : Nat × Nat × Nat} (h : ρ i = none) : ρ.le (upd ρ i x) := by
  intro j y e
  unfold upd
  split
  · rename_i e'; subst e'; rw [h] at e; cases e
  · exact e
@[simp] theorem upd_self (ρ : Rn) (i : Nat) (x : Nat × Nat × Nat) : upd ρ i x i = some x := by simp [upd]
theorem upd_ne {ρ : Rn} {i j : Nat} {x : Nat × Nat × Nat} (h : j ≠ i) : upd ρ i x j = ρ j := by simp [upd, h]

/-- A new block. -/
theorem Sim.alloc {ρ : Rn} {h : Heap} {w : World} (m : Match ρ h w) (f : Free ρ h.sz (h.sz + 1)) (x : AObj) (obj : Obj) (n : Nat)
    (ok : ∀ w' : World, w'.heap[w.heap.size]? = some obj → ObjOK (upd ρ h.sz (w.heap.size, 0, n)) w' w.heap.size 0 n x) :
    Sim ρ h w (upd ρ h.sz (w.heap.size, 0, n)) (h.alloc x) { w with heap := w.heap.push obj } := by
  have f0 : ρ h.sz = none := f _ (Nat.le_refl _) (Nat.lt_succ_self _)
  have le := upd_le (x := (w.heap.size, 0, n)) f0
  have hb : ∀ b, b < w.heap.size → (w.heap.push obj)[b]? = w.heap[b]? := fun b hb => by rw [Array.getElem?_push, if_neg (by omega)]
  have inv : ∀ i b o k, upd ρ h.sz (w.heap.size, 0, n) i = some (b, o, k) → (i = h.sz ∧ b = w.heap.size) ∨ (i ≠ h.sz ∧ ρ i = some (b, o, k) ∧ b < w.heap.size) := by
    intro i b o k e
    by_cases hi : i = h.sz
    · subst hi; rw [upd_self] at e; cases e; exact .inl ⟨rfl, rfl⟩
    · rw [upd_ne hi] at e; exact .inr ⟨hi, e, m.blk i b o k e⟩
  refine ⟨le, ?_, ?_, ⟨?_, ?_, ?_, ?_⟩, fun b h1 _ => hb b h1, by simp, by simp, ?_, rfl, rfl, rfl⟩
  · intro i y e e0
    by_cases hi : i = h.sz
    · subst hi; simp
    · rw [upd_ne hi, e0] at e; cases e
  · intro i b o k e e0
    rcases inv i b o k e with ⟨_, h2⟩ | ⟨_, h2, _⟩
    · exact .inl (by omega)
    · rw [e0] at h2; cases h2
  · intro i b o k e y hy
    rw [Heap.get_alloc] at hy
    by_cases hi : i = h.sz
    · subst hi
      rw [upd_self] at e
      simp only [if_true] at hy
      cases e
      cases hy
      exact ok _ (by simp)
    · rw [if_neg hi] at hy
      rw [upd_ne hi] at e
      exact ((m.objs i b o k e y hy).mono le).block (hb b (m.blk i b o k e))
  · intro i b o k e
    rcases inv i b o k e with ⟨_, h2⟩ | ⟨_, _, h2⟩ <;> simp <;> omega
  · intro i j b o k o' k' hij e e' hw ha
    rcases inv i b o k e with ⟨h1, h2⟩ | ⟨h1, h2, h3⟩ <;> rcases inv j b o' k' e' with ⟨h4, h5⟩ | ⟨h4, h5, h6⟩
    · omega
    · omega
    · omega
    · rw [Heap.get_alloc, if_neg h1] at hw
      rw [Heap.get_alloc, if_neg h4] at ha
      exact m.inj i j b o k o' k' hij h2 h5 hw ha
  · intro i hi
    rw [Heap.get_alloc, if_neg (by simp at hi; omega)]
    exact m.fresh i (by simp at hi; omega)
  · intro i y e hw
    have : i ≠ h.sz := by intro e'; subst e'; rw [f0] at e; cases e
    rwa [Heap.get_alloc, if_neg this] at hw

/-- An object turned in place: its block alone changes. -/
theorem Sim.set {ρ : Rn} {h : Heap} {w w' : World} (m : Match ρ h w) {i b o n : Nat} (hi : ρ i = some (b, o, n)) {x y : AObj} (hx : h.get i = some x) (hwr : Wr (some x))
    (hout : ∀ c, c ≠ b → w'.heap[c]? = w.heap[c]?) (hsz : w'.heap.size = w.heap.size) (hos : w'.os = w.os) (htape : w'.tape = w.tape) (houtp : w'.output = w.output)
    (ok : ObjOK ρ w' b o n y) : Sim ρ h w ρ (h.set i y) w' := by
  have hne : ∀ j b' o' n', j ≠ i → ρ j = some (b', o', n') → Al (h.get j) → b' ≠ b := by
    intro j b' o' n' hj e ha e'
    subst e'
    exact m.inj i j b' o n o' n' (Ne.symm hj) hi e (by rw [hx]; exact hwr) ha
  refine ⟨Rn.le_refl _, (fun j x h1 h2 => by rw [h2] at h1; cases h1), (fun j b o n h1 h2 => by rw [h2] at h1; cases h1), ⟨?_, ?_, ?_, ?_⟩, ?_, by omega, by simp, ?_, hos, htape, houtp⟩
  · intro j b' o' n' e z hz
    rw [Heap.get_set] at hz
    by_cases hj : j = i
    · subst hj; simp only [if_true] at hz; cases hz; rw [hi] at e; cases e; exact ok
    · rw [if_neg hj] at hz
      cases z with
      | dead => trivial
      | cells c e' ro => exact (m.objs j b' o' n' e _ hz).block (hout _ (hne j b' o' n' hj e (by rw [hz]; trivial)))
      | map es cl => exact (m.objs j b' o' n' e _ hz).block (hout _ (hne j b' o' n' hj e (by rw [hz]; trivial)))
      | iter s p => exact (m.objs j b' o' n' e _ hz).block (hout _ (hne j b' o' n' hj e (by rw [hz]; trivial)))
      | miter q => exact (m.objs j b' o' n' e _ hz).block (hout _ (hne j b' o' n' hj e (by rw [hz]; trivial)))
      | mbox q => exact (m.objs j b' o' n' e _ hz).block (hout _ (hne j b' o' n' hj e (by rw [hz]; trivial)))
  · intro j b' o' n' e; rw [hsz]; exact m.blk j b' o' n' e
  · intro j k b' o' n' o2 n2 hjk e1 e2 hw ha
    have hw' : Wr (h.get j) := by
      rw [Heap.get_set] at hw
      by_cases hj : j = i
      · subst hj; rw [hx]; exact hwr
      · rwa [if_neg hj] at hw
    have ha' : Al (h.get k) := by
      rw [Heap.get_set] at ha
      by_cases hk : k = i
      · subst hk; rw [hx]; exact hwr.al
      · rwa [if_neg hk] at ha
    exact m.inj j k b' o' n' o2 n2 hjk e1 e2 hw' ha'
  · intro j hj
    rw [Heap.get_set, if_neg]
    · exact m.fresh j (by simpa using hj)
    · intro e
      subst e
      have := m.fresh j (by simpa using hj)
      rw [this] at hx
      cases hx
  · intro c hc hf
    refine hout c ?_
    intro e
    subst e
    exact hf i o n hi (by rw [hx]; exact hwr)
  · intro j z e hw
    rw [Heap.get_set] at hw
    by_cases hj : j = i
    · subst hj; rw [hx]; exact hwr
    · rwa [if_neg hj] at hw
end Go.Ab
