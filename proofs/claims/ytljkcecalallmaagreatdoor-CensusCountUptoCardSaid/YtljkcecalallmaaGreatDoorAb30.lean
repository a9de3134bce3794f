/- Functions met by what is known of them: what they leave behind may be forgotten. -/
import Derived.Test.YtljkcecalallmaaGreatDoorAb29
namespace Go.Ab
open Go

mutual
theorem VR.restrict {ρ ρ' : Rn} (le : ρ.le ρ') : ∀ {a : AV} {u v : Value}, VR ρ a u → VR ρ' a v → VR ρ a v
  | .int _ _, _, _, _, e => by simpa [VR] using e
  | .bool _, _, _, _, e => by simpa [VR] using e
  | .str _, _, _, _, e => by simpa [VR] using e
  | .sc _, _, _, _, e => by simpa [VR] using e
  | .ptr i k, _, _, h, e => by
    simp only [VR] at h e ⊢
    obtain ⟨b, o, n, h1, _⟩ := h
    obtain ⟨b', o', n', e1, e2⟩ := e
    have := le _ _ h1
    rw [e1] at this
    cases this
    exact ⟨_, _, _, h1, e2⟩
  | .sl .., _, _, h, e => by
    simp only [VR] at h e ⊢
    obtain ⟨b, o, n, a', cap', h1, _⟩ := h
    obtain ⟨b', o', n', a2, cap2, e1, e2⟩ := e
    have := le _ _ h1
    rw [e1] at this
    cases this
    exact ⟨_, _, _, a2, cap2, h1, e2⟩
  | .mp i, _, _, h, e => by
    simp only [VR] at h e ⊢
    obtain ⟨b, n, h1, _⟩ := h
    obtain ⟨b', n', e1, e2⟩ := e
    have := le _ _ h1
    rw [e1] at this
    cases this
    exact ⟨_, _, h1, e2⟩
  | .fn .., _, _, h, e => by
    simp only [VR] at h e ⊢
    obtain ⟨a', b', _, h2, h3⟩ := h
    obtain ⟨a2, b2, e1, e2, e3⟩ := e
    exact ⟨a2, b2, e1, VRs.restrict le h2 e2, VRs.restrict le h3 e3⟩
  | .agg _, _, _, h, e => by
    simp only [VR] at h e ⊢
    obtain ⟨a', _, h2⟩ := h
    obtain ⟨a2, e1, e2⟩ := e
    exact ⟨a2, e1, VRs.restrict le h2 e2⟩
  | .tup _, _, _, h, e => by
    simp only [VR] at h e ⊢
    obtain ⟨a', _, h2⟩ := h
    obtain ⟨a2, e1, e2⟩ := e
    exact ⟨a2, e1, VRs.restrict le h2 e2⟩
  | .yd i, _, _, h, e => by
    simp only [VR] at h e ⊢
    obtain ⟨b, o, n, h1, _⟩ := h
    obtain ⟨b', o', n', e1, e2⟩ := e
    have := le _ _ h1
    rw [e1] at this
    cases this
    exact ⟨_, _, _, h1, e2⟩
theorem VRs.restrict {ρ ρ' : Rn} (le : ρ.le ρ') : ∀ {l : List AV} {us vs : List Value}, VRs ρ l us → VRs ρ' l vs → VRs ρ l vs
  | [], _, _, _, e => by simpa [VRs] using e
  | _ :: _, _, _, h, e => by
    simp only [VRs] at h e ⊢
    obtain ⟨u, us, _, h1, h2⟩ := h
    obtain ⟨v, vs, e0, e1, e2⟩ := e
    exact ⟨v, vs, e0, VR.restrict le h1 e1, VRs.restrict le h2 e2⟩
end

mutual
/-- no address in it -/
def AV.cl : AV → Bool
  | .int _ _ | .bool _ | .str _ | .sc _ => true
  | .fn _ a b => AV.cls a && AV.cls b
  | .agg cs => AV.cls cs
  | .tup cs => AV.cls cs
  | _ => false
def AV.cls : List AV → Bool
  | [] => true
  | a :: as => AV.cl a && AV.cls as
end
mutual
theorem VR.closed {ρ ρ' : Rn} : ∀ {a : AV} {v : Value}, a.cl = true → VR ρ' a v → VR ρ a v
  | .int _ _, _, _, e => by simpa [VR] using e
  | .bool _, _, _, e => by simpa [VR] using e
  | .str _, _, _, e => by simpa [VR] using e
  | .sc _, _, _, e => by simpa [VR] using e
  | .fn .., _, h, e => by
    simp only [AV.cl, Bool.and_eq_true] at h
    simp only [VR] at e ⊢
    obtain ⟨a2, b2, e1, e2, e3⟩ := e
    exact ⟨a2, b2, e1, VRs.closed h.1 e2, VRs.closed h.2 e3⟩
  | .agg _, _, h, e => by
    simp only [AV.cl] at h
    simp only [VR] at e ⊢
    obtain ⟨a2, e1, e2⟩ := e
    exact ⟨a2, e1, VRs.closed h e2⟩
  | .tup _, _, h, e => by
    simp only [AV.cl] at h
    simp only [VR] at e ⊢
    obtain ⟨a2, e1, e2⟩ := e
    exact ⟨a2, e1, VRs.closed h e2⟩
  | .ptr .., _, h, _ => by cases h
  | .sl .., _, h, _ => by cases h
  | .mp .., _, h, _ => by cases h
  | .yd .., _, h, _ => by cases h
theorem VRs.closed {ρ ρ' : Rn} : ∀ {l : List AV} {vs : List Value}, AV.cls l = true → VRs ρ' l vs → VRs ρ l vs
  | [], _, _, e => by simpa [VRs] using e
  | _ :: _, _, h, e => by
    simp only [AV.cls, Bool.and_eq_true] at h
    simp only [VRs] at e ⊢
    obtain ⟨v, vs, e0, e1, e2⟩ := e
    exact ⟨v, vs, e0, VR.closed h.1 e1, VRs.closed h.2 e2⟩
end

mutual
/-- above all addresses in it -/
def AV.top : AV → Nat
  | .ptr i _ | .sl i _ _ _ _ _ | .mp i | .yd i => i + 1
  | .fn _ a b => max (AV.tops a) (AV.tops b)
  | .agg cs => AV.tops cs
  | .tup cs => AV.tops cs
  | _ => 0
def AV.tops : List AV → Nat
  | [] => 0
  | a :: as => max (AV.top a) (AV.tops as)
end
/-- the renaming below n -/
def cutR (ρ : Rn) (n : Nat) : Rn := fun i => if i < n then ρ i else none
theorem cutR_le (ρ : Rn) (n : Nat) : (cutR ρ n).le ρ := fun i x h => by
  unfold cutR at h
  split at h
  · exact h
  · cases h
theorem cutR_lt {ρ : Rn} {n i : Nat} {x} (h : ρ i = some x) (hi : i < n) : cutR ρ n i = some x := by unfold cutR; rw [if_pos hi]; exact h
theorem cutR_some {ρ : Rn} {n i : Nat} {x} (h : cutR ρ n i = some x) : i < n ∧ ρ i = some x := by
  unfold cutR at h
  split at h
  · rename_i hi; exact ⟨hi, h⟩
  · cases h
mutual
theorem VR.cut {ρ : Rn} {n : Nat} : ∀ {a : AV} {v : Value}, a.top ≤ n → VR ρ a v → VR (cutR ρ n) a v
  | .int _ _, _, _, e => by simpa [VR] using e
  | .bool _, _, _, e => by simpa [VR] using e
  | .str _, _, _, e => by simpa [VR] using e
  | .sc _, _, _, e => by simpa [VR] using e
  | .fn .., _, h, e => by
    simp only [AV.top] at h
    simp only [VR] at e ⊢
    obtain ⟨a2, b2, e1, e2, e3⟩ := e
    exact ⟨a2, b2, e1, VRs.cut (by omega) e2, VRs.cut (by omega) e3⟩
  | .agg _, _, h, e => by
    simp only [AV.top] at h
    simp only [VR] at e ⊢
    obtain ⟨a2, e1, e2⟩ := e
    exact ⟨a2, e1, VRs.cut h e2⟩
  | .tup _, _, h, e => by
    simp only [AV.top] at h
    simp only [VR] at e ⊢
    obtain ⟨a2, e1, e2⟩ := e
    exact ⟨a2, e1, VRs.cut h e2⟩
  | .ptr .., _, h, e => by
    simp only [AV.top] at h
    simp only [VR] at e ⊢
    obtain ⟨b, o, m, h1, h2⟩ := e
    exact ⟨b, o, m, cutR_lt h1 (by omega), h2⟩
  | .sl .., _, h, e => by
    simp only [AV.top] at h
    simp only [VR] at e ⊢
    obtain ⟨b, o, m, a, c, h1, h2⟩ := e
    exact ⟨b, o, m, a, c, cutR_lt h1 (by omega), h2⟩
  | .mp .., _, h, e => by
    simp only [AV.top] at h
    simp only [VR] at e ⊢
    obtain ⟨b, m, h1, h2⟩ := e
    exact ⟨b, m, cutR_lt h1 (by omega), h2⟩
  | .yd .., _, h, e => by
    simp only [AV.top] at h
    simp only [VR] at e ⊢
    obtain ⟨b, o, m, h1, h2⟩ := e
    exact ⟨b, o, m, cutR_lt h1 (by omega), h2⟩
theorem VRs.cut {ρ : Rn} {n : Nat} : ∀ {l : List AV} {vs : List Value}, AV.tops l ≤ n → VRs ρ l vs → VRs (cutR ρ n) l vs
  | [], _, _, e => by simpa [VRs] using e
  | _ :: _, _, h, e => by
    simp only [AV.tops] at h
    simp only [VRs] at e ⊢
    obtain ⟨v, vs, e0, e1, e2⟩ := e
    exact ⟨v, vs, e0, VR.cut (by omega) e1, VRs.cut (by omega) e2⟩
end

theorem ObjOK.restrict {ρ ρ' : Rn} (le : ρ.le ρ') {w w' : World} {b o n : Nat} {x : AObj} (h : ObjOK ρ w b o n x) (k : ObjOK ρ' w' b o n x) : ObjOK ρ w' b o n x := by
  cases x with
  | dead => trivial
  | iter s p => exact k
  | miter m =>
    obtain ⟨⟨bm, nm, a, c, d, h1, h2⟩, h3⟩ := h
    obtain ⟨⟨bm', nm', a', c', d', k1, k2⟩, k3⟩ := k
    have := le _ _ h1
    rw [k1] at this
    cases this
    exact ⟨⟨_, _, _, _, _, h1, k2⟩, k3⟩
  | mbox m =>
    obtain ⟨⟨bm, nm, a, c, h1, h2⟩, h3⟩ := h
    obtain ⟨⟨bm', nm', a', c', k1, k2⟩, k3⟩ := k
    have := le _ _ h1
    rw [k1] at this
    cases this
    exact ⟨⟨_, _, _, _, h1, k2⟩, k3⟩
  | cells c e ro =>
    obtain ⟨c1, E1, f1, h1, h2, h3, h4, h5⟩ := h
    obtain ⟨c2, E2, f2, k1, k2, k3, k4, k5⟩ := k
    refine ⟨c2, E2, f2, k1, k2, k3, k4, fun k a e => ?_⟩
    obtain ⟨u, _, hu⟩ := h5 k a e
    obtain ⟨v, hv, hv2⟩ := k5 k a e
    exact ⟨v, hv, hu.restrict le hv2⟩
  | map es clock =>
    obtain ⟨es1, h1, h2, h3⟩ := h
    obtain ⟨es2, k1, k2, k3⟩ := k
    refine ⟨es2, k1, k2, k3.1, fun i x y hx hy => ?_⟩
    have hlt : i < es1.toList.length := by rw [← h3.1]; exact (List.getElem?_eq_some_iff.1 hx).1
    obtain ⟨a1, a2, _⟩ := h3.2 i x es1.toList[i] hx (List.getElem?_eq_getElem hlt)
    obtain ⟨b1, b2, b3⟩ := k3.2 i x y hx hy
    exact ⟨a1.restrict le b1, a2.restrict le b2, b3⟩

/-- what lay there stands; there may be more -/
structure Ext (h h' : Heap) : Prop where
  sz : h.sz ≤ h'.sz
  hf : HF h'
  get : ∀ i x, h.get i = some x → h'.get i = some x
theorem Ext.refl {h : Heap} (f : HF h) : Ext h h := ⟨Nat.le_refl _, f, fun _ _ e => e⟩
theorem Ext.trans {a b c : Heap} (h : Ext a b) (k : Ext b c) : Ext a c := ⟨Nat.le_trans h.sz k.sz, k.hf, fun i x e => k.get i x (h.get i x e)⟩
theorem HF.lt {h : Heap} (f : HF h) {i : Nat} {x} (e : h.get i = some x) : i < h.sz := by
  rcases Nat.lt_or_ge i h.sz with k | k
  · exact k
  · rw [f i k] at e; cases e
theorem Ext.alloc {h : Heap} (f : HF h) (o : AObj) : Ext h (h.alloc o) := ⟨Nat.le_succ _, (HMono.alloc h o).2 f, fun i x e => by
  rw [Heap.get_alloc, if_neg]
  · exact e
  · have := f.lt e; omega⟩

theorem Sim.forget {ρ ρ' : Rn} {h h' : Heap} {w w' : World} (mt : Match ρ h w) (s : Sim ρ h w ρ' h' w') (keep : ∀ i x, h.get i = some x → h'.get i = some x) : Sim ρ h w ρ h w' where
  le := Rn.le_refl ρ
  dom := fun i x e e0 => by rw [e] at e0; cases e0
  rng := fun i b o n e e0 => by rw [e] at e0; cases e0
  mt := ⟨fun i b o n hi x hx => (mt.objs i b o n hi x hx).restrict s.le (s.mt.objs i b o n (s.le _ _ hi) x (keep i x hx)), fun i b o n hi => s.mt.blk i b o n (s.le _ _ hi), mt.inj, mt.fresh⟩
  frame := s.frame
  size := s.size
  hsz := Nat.le_refl _
  keep := fun _ _ _ h => h
  os := s.os
  tape := s.tape
  output := s.output

/-- a run from a part of the heap, with room -/
theorem Sim.wide {ρ : Rn} {h : Heap} {n : Nat} {w w' : World} (mt : Match ρ h w) (hn : h.sz ≤ n) (s : Sim (cutR ρ n) ⟨n, h.t⟩ w (cutR ρ n) ⟨n, h.t⟩ w') : Sim ρ h w ρ h w' where
  le := Rn.le_refl ρ
  dom := fun i x e e0 => by rw [e] at e0; cases e0
  rng := fun i b o n e e0 => by rw [e] at e0; cases e0
  mt := by
    have lt : ∀ i x, h.get i = some x → i < n := fun i x e => by
      rcases Nat.lt_or_ge i h.sz with k | k
      · omega
      · rw [mt.fresh i k] at e; cases e
    exact ⟨fun i b o k hi x hx => (s.mt.objs i b o k (cutR_lt hi (lt i x hx)) x hx).mono (cutR_le ρ n), fun i b o k hi => Nat.lt_of_lt_of_le (mt.blk i b o k hi) s.size, mt.inj, mt.fresh⟩
  frame := fun b hb hf => s.frame b hb fun j o k hj hw => hf j o k (cutR_some hj).2 hw
  size := s.size
  hsz := Nat.le_refl _
  keep := fun _ _ _ h => h
  os := s.os
  tape := s.tape
  output := s.output
/-- above all addresses in an object, in a heap -/
def mtops : List (AV × AV × Nat) → Nat
  | [] => 0
  | e :: es => max (max e.1.top e.2.1.top) (mtops es)
def AObj.top : AObj → Nat
  | .cells c _ _ => AV.tops c
  | .map es _ => mtops es
  | .miter m => m + 1
  | .mbox m => m + 1
  | _ => 0
def otop : Option AObj → Nat
  | some x => x.top
  | none => 0
def Tr.topT : Tr AObj → Nat
  | .nil => 0
  | .node v l r => max (otop v) (max l.topT r.topT)
theorem topT_get : ∀ (t : Tr AObj) (m : Nat) (x : AObj), t.getP m = some x → x.top ≤ t.topT
  | .nil, _, _, h => by cases h
  | .node v l r, m, x, h => by
    simp only [Tr.getP] at h
    simp only [Tr.topT]
    cases h1 : Nat.beq m 1 with
    | true => rw [h1] at h; simp only [cond_true] at h; subst h; simp only [otop]; omega
    | false =>
      rw [h1] at h
      simp only [cond_false] at h
      cases h2 : Nat.beq (m % 2) 0 with
      | true => rw [h2] at h; have := topT_get l _ x h; omega
      | false => rw [h2] at h; have := topT_get r _ x h; omega
theorem tops_get : ∀ (l : List AV) (i : Nat) (a : AV), l[i]? = some a → a.top ≤ AV.tops l
  | [], _, _, h => by simp at h
  | b :: l, 0, a, h => by simp at h; subst h; simp only [AV.tops]; omega
  | b :: l, i + 1, a, h => by simp at h; have := tops_get l i a h; simp only [AV.tops]; omega
theorem mtops_get : ∀ (l : List (AV × AV × Nat)) (i : Nat) (e : AV × AV × Nat), l[i]? = some e → e.1.top ≤ mtops l ∧ e.2.1.top ≤ mtops l
  | [], _, _, h => by simp at h
  | b :: l, 0, a, h => by simp at h; subst h; simp only [mtops]; omega
  | b :: l, i + 1, a, h => by simp at h; have := mtops_get l i a h; simp only [mtops]; omega
theorem ObjOK.cut {ρ : Rn} {w : World} {n b o k : Nat} {x : AObj} (ht : x.top ≤ n) (h : ObjOK ρ w b o k x) : ObjOK (cutR ρ n) w b o k x := by
  cases x with
  | dead => trivial
  | iter s p => exact h
  | miter m =>
    obtain ⟨⟨bm, nm, a, c, d, h1, h2⟩, h3⟩ := h
    simp only [AObj.top] at ht
    exact ⟨⟨_, _, _, _, _, cutR_lt h1 (by omega), h2⟩, h3⟩
  | mbox m =>
    obtain ⟨⟨bm, nm, a, c, h1, h2⟩, h3⟩ := h
    simp only [AObj.top] at ht
    exact ⟨⟨_, _, _, _, cutR_lt h1 (by omega), h2⟩, h3⟩
  | cells c e ro =>
    obtain ⟨c1, E1, f1, h1, h2, h3, h4, h5⟩ := h
    simp only [AObj.top] at ht
    refine ⟨c1, E1, f1, h1, h2, h3, h4, fun k a e => ?_⟩
    obtain ⟨u, hu1, hu2⟩ := h5 k a e
    exact ⟨u, hu1, VR.cut (Nat.le_trans (tops_get c k a e) ht) hu2⟩
  | map es clock =>
    obtain ⟨es1, h1, h2, h3⟩ := h
    simp only [AObj.top] at ht
    refine ⟨es1, h1, h2, h3.1, fun i x y hx hy => ?_⟩
    obtain ⟨a1, a2, a3⟩ := h3.2 i x y hx hy
    have := mtops_get es i x hx
    exact ⟨VR.cut (by omega) a1, VR.cut (by omega) a2, a3⟩
theorem Match.cut {ρ : Rn} {h : Heap} {w : World} (mt : Match ρ h w) {n : Nat} (hn : h.sz ≤ n) (ht : h.t.topT ≤ n) : Match (cutR ρ n) ⟨n, h.t⟩ w where
  objs := fun i b o k hi x hx => (mt.objs i b o k (cutR_some hi).2 x hx).cut (Nat.le_trans (topT_get _ _ _ hx) ht)
  blk := fun i b o k hi => mt.blk i b o k (cutR_some hi).2
  inj := fun i j b o k o' k' hij h1 h2 hw ha => mt.inj i j b o k o' k' hij (cutR_some h1).2 (cutR_some h2).2 hw ha
  fresh := fun i hi => mt.fresh i (by show h.sz ≤ i; exact Nat.le_trans hn hi)

/-- A FUNCTION THAT WRITES NOTHING OLD AND HANDS BACK NO ADDRESS: what it lays is forgotten. -/
theorem SoundI.pure {P : Program} (hd : DrawSound P) {T : FuncId → Option Ent} (hT : SoundT P T) {f : FuncId} (hok : CallOK P f) {g : Intr}
    (hg : ∀ args h v h', g args h = some (v, h') → h' = h ∧ v.cl = true ∧ ∀ n, h.sz ≤ n → HF ⟨n, h.t⟩ → WR T f args ⟨n, h.t⟩ fun v1 h1 => v1 = v ∧ Ext ⟨n, h.t⟩ h1) : SoundI P f g := by
  refine ⟨hok, fun args h v h' e => by rw [(hg args h v h' e).1]; exact .refl _, fun args h v h' e ρ w args' mt fr ha => ?_⟩
  obtain ⟨rfl, hcl, hw⟩ := hg args h v h' e
  let n := max h'.sz (max (AV.tops args) h'.t.topT)
  have mt2 : Match (cutR ρ n) ⟨n, h'.t⟩ w := mt.cut (by omega) (by omega)
  obtain ⟨lf, k, v1, h1, hc, rfl, hx⟩ := hw n (by omega) mt2.fresh
  have fr2 : Free (cutR ρ n) (Heap.sz ⟨n, h'.t⟩) h1.sz := fun i hi _ => by
    unfold cutR
    rw [if_neg]
    exact Nat.not_lt.2 hi
  refine ((callA_sound hd hT lf k).sound f args _ v1 h1 hc _ w args' mt2 fr2 (VRs.cut (by omega) ha)).mono ?_
  rintro e1 w' ⟨u, ρ', rfl, hv, s⟩
  exact ⟨u, ρ, rfl, VR.closed hcl hv, Sim.wide mt (by omega) (Sim.forget mt2 s hx.get)⟩

/-- a value is known for these arguments (no address in them): the run on an empty heap said it -/
def memo (eq : List AV → Bool) (v : AV) : Intr := fun args h => bif eq args then some (v, h) else none
theorem SoundI.memo {P : Program} (hd : DrawSound P) {T : FuncId → Option Ent} (hT : SoundT P T) {f : FuncId} (hok : CallOK P f) {as : List AV} {eq : List AV → Bool} {v : AV} (heq : ∀ l, eq l = true → l = as) (hcl : v.cl = true) (hcs : AV.cls as = true)
    (hr : ∃ lf n h', callA T lf n f as ⟨0, .nil⟩ = some (v, h')) : SoundI P f (memo eq v) := by
  obtain ⟨lf, n, h1, hr⟩ := hr
  refine ⟨hok, fun args h v' h' e => ?_, fun args h v' h' e ρ w args' mt fr ha => ?_⟩
  · unfold Ab.memo at e
    cases hb : eq args with
    | false => rw [hb] at e; cases e
    | true => rw [hb] at e; cases e; exact .refl _
  · unfold Ab.memo at e
    cases hb : eq args with
    | false => rw [hb] at e; cases e
    | true =>
      rw [hb] at e
      cases e
      have := heq _ hb
      subst this
      have mt0 : Match (fun _ => none) ⟨0, .nil⟩ w := ⟨fun i b o n h => (by cases h), fun i b o n h => (by cases h), fun i j b o n o' n' _ h => (by cases h), fun i _ => rfl⟩
      refine ((callA_sound hd hT lf n).sound f args _ v h1 hr _ w args' mt0 (fun _ _ _ => rfl) (VRs.closed hcs ha)).mono ?_
      rintro e1 w' ⟨u, ρ', rfl, hv, s⟩
      have s0 := Sim.forget mt0 s (fun i x h => by cases h)
      refine ⟨u, ρ, rfl, VR.closed hcl hv, Sim.below mt ⟨s0.os, s0.tape, s0.output, s0.size, fun k hk => s0.frame k hk fun j o n h => by cases h⟩⟩
end Go.Ab
