/- Runs: regions whose order is the text's; the code; functions. -/
import Derived.Test.YtljkcecalallmaaGreatDoorAb14
namespace Go.Ab
open Go
section
variable {P : Program} {nt : Nat}

theorem seqA_mono {call : CallF} {yl : YF} (hc : SoundC P call) (hy : YMono yl) : ∀ {ms : List MOper} {env env' : Env} {h h' : Heap}, seqA call yl ms env h = some (env', h') → HMono h h'
  | [], env, env', h, h', hs => by simp only [seqA, Option.some.injEq, Prod.mk.injEq] at hs; rw [hs.2]; exact .refl _
  | m :: ms, env, env', h, h', hs => by
    simp only [seqA] at hs
    split at hs
    · rename_i v h1 h2; exact (stepY_mono hc hy h2).trans (seqA_mono hc hy hs)
    · cases hs

theorem put_defers (a : Act) (d : Option Tmp) (u : Value) : (a.put d u).defers = a.defers := by cases d <;> rfl

theorem seq_sound {F : Fence} (hF : Wd F) {n : Nat} {call : CallF} {yl : YF} (hcall : SoundC P call) {I : Rn → Heap → World → Prop} (hI : Stable I) (hyl : SoundY P I yl) {ops : Array Oper} :
    ∀ (os : List Oper) (k : Nat) (ms : List MOper), ops.toList.drop k = os → compOpers P nt ops os = some ms →
    ∀ {env env' : Env} {h h' : Heap}, seqA call yl ms env h = some (env', h') → ∀ {ρ : Rn} {a : Act} {w : World}, EnvR ρ env a nt → Match ρ h w → I ρ h w → Free ρ h.sz h'.sz →
    ∀ {Q : Exit → Act → World → Prop}, (∀ a' w' ρ', EnvR ρ' env' a' nt → Sim ρ h w ρ' h' w' → a'.defers = a.defers → Q .normal a' w') → wpOpsIn F n P ops Q (List.range' k os.length) a w
  | [], k, ms, hk, hc, env, env', h, h', hs, ρ, a, w, he, mt, hi, fr, Q, hQ => by
    simp only [compOpers, Option.some.injEq] at hc
    subst hc
    simp only [seqA, Option.some.injEq, Prod.mk.injEq] at hs
    obtain ⟨rfl, rfl⟩ := hs
    exact hQ a w ρ he (Sim.refl mt) rfl
  | o :: os, k, ms, hk, hc, env, env', h, h', hs, ρ, a, w, he, mt, hi, fr, Q, hQ => by
    simp only [compOpers] at hc
    split at hc
    · rename_i m ms' h1 h2
      cases hc
      simp only [seqA] at hs
      split at hs
      · rename_i v hh hst
        have hk' : ops.toList.drop (k + 1) = os := by rw [← List.drop_drop, hk]; rfl
        have ho : ops[k]? = some o := by
          rw [← Array.getElem?_toList]
          have := congrArg (·[0]?) hk
          simpa using this
        have m1 := seqA_mono hcall hyl.mono hs
        simp only [List.length_cons, List.range'_succ]
        rw [wpOpsIn_cons]
        unfold wpOpIn
        rw [ho]
        refine stepY_sound hF hcall hyl h1 hst he mt hi (fr.mono (Nat.le_refl _) m1.1) ?_
        intro u w' ρ' r s _
        have he' : EnvR ρ' (putA env m.dst v) (a.put o.dst u) nt := by
          rw [(compOper_spec h1).1]
          exact he.put s.le r o.dst
        refine seq_sound hF hcall hI hyl os (k + 1) ms' hk' h2 hs he' s.mt (hI _ _ _ _ _ _ hi s) (s.free fr) ?_
        intro a2 w2 ρ2 e2 s2 d2
        exact hQ a2 w2 ρ2 e2 (s.trans s2) (by rw [d2, put_defers])
      · cases hs
    · cases hc

/-- the iteration of a loop -/
theorem iterA_mono {body : Env → Heap → Option (Out × Env × Heap)} (hb : ∀ env h o env' h', body env h = some (o, env', h') → HMono h h') :
    ∀ (n : Nat) (env : Env) (h : Heap) (o : Out) (env' : Env) (h' : Heap), iterA body n env h = some (o, env', h') → HMono h h'
  | 0, _, _, _, _, _, hs => by cases hs
  | n + 1, env, h, o, env', h', hs => by
    simp only [iterA] at hs
    split at hs
    · rename_i e1 h1 hb1; exact (hb _ _ _ _ _ hb1).trans (iterA_mono hb n _ _ _ _ _ hs)
    · exact hb _ _ _ _ _ hs

theorem drawA_mono {call : CallF} (hc : SoundC P call) : ∀ {ms : List MOper} {prs : List (List Nat)} {k : Nat} {ns : List Note} {env env' : Env} {h h' : Heap}, drawA call ms prs k ns env h = some (env', h') → HMono h h'
  | [], prs, k, ns, env, env', h, h', hs => by simp only [drawA, Option.some.injEq, Prod.mk.injEq] at hs; rw [hs.2]; exact .refl _
  | m :: ms, [], k, ns, env, env', h, h', hs => by simp [drawA] at hs
  | m :: ms, pr :: prs, k, ns, env, env', h, h', hs => by
    simp only [drawA] at hs
    split at hs
    · rename_i v h1 h2
      cases hb : pairsOk pr (noteA m env h h1) k ns with
      | false => rw [hb] at hs; cases hs
      | true => rw [hb] at hs; exact (stepA_mono hc h2).trans (drawA_mono hc hs)
    · cases hs

/-- what a round does -/
def roundA (cy : YF → CallF) (lf : Nat) (p : Nat) (as body : MCode) (env : Env) (i0 : Nat) : YF := fun i args h2 =>
  bif i.beq i0 then (match args with
    | [x] => match codeA cy lf noY as (env.set p x) h2 with
      | some (.nrm, e1, h3) => match codeA cy lf noY body e1 h3 with
        | some (.nrm, _, h4) => some (.bool true, h4)
        | _ => none
      | _ => none
    | _ => none) else none
theorem roundA_spec {cy : YF → CallF} {lf p : Nat} {as body : MCode} {env : Env} {i0 i : Nat} {args : List AV} {h h' : Heap} {v : AV} (hs : roundA cy lf p as body env i0 i args h = some (v, h')) :
    i = i0 ∧ ∃ x e1 h3 e2, args = [x] ∧ codeA cy lf noY as (env.set p x) h = some (.nrm, e1, h3) ∧ codeA cy lf noY body e1 h3 = some (.nrm, e2, h') ∧ v = .bool true := by
  unfold roundA at hs
  cases hb : i.beq i0 with
  | false => rw [hb] at hs; cases hs
  | true =>
    rw [hb] at hs
    refine ⟨ofBeq hb, ?_⟩
    simp only [cond_true] at hs
    split at hs
    · rename_i x
      split at hs
      · rename_i e1 h3 h1
        split at hs
        · rename_i e2 h4 h2
          cases hs
          exact ⟨x, e1, h3, e2, rfl, h1, h2, rfl⟩
        · cases hs
      · cases hs
    · cases hs

theorem codeA_mono {cy : YF → CallF} (hc : SoundF P cy) (lf : Nat) : ∀ (c : MCode) (yl : YF), YMono yl → ∀ (env : Env) (h : Heap) (o : Out) (env' : Env) (h' : Heap), codeA cy lf yl c env h = some (o, env', h') → HMono h h'
  | .skip, yl, hy, env, h, o, env', h', hs => by simp only [codeA] at hs; cases hs; exact .refl _
  | .reg ops none, yl, hy, env, h, o, env', h', hs => by
    simp only [codeA] at hs
    split at hs
    · rename_i e; cases hs; exact seqA_mono hc.c hy e
    · cases hs
  | .reg ops (some pr), yl, hy, env, h, o, env', h', hs => by
    simp only [codeA] at hs
    split at hs
    · rename_i e; cases hs; exact drawA_mono hc.c e
    · cases hs
  | .seq a b, yl, hy, env, h, o, env', h', hs => by
    simp only [codeA] at hs
    split at hs
    · rename_i e; exact (codeA_mono hc lf a yl hy _ _ _ _ _ e).trans (codeA_mono hc lf b yl hy _ _ _ _ _ hs)
    · exact codeA_mono hc lf a yl hy _ _ _ _ _ hs
  | .cond c t e, yl, hy, env, h, o, env', h', hs => by
    simp only [codeA] at hs
    split at hs
    · exact codeA_mono hc lf t yl hy _ _ _ _ _ hs
    · exact codeA_mono hc lf e yl hy _ _ _ _ _ hs
    · cases hs
  | .block id c, yl, hy, env, h, o, env', h', hs => by
    simp only [codeA] at hs
    split at hs
    · rename_i i e1 h1 e
      cases hb : i.beq id with
      | true => rw [hb] at hs; cases hs; exact codeA_mono hc lf c yl hy _ _ _ _ _ e
      | false => rw [hb] at hs; cases hs; exact codeA_mono hc lf c yl hy _ _ _ _ _ e
    · exact codeA_mono hc lf c yl hy _ _ _ _ _ hs
  | .loop c, yl, hy, env, h, o, env', h', hs => by
    simp only [codeA] at hs
    exact iterA_mono (fun env h o env' h' => codeA_mono hc lf c yl hy env h o env' h') lf env h o env' h' hs
  | .exit id, yl, hy, env, h, o, env', h', hs => by simp only [codeA] at hs; cases hs; exact .refl _
  | .ret, yl, hy, env, h, o, env', h', hs => by simp only [codeA] at hs; cases hs; exact .refl _
  | .bad, yl, hy, env, h, o, env', h', hs => by simp [codeA] at hs
  | .range f p as body, yl, hy, env, h, o, env', h', hs => by
    simp only [codeA] at hs
    split at hs
    · rename_i g first cap hf
      split at hs
      · rename_i v h2 hg
        cases hs
        refine (HMono.alloc h .dead).trans (hc.mono (roundA cy lf p as body env h.sz) ?_ _ _ _ _ _ hg)
        intro i args hx v' hx' hr
        obtain ⟨_, x, e1, h3, e2, _, h1, h2', _⟩ := roundA_spec hr
        exact (codeA_mono hc lf as noY noY_mono _ _ _ _ _ h1).trans (codeA_mono hc lf body noY noY_mono _ _ _ _ _ h2')
      · cases hs
    · cases hs

def Out.toExit : Out → Exit
  | .nrm => .normal
  | .ex i => .exit i
  | .ret => .ret

/-- what a region that draws its order owes -/
def DrawSound (P : Program) : Prop :=
  ∀ (F : Fence), Wd F → ∀ (n nt : Nat) (call : CallF), SoundC P call → ∀ (id : Nat) (ops : Array Oper) (ms : List MOper) (pr : List (List Nat)), compOpers P nt ops ops.toList = some ms → pr = predsAll ops.toList [] → tmpsOk ms pr = true →
    (ops.toList.zipIdx.all fun (o, j) => (directs o).all fun i => Nat.blt i j) = true →
    ∀ (env env' : Env) (h h' : Heap), drawA call ms pr 0 [] env h = some (env', h') → ∀ (ρ : Rn) (a : Act) (w : World), EnvR ρ env a nt → Match ρ h w → Free ρ h.sz h'.sz →
    ∀ (Q : Exit → Act → World → Prop), (∀ a' w' ρ', EnvR ρ' env' a' nt → Sim ρ h w ρ' h' w' → a'.defers = a.defers → Q .normal a' w') → (Code.region id ops true).wpIn F n P Q a w

/-- the marks of ranges over functions -/
def mkD (D : Nat) : Deferred := { target := .collected D, args := #[] }
def DX (lo : Nat) (d0 : List Deferred) (ρ : Rn) (w : World) (d : List Deferred) : Prop :=
  ∃ Ds : List Nat, d = Ds.map mkD ++ d0 ∧ Ds.Nodup ∧ ∀ D ∈ Ds, lo ≤ D ∧ w.heap[D]? = some (.deferred (some [])) ∧ ∀ j o n, ρ j ≠ some (D, o, n)
theorem DX.refl (lo : Nat) (d : List Deferred) (ρ : Rn) (w : World) : DX lo d ρ w d := ⟨[], rfl, List.nodup_nil, fun _ h => by cases h⟩
theorem DX.eq {lo : Nat} {d d' : List Deferred} {ρ : Rn} {w : World} (h : d' = d) : DX lo d ρ w d' := h ▸ DX.refl lo d ρ w
theorem lt_of_some {w : World} {D : Nat} {x : Obj} (h : w.heap[D]? = some x) : D < w.heap.size := by
  refine Nat.lt_of_not_le fun hle => ?_
  rw [Array.getElem?_eq_none hle] at h
  cases h
theorem DX.trans {lo : Nat} {d0 d1 d2 : List Deferred} {ρ1 ρ2 : Rn} {h1 h2 : Heap} {w1 w2 : World} (s : Sim ρ1 h1 w1 ρ2 h2 w2) (hlo : lo ≤ w1.heap.size) (a : DX lo d0 ρ1 w1 d1) (b : DX w1.heap.size d1 ρ2 w2 d2) : DX lo d0 ρ2 w2 d2 := by
  obtain ⟨Ds, rfl, n1, k1⟩ := a
  obtain ⟨Es, rfl, n2, k2⟩ := b
  refine ⟨Es ++ Ds, by simp, ?_, ?_⟩
  · refine List.nodup_append.2 ⟨n2, n1, ?_⟩
    intro x hx y hy e
    subst e
    have := (k2 x hx).1
    have := lt_of_some (k1 x hy).2.1
    omega
  · intro D hD
    rcases List.mem_append.1 hD with hD | hD
    · exact ⟨Nat.le_trans hlo (k2 D hD).1, (k2 D hD).2⟩
    · obtain ⟨q1, q2, q3⟩ := k1 D hD
      have hlt := lt_of_some q2
      refine ⟨q1, ?_, ?_⟩
      · rw [s.frame D hlt fun j o n e => (q3 j o n e).elim]; exact q2
      · intro j o n e
        cases e1 : ρ1 j with
        | some x =>
          have := s.le j x e1
          rw [e] at this
          cases this
          exact q3 j o n e1
        | none =>
          rcases s.rng j D o n e e1 with h | ⟨j', o', n', h, _⟩
          · omega
          · exact q3 _ _ _ h

/-- an object of the world that no value reads -/
def Unread (ρ : Rn) (h : Heap) (l : Nat) : Prop := ∀ j o n, ρ j = some (l, o, n) → ¬ Al (h.get j)
theorem Match.poke {ρ : Rn} {h : Heap} {w : World} (m : Match ρ h w) {l : Nat} (u : Unread ρ h l) (x : Obj) : Match ρ h (w.putObj l x) := by
  refine ⟨fun i b o n h1 y h2 => ?_, fun i b o n h1 => by simpa using m.blk i b o n h1, m.inj, m.fresh⟩
  by_cases e : b = l
  · subst e
    have := u i o n h1
    rw [h2] at this
    cases y with
    | cells c e ro => exact (this trivial).elim
    | map es clock => exact (this trivial).elim
    | dead => trivial
    | iter s p => exact (this trivial).elim
    | miter q => exact (this trivial).elim
    | mbox q => exact (this trivial).elim
  · exact (m.objs i b o n h1 y h2).block (World.putObj_heap_other e)
theorem Sim.poke {ρ ρ' : Rn} {h h' : Heap} {w w' : World} (s : Sim ρ h w ρ' h' w') {l : Nat} (hl : w.heap.size ≤ l) (u : Unread ρ' h' l) (x : Obj) : Sim ρ h w ρ' h' (w'.putObj l x) :=
  ⟨s.le, s.dom, s.rng, s.mt.poke u x, fun b h1 h2 => by rw [World.putObj_heap_other (by omega)]; exact s.frame b h1 h2, by simpa using s.size, s.hsz, s.keep, s.os, s.tape, s.output⟩
theorem Sim.pokes {ρ ρ' : Rn} {h h' : Heap} {w w' : World} (s : Sim ρ h w ρ' h' w') {l : Nat} (u : Unread ρ' h' l) (x : Obj) : Sim ρ h (w.putObj l x) ρ' h' (w'.putObj l x) := by
  refine ⟨s.le, s.dom, fun i b o n h1 h2 => by simpa using s.rng i b o n h1 h2, s.mt.poke u x, fun b h1 h2 => ?_, by simpa using s.size, s.hsz, s.keep, s.os, s.tape, s.output⟩
  simp only [World.putObj_size] at h1
  by_cases e : b = l
  · subst e
    rw [World.putObj_heap_same h1, World.putObj_heap_same (Nat.lt_of_lt_of_le h1 s.size)]
  · rw [World.putObj_heap_other e, World.putObj_heap_other e]
    exact s.frame b h1 h2
theorem putObj_back {w : World} {l : Nat} {x : Obj} (y : Obj) (h : w.heap[l]? = some x) : (w.putObj l y).putObj l x = w := by
  have : (w.heap.setIfInBounds l y).setIfInBounds l x = w.heap := by
    apply Array.ext_getElem?
    intro i
    by_cases e : l = i
    · subst e
      have hlt := lt_of_some h
      rw [h]
      simp [hlt]
    · rw [Array.getElem?_setIfInBounds_ne e, Array.getElem?_setIfInBounds_ne e]
  unfold World.putObj
  simp only [this]
theorem unread_loop {ρ : Rn} {h : Heap} {w : World} (m : Match ρ h w) {l : Nat} {r : Loop} (e : w.heap[l]? = some (.loop r)) : Unread ρ h l := by
  intro j o n hj ha
  cases hg : h.get j with
  | none => rw [hg] at ha; exact ha
  | some y =>
    have := m.objs j l o n hj y hg
    cases y with
    | cells c e' ro => obtain ⟨_, _, _, h1, _⟩ := this; rw [e] at h1; cases h1
    | map es clock => obtain ⟨_, h1, _⟩ := this; rw [e] at h1; cases h1
    | dead => rw [hg] at ha; exact ha
    | iter s p => obtain ⟨h1, _⟩ := this; rw [e] at h1; cases h1
    | miter q => obtain ⟨⟨_, _, _, _, _, _, h1⟩, _⟩ := this; rw [e] at h1; cases h1
    | mbox q => obtain ⟨⟨_, _, _, _, _, h1⟩, _⟩ := this; rw [e] at h1; cases h1
theorem Sim.junk {ρ : Rn} {h : Heap} {w : World} (m : Match ρ h w) (obj : Obj) : Sim ρ h w ρ h (w.alloc obj) := by
  have hb : ∀ b, b < w.heap.size → (w.alloc obj).heap[b]? = w.heap[b]? := fun b hb => by
    show (w.heap.push obj)[b]? = _
    rw [Array.getElem?_push, if_neg (by omega)]
  refine ⟨Rn.le_refl ρ, (fun i x h1 h2 => by rw [h2] at h1; cases h1), (fun i b o n h1 h2 => by rw [h2] at h1; cases h1), ?_, fun b h1 _ => hb b h1, (by show w.heap.size ≤ (w.heap.push obj).size; rw [Array.size_push]; omega), Nat.le_refl _, fun _ _ _ h => h, rfl, rfl, rfl⟩
  exact ⟨fun i b o n h1 x h2 => (m.objs i b o n h1 x h2).block (hb b (m.blk i b o n h1)), fun i b o n h1 => by
    have := m.blk i b o n h1
    show b < (w.heap.push obj).size
    rw [Array.size_push]; omega, m.inj, m.fresh⟩

theorem iterA_sound {F : Fence} (hF : Wd F) {n' : Nat} (c : Code) {body : Env → Heap → Option (Out × Env × Heap)} (hmono : ∀ env h o env' h', body env h = some (o, env', h') → HMono h h') {I : Rn → Heap → World → Prop} (hI : Stable I)
    (hb : ∀ env h o env' h', body env h = some (o, env', h') → ∀ ρ a w, EnvR ρ env a nt → Match ρ h w → I ρ h w → Free ρ h.sz h'.sz →
      ∀ Q : Exit → Act → World → Prop, (∀ a' w' ρ', EnvR ρ' env' a' nt → Sim ρ h w ρ' h' w' → DX w.heap.size a.defers ρ' w' a'.defers → Q o.toExit a' w') → c.wpIn F n' P Q a w)
    (n : Nat) (env : Env) (h : Heap) (o : Out) (env' : Env) (h' : Heap) (hs : iterA body n env h = some (o, env', h')) (ρ : Rn) (a : Act) (w : World) (he : EnvR ρ env a nt) (mt : Match ρ h w) (hi : I ρ h w) (fr : Free ρ h.sz h'.sz)
    (Q : Exit → Act → World → Prop) (hQ : ∀ a' w' ρ', EnvR ρ' env' a' nt → Sim ρ h w ρ' h' w' → DX w.heap.size a.defers ρ' w' a'.defers → Q o.toExit a' w') : (Code.loop c).wpIn F n' P Q a w := by
  -- what holds at each round's head
  let J : Nat → Act → World → Prop := fun n a1 w1 => ∃ env1 h1 ρ1, iterA body n env1 h1 = some (o, env', h') ∧ EnvR ρ1 env1 a1 nt ∧ Sim ρ h w ρ1 h1 w1 ∧ DX w.heap.size a.defers ρ1 w1 a1.defers
  have hne : o ≠ .nrm := by
    clear hQ fr mt he hi
    induction n generalizing env h with
    | zero => cases hs
    | succ n ih =>
      simp only [iterA] at hs
      split at hs
      · exact ih _ _ hs
      · rename_i hx
        intro e
        subst e
        exact hx _ _ hs
  intro b k cs hro hbF hr
  have key : ∀ n a1 w1, J n a1 w1 → ∃ e a' w', Q e a' w' ∧ ArrivesIn (Machine.fenced P F) P (lone (b.atR a1 (.code c :: .inLoop c :: k)) cs w1) b k cs e a' w' := by
    intro n
    induction n with
    | zero => rintro a1 w1 ⟨env1, h1, ρ1, hi, _⟩; cases hi
    | succ n ih =>
      rintro a1 w1 ⟨env1, h1, ρ1, hit, he1, s1, d1⟩
      simp only [iterA] at hit
      split at hit
      · rename_i env2 h2 hb2
        have m2 := iterA_mono hmono n _ _ _ _ _ hit
        have m1 := hmono _ _ _ _ _ hb2
        have hw := hb _ _ _ _ _ hb2 ρ1 a1 w1 he1 s1.mt (hI _ _ _ _ _ _ hi s1) ((s1.free fr).mono (Nat.le_refl _) m2.1) (fun e a2 w2 => e = .normal ∧ J n a2 w2)
          (fun a2 w2 ρ2 e2 s2 d2 => ⟨rfl, env2, h2, ρ2, hit, e2, s1.trans s2, DX.trans s2 s1.size d1 d2⟩)
        obtain ⟨e, a2, w2, ⟨rfl, hJ⟩, harr⟩ := hw b (.inLoop c :: k) cs hro hbF (hF.room _)
        obtain ⟨e3, a3, w3, hq3, harr3⟩ := ih a2 w2 hJ
        exact ⟨e3, a3, w3, hq3, .of_steps (StepsIn.trans harr (.one (fenced_calm hbF hr rfl) stepR_inLoop)) harr3⟩
      · have hw := hb _ _ _ _ _ hit ρ1 a1 w1 he1 s1.mt (hI _ _ _ _ _ _ hi s1) (s1.free fr) (fun e a2 w2 => e = o.toExit ∧ Q e a2 w2)
          (fun a2 w2 ρ2 e2 s2 d2 => ⟨rfl, hQ a2 w2 ρ2 e2 (s1.trans s2) (DX.trans s2 s1.size d1 d2)⟩)
        obtain ⟨e, a2, w2, ⟨rfl, hq⟩, harr⟩ := hw b (.inLoop c :: k) cs hro hbF (hF.room _)
        refine ⟨_, a2, w2, hq, ArrivesIn.pass (x := .inLoop c) rfl (fun _ _ => .inl ?_) harr⟩
        cases o with
        | nrm => exact (hne rfl).elim
        | ex i => simp [Out.toExit]
        | ret => simp [Out.toExit]
  obtain ⟨e, a', w', hq, harr⟩ := key n a w ⟨env, h, ρ, hs, he, Sim.refl mt, DX.refl _ _ _ _⟩
  exact ⟨e, a', w', hq, .of_steps (.one (fenced_calm hbF hr rfl) stepR_loop) harr⟩

end
end Go.Ab
