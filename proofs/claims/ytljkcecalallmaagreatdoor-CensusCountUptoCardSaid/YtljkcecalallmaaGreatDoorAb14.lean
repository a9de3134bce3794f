/- Runs: operations in the order of the text. -/
import Derived.Test.YtljkcecalallmaaGreatDoorAb13
import Derived.RangeFuncLeaves
import Derived.RangeFuncRecord
import Derived.OrdersIn
namespace Go.Ab
open Go

theorem nilEq_eq : ∀ {u v : Value}, Value.nilEq u v = true → u = v := by
  intro u v h
  unfold Value.nilEq at h
  split at h
  · rfl
  · simp only [Bool.and_eq_true, beq_iff_eq] at h; rw [h.1, h.2]
  · rfl
  · rfl
  · cases h
mutual
theorem AV.beq_eq : ∀ {a b : AV}, AV.beq a b = true → a = b
  | .int k a, .int l b, h => by simp only [AV.beq, Bool.and_eq_true, beq_iff_eq] at h; rw [h.1, h.2]
  | .bool a, .bool b, h => by simp only [AV.beq, beq_iff_eq] at h; rw [h]
  | .str a, .str b, h => by simp only [AV.beq, beq_iff_eq] at h; rw [h]
  | .sc u, .sc v, h => by simp only [AV.beq] at h; rw [nilEq_eq h]
  | .ptr i k, .ptr j l, h => by simp only [AV.beq, Bool.and_eq_true, beq_iff_eq] at h; rw [h.1, h.2]
  | .sl .., .sl .., h => by
    simp only [AV.beq, Bool.and_eq_true, beq_iff_eq] at h
    obtain ⟨⟨⟨⟨⟨rfl, rfl⟩, rfl⟩, rfl⟩, rfl⟩, rfl⟩ := h
    rfl
  | .mp i, .mp j, h => by simp only [AV.beq, beq_iff_eq] at h; rw [h]
  | .fn f a b, .fn g c d, h => by
    simp only [AV.beq, Bool.and_eq_true, beq_iff_eq] at h
    rw [h.1.1, AV.beqs_eq h.1.2, AV.beqs_eq h.2]
  | .agg a, .agg b, h => by simp only [AV.beq] at h; rw [AV.beqs_eq h]
  | .yd _, b, h => by cases b <;> simp [AV.beq] at h
  | .tup a, .tup b, h => by simp only [AV.beq] at h; rw [AV.beqs_eq h]
  | .int .., .bool _, h | .int .., .str _, h | .int .., .sc _, h | .int .., .ptr .., h | .int .., .sl .., h | .int .., .mp _, h | .int .., .fn .., h | .int .., .agg _, h | .int .., .tup _, h | .int .., .yd _, h => by simp [AV.beq] at h
  | .bool _, .int .., h | .bool _, .str _, h | .bool _, .sc _, h | .bool _, .ptr .., h | .bool _, .sl .., h | .bool _, .mp _, h | .bool _, .fn .., h | .bool _, .agg _, h | .bool _, .tup _, h | .bool _, .yd _, h => by simp [AV.beq] at h
  | .str _, .int .., h | .str _, .bool _, h | .str _, .sc _, h | .str _, .ptr .., h | .str _, .sl .., h | .str _, .mp _, h | .str _, .fn .., h | .str _, .agg _, h | .str _, .tup _, h | .str _, .yd _, h => by simp [AV.beq] at h
  | .sc _, .int .., h | .sc _, .bool _, h | .sc _, .str _, h | .sc _, .ptr .., h | .sc _, .sl .., h | .sc _, .mp _, h | .sc _, .fn .., h | .sc _, .agg _, h | .sc _, .tup _, h | .sc _, .yd _, h => by simp [AV.beq] at h
  | .ptr .., .int .., h | .ptr .., .bool _, h | .ptr .., .str _, h | .ptr .., .sc _, h | .ptr .., .sl .., h | .ptr .., .mp _, h | .ptr .., .fn .., h | .ptr .., .agg _, h | .ptr .., .tup _, h | .ptr .., .yd _, h => by simp [AV.beq] at h
  | .sl .., .int .., h | .sl .., .bool _, h | .sl .., .str _, h | .sl .., .sc _, h | .sl .., .ptr .., h | .sl .., .mp _, h | .sl .., .fn .., h | .sl .., .agg _, h | .sl .., .tup _, h | .sl .., .yd _, h => by simp [AV.beq] at h
  | .mp _, .int .., h | .mp _, .bool _, h | .mp _, .str _, h | .mp _, .sc _, h | .mp _, .ptr .., h | .mp _, .sl .., h | .mp _, .fn .., h | .mp _, .agg _, h | .mp _, .tup _, h | .mp _, .yd _, h => by simp [AV.beq] at h
  | .fn .., .int .., h | .fn .., .bool _, h | .fn .., .str _, h | .fn .., .sc _, h | .fn .., .ptr .., h | .fn .., .sl .., h | .fn .., .mp _, h | .fn .., .agg _, h | .fn .., .tup _, h | .fn .., .yd _, h => by simp [AV.beq] at h
  | .agg _, .int .., h | .agg _, .bool _, h | .agg _, .str _, h | .agg _, .sc _, h | .agg _, .ptr .., h | .agg _, .sl .., h | .agg _, .mp _, h | .agg _, .fn .., h | .agg _, .tup _, h | .agg _, .yd _, h => by simp [AV.beq] at h
  | .tup _, .int .., h | .tup _, .bool _, h | .tup _, .str _, h | .tup _, .sc _, h | .tup _, .ptr .., h | .tup _, .sl .., h | .tup _, .mp _, h | .tup _, .fn .., h | .tup _, .agg _, h | .tup _, .yd _, h => by simp [AV.beq] at h
theorem AV.beqs_eq : ∀ {a b : List AV}, AV.beqs a b = true → a = b
  | [], [], _ => rfl
  | a :: as, b :: bs, h => by
    simp only [AV.beqs, Bool.and_eq_true] at h
    rw [AV.beq_eq h.1, AV.beqs_eq h.2]
  | [], _ :: _, h => by simp [AV.beqs] at h
  | _ :: _, [], h => by simp [AV.beqs] at h
end
theorem AV.beqm_eq : ∀ {a b : List (AV × AV × Nat)}, AV.beqm a b = true → a = b
  | [], [], _ => rfl
  | (a, b, c) :: as, (d, e, f) :: bs, h => by
    simp only [AV.beqm, Bool.and_eq_true, beq_iff_eq] at h
    rw [AV.beq_eq h.1.1.1, AV.beq_eq h.1.1.2, h.1.2, AV.beqm_eq h.2]
  | [], _ :: _, h => by simp [AV.beqm] at h
  | _ :: _, [], h => by simp [AV.beqm] at h
theorem objEq_eq {a b : Option AObj} (h : objEq a b = true) : a = b := by
  unfold objEq at h
  split at h
  · simp only [Bool.and_eq_true, beq_iff_eq] at h; rw [AV.beqs_eq h.1.1, h.1.2, h.2]
  · simp only [Bool.and_eq_true, beq_iff_eq] at h; rw [AV.beqm_eq h.1, h.2]
  · rfl
  · simp only [Bool.and_eq_true, beq_iff_eq] at h; rw [h.1, h.2]
  · simp only [beq_iff_eq] at h; rw [h]
  · simp only [beq_iff_eq] at h; rw [h]
  · rfl
  · cases h

/-- beyond its size a heap is empty -/
def HF (h : Heap) : Prop := ∀ i, h.sz ≤ i → h.get i = none
def HMono (h h' : Heap) : Prop := h.sz ≤ h'.sz ∧ (HF h → HF h')
theorem HMono.refl (h : Heap) : HMono h h := ⟨Nat.le_refl _, id⟩
theorem HMono.trans {a b c : Heap} (h : HMono a b) (k : HMono b c) : HMono a c := ⟨Nat.le_trans h.1 k.1, fun x => k.2 (h.2 x)⟩
theorem HMono.alloc (h : Heap) (o : AObj) : HMono h (h.alloc o) := ⟨Nat.le_succ _, fun f i hi => by
  rw [Heap.get_alloc, if_neg (by simp at hi; omega)]
  exact f i (by simp at hi; omega)⟩
theorem HMono.set {h : Heap} {i : Nat} {x o : AObj} (e : h.get i = some x) : HMono h (h.set i o) := ⟨Nat.le_refl _, fun f j hj => by
  have hj' : h.sz ≤ j := hj
  rw [Heap.get_set, if_neg]
  · exact f j hj'
  · intro e'; subst e'; rw [f _ hj'] at e; cases e⟩
theorem HMono.storeN {h h' : Heap} {i k : Nat} {vs : List AV} (e : h.storeN i k vs = some h') : HMono h h' := by
  unfold Heap.storeN at e
  split at e
  · rename_i hg
    cases hb : (Nat.ble (k + vs.length) _ && vs.all AV.one) with
    | false => rw [hb] at e; cases e
    | true => rw [hb] at e; cases e; exact .set hg
  · cases e
theorem appendG_mono {h h' : Heap} {e : TypeId} {es bytes : Nat} {s v : AV} {new : List AV} {n : Nat} (hm : appendG h e es bytes s new n = some (v, h')) : HMono h h' := by
    unfold appendG at hm
    split at hm
    · cases hn : n.beq 0 with
      | true => rw [hn] at hm; cases hm; exact .refl _
      | false =>
        rw [hn] at hm
        simp only [cond_false] at hm
        cases hb : ((n * bytes).ble most && Nat.ble 1 bytes) with
        | false => rw [hb] at hm; cases hm
        | true => rw [hb] at hm; cases hm; exact .alloc _ _
    · rename_i i k len cap ex es'
      cases hes : es.beq es' with
      | false => rw [hes] at hm; cases hm
      | true =>
        rw [hes] at hm
        simp only [cond_true] at hm
        cases hr : (len + n).ble cap with
        | true =>
          rw [hr] at hm
          simp only [cond_true] at hm
          split at hm
          · rename_i hst; cases hm; exact .storeN hst
          · cases hm
        | false =>
          rw [hr] at hm
          simp only [cond_false] at hm
          cases hb : (((len + n) * bytes).ble most && Nat.ble 1 bytes) with
          | false => rw [hb] at hm; cases hm
          | true =>
            rw [hb] at hm
            simp only [cond_true] at hm
            split at hm
            · cases hm
            · rename_i old _
              cases ex with
              | true => simp only [cond_true] at hm; cases hm; exact .alloc _ _
              | false =>
                simp only [cond_false] at hm
                split at hm
                · rename_i c _ hg
                  cases hb3 : (Nat.beq (k + cap * es) c.length && Nat.beq len cap && new.all AV.one) with
                  | false => rw [hb3] at hm; cases hm
                  | true => rw [hb3] at hm; cases hm; exact (HMono.set hg).trans (.alloc _ _)
                · cases hm
    · cases hm
theorem appendA_mono {h h' : Heap} {e : TypeId} {es bytes : Nat} {s x v : AV} (hm : appendA h e es bytes s x = some (v, h')) : HMono h h' := by
  unfold appendA at hm
  split at hm
  · cases hm
  · exact appendG_mono hm
theorem appendZ_mono {h h' : Heap} {e : TypeId} {es bytes : Nat} {z : List AV} {s x v : AV} (hm : Ab.appendZ h e es bytes z s x = some (v, h')) : HMono h h' := by
  unfold Ab.appendZ at hm
  split at hm
  · rename_i k n
    cases hb : decide (n < 0) with
    | true => rw [hb] at hm; cases hm
    | false =>
      rw [hb] at hm
      simp only [cond_false] at hm
      cases hb2 : (Nat.ble (n.toNat * bytes) most && Nat.ble 1 bytes) with
      | false => rw [hb2] at hm; cases hm
      | true => rw [hb2] at hm; exact appendG_mono hm
  · cases hm
theorem opA_mono {m : MOp} {env : Env} {h h' : Heap} {v : AV} (hm : opA m env h = some (v, h')) : HMono h h' := by
  by_cases h0 : m.cls = 0
  · rw [(pure_any h0 hm).1]; exact .refl _
  by_cases h1 : m.cls = 1
  · rw [(read_any h1 hm).1]; exact .refl _
  by_cases h2 : m.cls = 2
  · obtain ⟨obj, rfl, _⟩ := alloc_any h2 hm; exact .alloc _ _
  cases m <;> simp only [MOp.cls, not_true_eq_false, Nat.reduceEqDiff, not_false_eq_true] at h0 h1 h2 <;> simp only [opA] at hm
  case store n a x =>
    split at hm
    · cases hb : (x.ev env).cells.length.beq n with
      | false => rw [hb] at hm; cases hm
      | true =>
        rw [hb] at hm
        simp only [cond_true] at hm
        split at hm
        · rename_i hst; cases hm; exact .storeN hst
        · cases hm
    · cases hm
  case mapupd kk m k x =>
    cases hk : keyOk kk (k.ev env) with
    | false => rw [hk] at hm; cases hm
    | true =>
      rw [hk] at hm
      simp only [Bool.not_true, cond_false] at hm
      split at hm
      · split at hm
        · rename_i hg
          split at hm
          · cases hm; exact .set hg
          · cases hm; exact .set hg
          · cases hm
        · cases hm
      · cases hm
  case append => exact appendA_mono hm
  case appendZ => exact appendZ_mono hm
  case copy es d s =>
    split at hm
    · rename_i i k len _ _ es' _
      cases hb : es.beq es' with
      | false => rw [hb] at hm; cases hm
      | true =>
        rw [hb] at hm
        simp only [cond_true] at hm
        split at hm
        · cases hm
        · split at hm
          · rename_i hst; cases hm; exact .storeN hst
          · cases hm
    · split at hm
      · cases hm; exact .refl _
      · cases hm
    · cases hm
  case clearM x =>
    split at hm
    · split at hm
      · rename_i hg; cases hm; exact .set hg
      · cases hm
    · cases hm; exact .refl _
    · cases hm
  case clearL es z x =>
    split at hm
    · cases hm; exact .refl _
    · rename_i i k len _ _ es' _
      cases hb : es.beq es' with
      | false => rw [hb] at hm; cases hm
      | true =>
        rw [hb] at hm
        simp only [cond_true] at hm
        split at hm
        · rename_i hst; cases hm; exact .storeN hst
        · cases hm
    · cases hm
  case bad => cases hm
  case call => cases hm
  case rangeS x =>
    split at hm
    · cases hm; exact .alloc _ _
    · cases hm
  case rangeM x =>
    split at hm
    · split at hm
      · cases hm; exact .alloc _ _
      · cases hm
    · cases hm
  case nextS x =>
    split at hm
    · split at hm
      · rename_i hg
        split at hm
        · rename_i c _
          cases hb : Nat.blt c.toNat 128 with
          | false => rw [hb] at hm; cases hm
          | true => rw [hb] at hm; cases hm; exact .set hg
        · cases hm; exact .refl _
      · cases hm
    · cases hm
  case nextM x =>
    split at hm
    · split at hm
      · split at hm
        · cases hm; exact .refl _
        · cases hm
      · cases hm
    · cases hm

section
variable {P : Program} {nt : Nat}
def CallOK (P : Program) (f : FuncId) : Prop := ∃ fn, P.funcs[f]? = some fn ∧ (fn.name == "runtime.NumGoroutine") = false ∧ fn.body.isNone = false
def Lands (ρ : Rn) (h : Heap) (w : World) (v : AV) (h' : Heap) (e : Ending) (w' : World) : Prop := ∃ u ρ', e = .returned u ∧ VR ρ' v u ∧ Sim ρ h w ρ' h' w'
structure SoundC (P : Program) (call : CallF) : Prop where
  mono : ∀ f args h v h', call f args h = some (v, h') → HMono h h'
  ok : ∀ f args h v h', call f args h = some (v, h') → CallOK P f
  sound : ∀ f args h v h', call f args h = some (v, h') → ∀ ρ w (args' : Array Value), Match ρ h w → Free ρ h.sz h'.sz → VRs ρ args args'.toList → Calls P f args' w (Lands ρ h w v h')

theorem stepA_mono {call : CallF} (hc : SoundC P call) {m : MOper} {env : Env} {h h' : Heap} {v : AV} (hs : stepA call m env h = some (v, h')) : HMono h h' := by
  unfold stepA at hs
  split at hs
  · cases hs
  · cases hs; exact .refl _
  · split at hs
    · split at hs
      · exact hc.mono _ _ _ _ _ hs
      · cases hs
    · exact opA_mono hs

theorem compOper_spec {ops : Array Oper} {o : Oper} {m : MOper} (h : compOper P nt ops o = some m) :
    m.dst = o.dst ∧ (∀ d, o.dst = some d → d < nt) ∧ m.op = comp P nt o.op ∧
      match o.guard with
      | none => m.guard = none
      | some (j, want) => ∃ t, (ops[j]?).bind (·.dst) = some t ∧ t < nt ∧ m.guard = some (t, want) := by
  unfold compOper at h
  split at h
  · rename_i dst guard h1 h2
    cases h
    refine ⟨?_, ?_, rfl, ?_⟩
    · split at h1
      · rename_i e; cases h1; rw [e]
      · rename_i d e
        cases hb : Nat.blt d nt with
        | false => rw [hb] at h1; cases h1
        | true => rw [hb] at h1; cases h1; rw [e]
    · intro d e
      rw [e] at h1
      simp only at h1
      cases hb : Nat.blt d nt with
      | false => rw [hb] at h1; cases h1
      | true => exact Nat.le_of_ble_eq_true hb
    · split at h2
      · rename_i e; cases h2; rw [e]
      · rename_i j want e
        rw [e]
        simp only
        split at h2
        · rename_i t ht
          cases hb : Nat.blt t nt with
          | false => rw [hb] at h2; cases h2
          | true => rw [hb] at h2; cases h2; exact ⟨t, ht, Nat.le_of_ble_eq_true hb, rfl⟩
        · cases h2
  · cases h

theorem ev_tmp {ρ : Rn} {env : Env} {a : Act} (he : EnvR ρ env a nt) {t : Nat} (h : t < nt) : ∃ u, a.tmps[t]? = some u ∧ VR ρ ((Opd.t t).ev env) u := by
  have : t < a.tmps.size := by rw [he.size]; exact h
  exact ⟨a.tmps[t], Array.getElem?_eq_getElem this, he.rel t _ (Array.getElem?_eq_getElem this)⟩

theorem wanted_rel {ρ : Rn} {env : Env} {a : Act} (he : EnvR ρ env a nt) {ops : Array Oper} {o : Oper} {m : MOper} (hc : compOper P nt ops o = some m) {r : Bool} (h : wantedA m env = some r) :
    Region.wanted o (yielded ops a.tmps) = r := by
  obtain ⟨_, _, _, hg⟩ := compOper_spec hc
  unfold wantedA at h
  unfold Region.wanted
  split at hg
  · rename_i e
    rw [hg] at h
    rw [e]
    cases h
    rfl
  · rename_i j want e
    obtain ⟨t, h1, h2, h3⟩ := hg
    rw [h3] at h
    rw [e]
    simp only at h ⊢
    obtain ⟨u, hu, ru⟩ := ev_tmp he h2
    unfold yielded
    rw [h1]
    simp only [Option.bind_some, hu]
    split at h
    · rename_i b hb
      rw [hb] at ru
      simp only [VR] at ru
      subst ru
      cases h
      cases b <;> cases want <;> rfl
    · rename_i vs hb
      rw [hb] at ru
      simp only [VR] at ru
      obtain ⟨_, rfl, _⟩ := ru
      cases h
      rfl
    · cases h

theorem EnvR.put {ρ ρ' : Rn} {env : Env} {a : Act} (he : EnvR ρ env a nt) (hle : ρ.le ρ') {v : AV} {u : Value} (hr : VR ρ' v u) (dst : Option Nat) : EnvR ρ' (putA env dst v) (a.put dst u) nt := by
  cases dst with
  | none => exact he.mono hle
  | some d =>
    refine ⟨by simp [Act.put, he.size], fun t u' ht => ?_⟩
    simp only [Act.put, Array.getElem?_setIfInBounds] at ht
    simp only [putA, Opd.ev, Tr.get_set]
    by_cases e : d = t
    · subst e
      rw [if_pos rfl] at ht
      rw [if_pos rfl]
      split at ht
      · cases ht; exact hr
      · cases ht
    · rw [if_neg e] at ht
      rw [if_neg (Ne.symm e)]
      exact (he.rel t u' ht).mono hle

theorem compB_call {b : Builtin} {ts : List TypeId} {ys : List Opd} {f : Opd} {xs : List Opd} (h : compB P b ts ys = some (.call f xs)) : False := by
  unfold compB at h
  split at h
  · split at h <;> simp at h
  · split at h <;> simp at h
  · simp at h
  · simp at h
  · split at h
    · simp only [Option.bind_eq_bind, Option.bind_eq_some_iff] at h
      obtain ⟨i, hi, z, hz, h⟩ := h
      revert h
      cases (z.cells.length.beq i.size && Nat.blt 0 i.size)
      · simp
      · simp only [cond_true]
        split <;> simp
    · simp at h
  · split at h
    · simp [Option.bind_eq_some_iff] at h
    · simp at h
  · split at h
    · simp at h
    · simp only [Option.bind_eq_bind, Option.bind_eq_some_iff] at h
      obtain ⟨z, hz, n, hn, h⟩ := h
      cases hb : (z.cells.length.beq n && Nat.blt 0 n) <;> rw [hb] at h <;> simp at h
    · simp at h
  · simp at h

theorem compO_call {op : Op} {f : Opd} {xs : List Opd} (h : compO P nt op = some (.call f xs)) :
    ∃ (f' : Operand) (args : Array Operand) (ts : Array TypeId), op = .call { callee := .value f', args, argTypes := ts } ∧ copd nt f' = some f ∧ copds nt args.toList = some xs := by
  unfold compO at h
  split at h
  all_goals try simp only [Option.bind_eq_bind, Option.bind_eq_some_iff, Option.some.injEq, reduceCtorEq, and_false, exists_false, MOp.call.injEq] at h
  · obtain ⟨z, hz, h⟩ := h
    split at h <;> simp [Option.bind_eq_some_iff] at h
  · split at h
    · simp only [Option.bind_eq_some_iff] at h
      obtain ⟨n, hn, z, hz, qs, hq, h⟩ := h
      revert h
      cases (z.cells.length.beq n && Nat.blt 0 n && Nat.ble (_ * n) 16777216) <;> simp
    · simp at h
  · obtain ⟨x, hx, y, hy, h⟩ := h
    split at h <;> simp [Option.bind_eq_some_iff] at h
  · obtain ⟨x, hx, h⟩ := h
    split at h
    · simp at h
    · split at h <;> simp at h
    · split at h <;> simp at h
    · simp at h
  · split at h
    · simp only [Option.bind_eq_some_iff] at h
      obtain ⟨i, hi, z, hz, l, hl, c, hc, h⟩ := h
      revert h
      cases (z.cells.length.beq i.size && Nat.blt 0 i.size) <;> simp
    · simp at h
  · obtain ⟨x, hx, lo, hl, hi, hh, mx, hm, h⟩ := h
    split at h
    · split at h <;> simp at h
    · simp only [Option.bind_eq_some_iff] at h
      obtain ⟨n, hn, h⟩ := h
      revert h
      cases (!mx.isSome || hi.isSome) <;> simp
    · simp only [Option.bind_eq_some_iff] at h
      obtain ⟨n, hn, h⟩ := h
      revert h
      cases (!mx.isSome || hi.isSome) <;> simp
    · simp at h
  · obtain ⟨x, hx, h⟩ := h
    split at h
    · simp only [Option.bind_eq_some_iff] at h
      obtain ⟨f, hf, n, hn, h⟩ := h
      revert h
      cases n.beq 0 <;> simp
    · simp at h
  · obtain ⟨x, hx, h⟩ := h
    split at h <;> simp [Option.bind_eq_some_iff] at h
  · obtain ⟨x, hx, i, hi, h⟩ := h
    split at h <;> simp [Option.bind_eq_some_iff] at h
  · obtain ⟨x, hx, i, hi, h⟩ := h
    split at h <;> simp [Option.bind_eq_some_iff] at h
  · obtain ⟨x, hx, i, hi, h⟩ := h
    split at h <;> simp [Option.bind_eq_some_iff] at h
  · obtain ⟨x, hx, i, hi, y, hy, h⟩ := h
    split at h <;> simp [Option.bind_eq_some_iff] at h
  · obtain ⟨x, hx, h⟩ := h
    split at h <;> simp at h
  · obtain ⟨x, hx, h⟩ := h
    split at h <;> simp at h
  · obtain ⟨f', hf, xs', hxs, rfl, rfl⟩ := h
    exact ⟨_, _, _, rfl, hf, hxs⟩
  · obtain ⟨ys, hy, h⟩ := h
    exact (compB_call h).elim

/-- a fence that lets all in -/
structure Wd (F : Fence) : Prop where
  fn : ∀ f, F.fn f
  dep : F.depth = none
  al : F.alive = false
theorem Wd.wide : Wd Fence.wide := ⟨fun _ => trivial, rfl, rfl⟩
theorem Wd.round {F : Fence} (h : Wd F) (l : Nat) : Wd (F.inRound l) := ⟨h.fn, h.dep, h.al⟩
theorem Wd.room {F : Fence} (h : Wd F) (k : Nat) : F.room k := fun d hd => by rw [h.dep] at hd; cases hd
theorem Wd.fenced {F : Fence} (h : Wd F) (P : Program) : Machine.fenced P F = Machine.fenced P Fence.wide :=
  funext fun m => propext ⟨fun _ => fenced_wide P m, fun _ _ _ => ⟨fun e => (by rw [h.al] at e; cases e), .inl (h.fn _), fun _ _ => h.fn _, h.room _⟩⟩
theorem Wd.calls {F : Fence} (h : Wd F) {n : Nat} {f : FuncId} {args : Array Value} {w : World} {R : Ending → World → Prop} (c : Calls P f args w R) : CallsIn F n P f args w R := by
  have c' := (callsIn_wide (n := n)).2 c
  refine ⟨h.fn _, fun cs _ => ?_⟩
  rw [h.fenced]
  exact c'.2 cs (Wd.wide.room _)
theorem Wd.rounds {F G : Fence} (h : Wd F) (g : Wd G) {n m l : Nat} {f : FuncId} {tmps : Array Value} {as body : Code} {w : World} {R : Ending → World → Prop} (c : RoundIn F n P l f tmps as body w R) :
    RoundIn G m P l f tmps as body w R := by
  refine ⟨g.fn _, fun x cs _ => ?_⟩
  rw [g.fenced, ← h.fenced]
  exact c.2 x cs (h.room _)

/-- what simulation keeps -/
def Stable (I : Rn → Heap → World → Prop) : Prop := ∀ ρ h w ρ' h' w', I ρ h w → Sim ρ h w ρ' h' w' → I ρ' h' w'
def YMono (yl : YF) : Prop := ∀ i args h v h', yl i args h = some (v, h') → HMono h h'
structure SoundY (P : Program) (I : Rn → Heap → World → Prop) (yl : YF) : Prop where
  mono : YMono yl
  sound : ∀ i args h v h', yl i args h = some (v, h') → ∀ ρ w (args' : Array Value), I ρ h w → Match ρ h w → Free ρ h.sz h'.sz → VRs ρ args args'.toList → ∀ b o n, ρ i = some (b, o, n) →
    ∃ f tmps as body, (Instr.yield b args').run P w = .ok (.round b f tmps as body) w ∧ RoundIn Fence.wide 0 P b f tmps as body w (Lands ρ h w v h')
theorem noY_mono : YMono noY := fun _ _ _ _ _ h => by cases h
theorem noY_sound (I : Rn → Heap → World → Prop) : SoundY P I noY := ⟨noY_mono, fun _ _ _ _ _ h => by cases h⟩
theorem stepY_noY (call : CallF) (o : MOper) (env : Env) (h : Heap) : stepY call noY o env h = stepA call o env h := by
  unfold stepY stepA
  split
  · rfl
  · rfl
  · split
    · split
      · rename_i e; rw [e]
      · rename_i i e; rw [e]; rfl
      · rename_i h1 h2
        split
        · rename_i e; exact (h1 _ _ _ e).elim
        · rfl
    · rfl
structure SoundF (P : Program) (cy : YF → CallF) : Prop where
  mono : ∀ yl, YMono yl → ∀ f args h v h', cy yl f args h = some (v, h') → HMono h h'
  ok : ∀ yl f args h v h', cy yl f args h = some (v, h') → CallOK P f
  sound : ∀ I yl, Stable I → SoundY P I yl → ∀ f args h v h', cy yl f args h = some (v, h') → ∀ ρ w (args' : Array Value), I ρ h w → Match ρ h w → Free ρ h.sz h'.sz → VRs ρ args args'.toList → Calls P f args' w (Lands ρ h w v h')
def AnyI : Rn → Heap → World → Prop := fun _ _ _ => True
theorem anyI : Stable AnyI := fun _ _ _ _ _ _ _ _ => trivial
theorem SoundF.c {cy : YF → CallF} (h : SoundF P cy) : SoundC P (cy noY) :=
  ⟨h.mono noY noY_mono, h.ok noY, fun f args hp v h' hs ρ w args' mt fr ha => h.sound AnyI noY anyI (noY_sound _) f args hp v h' hs ρ w args' trivial mt fr ha⟩

theorem stepY_mono {call : CallF} {yl : YF} (hc : SoundC P call) (hy : YMono yl) {m : MOper} {env : Env} {h h' : Heap} {v : AV} (hs : stepY call yl m env h = some (v, h')) : HMono h h' := by
  unfold stepY at hs
  split at hs
  · cases hs
  · cases hs; exact .refl _
  · split at hs
    · split at hs
      · exact hc.mono _ _ _ _ _ hs
      · exact hy _ _ _ _ _ hs
      · cases hs
    · exact opA_mono hs

/-- One operation, whatever comes behind. -/
theorem stepY_sound {F : Fence} (hF : Wd F) {n : Nat} {call : CallF} {yl : YF} (hcall : SoundC P call) {I : Rn → Heap → World → Prop} (hyl : SoundY P I yl) {ops : Array Oper} {o : Oper} {m : MOper} (hc : compOper P nt ops o = some m)
    {env : Env} {h h' : Heap} {v : AV} (hs : stepY call yl m env h = some (v, h'))
    {ρ : Rn} {a : Act} {w : World} (he : EnvR ρ env a nt) (mt : Match ρ h w) (hi : I ρ h w) (fr : Free ρ h.sz h'.sz) {K : Act → World → Prop} {Q : Exit → Act → World → Prop}
    (hK : ∀ u w' ρ', VR ρ' v u → Sim ρ h w ρ' h' w' → (wantedA m env = some false ∨ m.op.cls ≤ 1 → w' = w ∧ ρ' = ρ) → K (a.put o.dst u) w') :
    if Region.wanted o (yielded ops a.tmps) then o.wpIn F n P a w K Q else (∀ f, o.about P w a.eval = some f → F.fn f) ∧ K (a.put o.dst undef) w := by
  have hcs := compOper_spec hc
  unfold stepY at hs
  split at hs
  · cases hs
  · rename_i hw
    rw [wanted_rel he hc hw]
    cases hs
    simp only [Bool.false_eq_true, if_false]
    exact ⟨fun _ _ => hF.fn _, hK undef w ρ (VR.undef ρ) (Sim.refl mt) fun _ => ⟨rfl, rfl⟩⟩
  · rename_i hw
    rw [wanted_rel he hc hw]
    simp only [if_true]
    refine ⟨fun _ _ => hF.fn _, ?_⟩
    split at hs
    · rename_i f args hop
      have hcomp : comp P nt o.op = .call f args := by rw [← hcs.2.2.1, hop]
      have hco : compO P nt o.op = some (.call f args) := by
        unfold comp at hcomp
        split at hcomp
        · rename_i m' hm'; rw [hm', hcomp]
        · cases hcomp
      obtain ⟨f', args', ts, hoc, hf', hxs⟩ := compO_call hco
      have hsem : o.semAt F.round a.eval = execOp a.eval o := Oper.semAt_eq _ _ _ (by rw [hoc]; simp)
      have rf := opd_rel he hf'
      have ra := opds_rel he hxs
      have hnk : ¬ (wantedA m env = some false ∨ m.op.cls ≤ 1) := by
        rintro (h | h)
        · rw [hw] at h; cases h
        · rw [hop] at h; simp [MOp.cls] at h
      rw [hsem]
      split at hs
      · rename_i g first cap hf
        rw [hf] at rf
        simp only [VR] at rf
        obtain ⟨fi, ca, ef, r1, r2⟩ := rf
        obtain ⟨fn, q1, q2, q3⟩ := hcall.ok _ _ _ _ _ hs
        have hex : (execOp a.eval o).run P w = .ok (.enter g (fi ++ args'.map a.eval ++ ca)) w := by
          simp only [execOp, hoc, resolve, ef, Deferred.ofValue, pure_bind, invoke, callFunc, Sem.run_bind, run_program, Result.andThen_ok, q1, q2, q3, Bool.false_eq_true, if_false, Sem.run_pure]
        rw [hex]
        refine ⟨fun e => (by rw [hF.dep] at e; cases e), (hF.calls (hcall.sound _ _ _ _ _ hs ρ w _ mt fr ?_)).mono ?_⟩
        · simpa using (r1.append ra).append r2
        · rintro e w' ⟨u, ρ', rfl, h2, h3⟩
          exact hK u w' ρ' h2 h3 fun e => (hnk e).elim
      · rename_i i hf
        rw [hf] at rf
        simp only [VR] at rf
        obtain ⟨b, o', n', e1, ef⟩ := rf
        obtain ⟨fy, ty, asy, by', q1, q2⟩ := hyl.sound _ _ _ _ _ hs ρ w (args'.map a.eval) hi mt fr (by simpa using ra) b o' n' e1
        have hex : (execOp a.eval o).run P w = .ok (.round b fy ty asy by') w := by
          simp only [execOp, hoc, resolve, ef, Deferred.ofValue, pure_bind, invoke]
          simpa using q1
        rw [hex]
        refine ⟨fun e => (by rw [hF.dep] at e; cases e), (Wd.wide.rounds hF q2).mono ?_⟩
        rintro e w' ⟨u, ρ', rfl, h2, h3⟩
        exact hK u w' ρ' h2 h3 fun e => (hnk e).elim
      · cases hs
    · rename_i hnc
      obtain ⟨u, w', ρ', h1, h2, h3, h4⟩ := comp_sound (P := P) (nt := nt) o.op env h v h' ρ a w (by rw [← hcs.2.2.1]; exact hs) he mt fr
      have hq : wantedA m env = some false ∨ m.op.cls ≤ 1 → w' = w ∧ ρ' = ρ := by
        rintro (h | h)
        · rw [hw] at h; cases h
        · exact h4 (by rw [← hcs.2.2.1]; exact h)
      have hnd : ∀ c, o.op ≠ .defer c := by
        intro c hc'
        have : comp P nt o.op = .bad := by rw [hc']; rfl
        rw [← hcs.2.2.1] at this
        rw [this] at hs
        simp [opA] at hs
      rw [Oper.semAt_eq _ _ _ hnd]
      rcases h1 with h1 | ⟨rfl, h1⟩
      · rw [h1 o rfl]
        exact hK u w' ρ' h2 h3 hq
      · rw [h1 o rfl]
        exact hK undef w' ρ' h2 h3 hq
end
end Go.Ab
