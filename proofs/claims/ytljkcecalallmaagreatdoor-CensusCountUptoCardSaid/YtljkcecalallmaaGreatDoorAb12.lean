/- Runs of the mini-machine: regions, code, calls. -/
import Derived.Test.YtljkcecalallmaaGreatDoorAb11
namespace Go.Ab
open Go

def Opd.tmps : Opd → List Nat
  | .t n => [n]
  | .c _ => []
def optOpd : Option Opd → List Opd
  | some x => [x]
  | none => []
def MOp.opds : MOp → List Opd
  | .mv x | .box _ x | .load _ x | .nilck x | .not x | .convI _ x | .s2b _ x | .b2s x | .faddr _ x | .fld _ _ x | .extract x _ | .lenS x | .lenL x | .lenM x | .cap x | .clearM x | .clearL _ _ x | .rangeS x | .rangeM x | .nextS x | .nextM x => [x]
  | .pick c a b => [c, a, b]
  | .alloc _ _ | .mkmap | .bad => []
  | .build _ ps => ps.map (·.2.2)
  | .bslice _ _ _ _ ps => ps.map (·.2.2)
  | .store _ a v => [a, v]
  | .bin _ _ x y | .mkslice _ _ _ _ x y | .iaddrA _ _ x y | .iaddrS _ x y | .idxA _ _ _ x y | .idxS x y | .lookup _ _ _ x y | .mn x y | .mx x y | .append _ _ _ _ x y | .appendZ _ _ _ _ x y | .copy _ x y => [x, y]
  | .mkfn _ a b => a ++ b
  | .slice _ x lo hi top | .slarr _ _ x lo hi top => x :: (optOpd lo ++ optOpd hi ++ optOpd top)
  | .slstr x lo hi => x :: (optOpd lo ++ optOpd hi)
  | .mapupd _ a b c => [a, b, c]
  | .call f as => f :: as
def MOp.looks (m : MOp) : List Nat := m.opds.flatMap Opd.tmps

theorem opt_congr {env env' : Env} {x : Option Opd} (h : ∀ y ∈ optOpd x, y.ev env = y.ev env') : x.map (·.ev env) = x.map (·.ev env') := by
  cases x with
  | none => rfl
  | some y => simp [h y (by simp [optOpd])]
theorem parts_congr {env env' : Env} {ps : List (Nat × Nat × Opd)} (h : ∀ y ∈ ps.map (·.2.2), y.ev env = y.ev env') :
    (ps.map fun p => (p.1, p.2.1, p.2.2.ev env)) = ps.map fun p => (p.1, p.2.1, p.2.2.ev env') := by
  apply List.map_congr_left
  intro p hp
  rw [h p.2.2 (List.mem_map.2 ⟨p, hp, rfl⟩)]
theorem opA_congr {m : MOp} {env env' : Env} (he : ∀ y ∈ m.opds, y.ev env = y.ev env') (h : Heap) : opA m env h = opA m env' h := by
  cases m <;> simp only [MOp.opds, List.mem_cons, List.mem_append, List.not_mem_nil, or_false, forall_eq_or_imp, forall_eq] at he <;> simp only [opA]
  case build z ps => rw [parts_congr he]
  case bslice e es l z ps => rw [parts_congr he]
  case mkfn f a b =>
    rw [List.map_congr_left (fun y hy => he y (.inl hy)), List.map_congr_left (fun y hy => he y (.inr hy))]
  case slice es x lo hi mx =>
    rw [he.1, opt_congr (x := lo) fun y hy => he.2 y (.inl (.inl hy)), opt_congr (x := hi) fun y hy => he.2 y (.inl (.inr hy)), opt_congr (x := mx) fun y hy => he.2 y (.inr hy)]
  case slarr l es x lo hi mx =>
    rw [he.1, opt_congr (x := lo) fun y hy => he.2 y (.inl (.inl hy)), opt_congr (x := hi) fun y hy => he.2 y (.inl (.inr hy)), opt_congr (x := mx) fun y hy => he.2 y (.inr hy)]
  case slstr x lo hi =>
    rw [he.1, opt_congr (x := lo) fun y hy => he.2 y (.inl hy), opt_congr (x := hi) fun y hy => he.2 y (.inr hy)]
  all_goals first
    | rw [he]
    | rw [he.1, he.2]
    | rw [he.1, he.2.1, he.2.2]

theorem pure_any {m : MOp} (hc : m.cls = 0) {env : Env} {h h' : Heap} {v : AV} (hm : opA m env h = some (v, h')) : h' = h ∧ ∀ h2, opA m env h2 = some (v, h2) := by
  cases m <;> simp only [MOp.cls, Nat.succ_ne_zero] at hc <;> simp only [opA] at hm ⊢
  case iaddrA len es x i =>
    split at hm
    · rename_i b k n _ _
      cases hb : Nat.blt n len with
      | false => rw [hb] at hm; cases hm
      | true => rw [hb] at hm; cases hm; exact ⟨rfl, fun _ => rfl⟩
    · cases hm
  case iaddrS es x i =>
    split at hm
    · rename_i b k len _ _ es' n _ _
      cases hb : (Nat.blt n len && es.beq es') with
      | false => rw [hb] at hm; cases hm
      | true => rw [hb] at hm; cases hm; exact ⟨rfl, fun _ => rfl⟩
    · cases hm
  case idxA len es q x i =>
    split at hm
    · rename_i cs j _ _
      cases hb : Nat.blt j len with
      | false => rw [hb] at hm; cases hm
      | true =>
        rw [hb] at hm
        simp only [cond_true] at hm
        split at hm
        · rename_i hv; cases hm; exact ⟨rfl, fun _ => by simp only [cond_true]⟩
        · cases hm
    · cases hm
  case mn x y =>
    split at hm
    · split at hm
      · rename_i hk; cases hm; exact ⟨rfl, fun _ => by rw [if_pos hk]⟩
      · cases hm
    · cases hm
  case mx x y =>
    split at hm
    · split at hm
      · rename_i hk; cases hm; exact ⟨rfl, fun _ => by rw [if_pos hk]⟩
      · cases hm
    · cases hm
  all_goals first
    | (simp only [Option.some.injEq, Prod.mk.injEq] at hm ⊢; obtain ⟨rfl, rfl⟩ := hm; exact ⟨rfl, fun _ => ⟨rfl, rfl⟩⟩)
    | ((repeat' split at hm) <;> simp_all)
/-- the id that a reading operation looks at -/
def MOp.rd (m : MOp) (env : Env) : Option Nat :=
  match m with
  | .load _ x | .slarr _ _ x _ _ _ => match x.ev env with | .ptr i _ => some i | _ => none
  | .b2s x => match x.ev env with | .sl i _ _ _ _ _ => some i | _ => none
  | .lookup _ _ _ x _ | .lenM x => match x.ev env with | .mp i => some i | _ => none
  | _ => none
theorem loadN_get {h h2 : Heap} {i : Nat} (e : h2.get i = h.get i) (k n : Nat) : h2.loadN i k n = h.loadN i k n := by simp only [Heap.loadN, e]
theorem load1_get {h h2 : Heap} {i : Nat} (e : h2.get i = h.get i) (k : Nat) : h2.load1 i k = h.load1 i k := by simp only [Heap.load1, e]
theorem read_any {m : MOp} (hc : m.cls = 1) {env : Env} {h h' : Heap} {v : AV} (hm : opA m env h = some (v, h')) :
    h' = h ∧ ∀ h2, (∀ i, m.rd env = some i → h2.get i = h.get i) → opA m env h2 = some (v, h2) := by
  cases m <;> simp only [MOp.cls, reduceCtorEq, Nat.reduceEqDiff] at hc <;> simp only [opA, MOp.rd] at hm ⊢
  case load n x =>
    split at hm
    · rename_i i k hx
      rw [hx]
      cases n with
      | none =>
        simp only at hm ⊢
        split at hm
        · rename_i hl; cases hm; exact ⟨rfl, fun h2 h => by rw [load1_get (h i rfl), hl]⟩
        · cases hm
      | some n =>
        simp only at hm ⊢
        split at hm
        · rename_i hl; cases hm; exact ⟨rfl, fun h2 h => by rw [loadN_get (h i rfl), hl]⟩
        · cases hm
    · cases hm
  case b2s x =>
    split at hm
    · rename_i hx; cases hm; exact ⟨rfl, fun h2 _ => rfl⟩
    · rename_i i k len _ _ es hx
      rw [hx]
      cases hb : Nat.beq es 1 with
      | false => rw [hb] at hm; cases hm
      | true =>
        rw [hb] at hm
        simp only [cond_true] at hm ⊢
        split at hm
        · rename_i cs hl
          split at hm
          · rename_i l hl2; cases hm; exact ⟨rfl, fun h2 h => by rw [loadN_get (h i rfl), hl]; simp only [hl2]⟩
          · cases hm
        · cases hm
    · cases hm
  case lookup kk z ok x i =>
    cases hk : keyOk kk (i.ev env) with
    | false => rw [hk] at hm; cases hm
    | true =>
      rw [hk] at hm
      simp only [Bool.not_true, cond_false] at hm ⊢
      split at hm
      · rename_i hx; cases hm; exact ⟨rfl, fun h2 _ => rfl⟩
      · rename_i r hx
        rw [hx]
        split at hm
        · rename_i es cl hg
          split at hm
          · rename_i hf; cases hm; exact ⟨rfl, fun h2 h => by rw [h r rfl, hg]; simp only [hf]⟩
          · rename_i hf; cases hm; exact ⟨rfl, fun h2 h => by rw [h r rfl, hg]; simp only [hf]⟩
          · cases hm
        · cases hm
      · cases hm
  case lenM x =>
    split at hm
    · rename_i hx; cases hm; exact ⟨rfl, fun h2 _ => rfl⟩
    · rename_i r hx
      rw [hx]
      split at hm
      · rename_i es cl hg; cases hm; exact ⟨rfl, fun h2 h => by rw [h r rfl, hg]⟩
      · cases hm
    · cases hm
  case slarr l es x lo hi mx =>
    split at hm
    · rename_i i k hx
      rw [hx]
      split at hm
      · rename_i c E ro hg
        cases hb : Nat.ble (k + l * es) c.length with
        | false => rw [hb] at hm; cases hm
        | true =>
          rw [hb] at hm
          simp only [cond_true] at hm
          split at hm
          · rename_i v' hv; cases hm; exact ⟨rfl, fun h2 h => by rw [h i rfl, hg]; simp only [hb, cond_true]⟩
          · cases hm
      · cases hm
    · cases hm
theorem alloc_any {m : MOp} (hc : m.cls = 2) {env : Env} {h h' : Heap} {v : AV} (hm : opA m env h = some (v, h')) :
    ∃ obj, h' = h.alloc obj ∧ (∀ ρ u, VR ρ v u → ∃ x, ρ h.sz = some x) ∧ ∀ h2, h2.sz = h.sz → opA m env h2 = some (v, h2.alloc obj) := by
  cases m <;> simp only [MOp.cls, reduceCtorEq, Nat.reduceEqDiff] at hc <;> simp only [opA] at hm ⊢
  case alloc => cases hm; exact ⟨_, rfl, fun ρ u r => (by simp only [VR] at r; obtain ⟨b, o, n, h1, _⟩ := r; exact ⟨_, h1⟩), fun h2 e => by rw [e]⟩
  case box => cases hm; exact ⟨_, rfl, fun ρ u r => (by simp only [VR] at r; obtain ⟨b, o, n, h1, _⟩ := r; exact ⟨_, h1⟩), fun h2 e => by rw [e]⟩
  case mkmap => cases hm; exact ⟨_, rfl, fun ρ u r => (by simp only [VR] at r; obtain ⟨b, n, h1, _⟩ := r; exact ⟨_, h1⟩), fun h2 e => by rw [e]⟩
  case bslice =>
    split at hm
    · rename_i hf; cases hm; exact ⟨_, rfl, fun ρ u r => (by simp only [VR] at r; obtain ⟨b, o, n, _, _, h1, _⟩ := r; exact ⟨_, h1⟩), fun h2 e => by simp only [e]⟩
    · cases hm
  case s2b =>
    split at hm
    · rename_i hf; cases hm; exact ⟨_, rfl, fun ρ u r => (by simp only [VR] at r; obtain ⟨b, o, n, _, _, h1, _⟩ := r; exact ⟨_, h1⟩), fun h2 e => by simp only [e]⟩
    · cases hm
  case mkslice =>
    split at hm
    · rename_i l c hl hc'
      cases hb : (l.ble c && (c * _).ble most && Nat.ble 1 _) with
      | false => rw [hb] at hm; cases hm
      | true => rw [hb] at hm; cases hm; exact ⟨_, rfl, fun ρ u r => (by simp only [VR] at r; obtain ⟨b, o, n, _, _, h1, _⟩ := r; exact ⟨_, h1⟩), fun h2 e => by simp only [cond_true, e]⟩
    · cases hm
end Go.Ab
