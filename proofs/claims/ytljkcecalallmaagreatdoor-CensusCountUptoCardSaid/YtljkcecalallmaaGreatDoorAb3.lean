/- From the model's operations to the mini-machine's. -/
import Derived.Test.YtljkcecalallmaaGreatDoorAb2
namespace Go.Ab
open Go

def copd (nt : Nat) : Operand → Option Opd
  | .tmp t => bif Nat.blt t nt then some (.t t) else none
  | .const v => (ofV v).map .c
  | .func f => some (.c (.fn f [] []))
  | .global _ => none
def copds (nt : Nat) : List Operand → Option (List Opd)
  | [] => some []
  | x :: xs => match copd nt x, copds nt xs with | some a, some as => some (a :: as) | _, _ => none
def copdo (nt : Nat) : Option Operand → Option (Option Opd)
  | none => some none
  | some x => (copd nt x).map some

def szO (P : Program) (t : TypeId) : Option Nat := (P.info? t).map (·.size)
/-- some (some n): an aggregate of n cells; some none: one cell -/
def aggO (P : Program) (t : TypeId) : Option (Option Nat) :=
  match P.underlying t with
  | some (.struct _) | some (.array _ _) => (szO P t).map some
  | some _ => some none
  | none => none
def zeroO (P : Program) (t : TypeId) : Option AV := do ofV (← (← P.info? t).zero)

/-- types whose '==' is that of rows of scalars -/
def scalarK (P : Program) (t : TypeId) : Option Nat :=
  match P.underlying t with
  | some (.int _) => some 0
  | some .string => some 1
  | some .bool => some 2
  | _ => none
def flatFields (P : Program) : Nat → List Field → Option (List Nat)
  | _, [] => some []
  | k, f :: fs =>
    bif f.offset == k && f.name != "_" then
      match scalarK P f.type, szO P f.type, flatFields P (k + 1) fs with
      | some q, some 1, some r => some (q :: r)
      | _, _, _ => none
    else none
def eqT (P : Program) (t : TypeId) : Option EK :=
  match P.underlying t with
  | some (.int _) | some .string => some .none
  | some .bool => some .bool
  | some (.pointer _) => some .ptr
  | some (.slice _) => some .slice
  | some (.map _ _) => some .map
  | some (.func _ _ _) => some .func
  | some (.struct fs) => bif !P.eqGuardType P.depth t && !P.stoodInHeld t then (flatFields P 0 fs.toList).map .row else none
  | some (.array n e) => bif !P.eqGuardType P.depth t then
      match scalarK P e, szO P e with
      | some q, some 1 => some (.row (List.replicate n q))
      | _, _ => none
    else none
  | _ => none

def partsO (nt : Nat) (place : Nat → Option (Nat × Nat)) : List (Nat × Operand) → Option (List (Nat × Nat × Opd))
  | [] => some []
  | (i, x) :: ps => match place i, copd nt x, partsO nt place ps with
    | some (off, size), some x, some ps => some ((off, size, x) :: ps)
    | _, _, _ => none
def fieldsO (P : Program) : List Field → Option (List (Nat × Nat))
  | [] => some []
  | f :: fs => match szO P f.type, fieldsO P fs with | some n, some r => some ((f.offset, n) :: r) | _, _ => none

def keyKind (P : Program) (t : TypeId) : Option Nat :=
  match P.underlying t with
  | some (.int _) => some 0
  | some .string => some 1
  | _ => none

def compB (P : Program) (b : Builtin) (argTypes : List TypeId) (args : List Opd) : Option MOp :=
  match b, argTypes, args with
  | .len, t :: _, x :: _ =>
    match P.underlying t with
    | some .string => some (.lenS x)
    | some (.slice _) => some (.lenL x)
    | some (.map _ _) => some (.lenM x)
    | some (.array n _) => some (.mv (.c (i64v n)))
    | _ => none
  | .cap, t :: _, x :: _ =>
    match P.underlying t with
    | some (.slice _) => some (.cap x)
    | _ => none
  | .min, _, [x, y] => some (.mn x y)
  | .max, _, [x, y] => some (.mx x y)
  | .append, s :: t :: _, x :: y :: _ =>
    match P.underlying s, P.underlying t with
    | some (.slice e), some d => do
        let i ← P.info? e
        let z ← zeroO P e
        bif z.cells.length.beq i.size && Nat.blt 0 i.size then (match d with
          | .int _ => some (.appendZ e i.size i.bytes z.cells x y)
          | _ => some (.append e i.size i.bytes z.cells x y)) else none
    | _, _ => none
  | .copy, s :: _, x :: y :: _ =>
    match P.underlying s with
    | some (.slice e) => do some (.copy (← szO P e) x y)
    | _ => none
  | .clear, t :: _, x :: _ =>
    match P.underlying t with
    | some (.map _ _) => some (.clearM x)
    | some (.slice e) => do
      let z ← zeroO P e
      let n ← szO P e
      bif z.cells.length.beq n && Nat.blt 0 n then some (.clearL n z.cells x) else none
    | _ => none
  | _, _, _ => none

def compO (P : Program) (nt : Nat) : Op → Option MOp
  | .move x => do some (.mv (← copd nt x))
  | .assign x => do some (.mv (← copd nt x))
  | .pick c a b => do some (.pick (← copd nt c) (← copd nt a) (← copd nt b))
  | .alloc t => do some (.alloc t (← zeroO P t).cells)
  | .box t x => do some (.box t (← copd nt x))
  | .build t parts => do
    let z ← zeroO P t
    match P.underlying t with
    | some (.struct fs) => do
      let pl ← fieldsO P fs.toList
      some (.build z.cells (← partsO nt (fun i => pl[i]?) parts.toList))
    | some (.array _ e) => do
      let n ← szO P e
      some (.build z.cells (← partsO nt (fun i => some (i * n, n)) parts.toList))
    | _ => none
  | .buildSlice t len parts =>
    match P.underlying t with
    | some (.slice e) => do
      let n ← szO P e
      let z ← zeroO P e
      let ps ← partsO nt (fun i => some (i * n, n)) parts.toList
      bif z.cells.length.beq n && Nat.blt 0 n && Nat.ble (len * n) 16777216 then some (.bslice e n len z.cells ps) else none
    | _ => none
  | .load t a => do some (.load (← aggO P t) (← copd nt a))
  | .store t a v => do some (.store (← szO P t) (← copd nt a) (← copd nt v))
  | .nilCheck x => do some (.nilck (← copd nt x))
  | .binOp op t x y _ => do
    let x ← copd nt x
    let y ← copd nt y
    match op with
    | .eql | .neq => do some (.bin op (← eqT P t) x y)
    | _ => some (.bin op .none x y)
  | .unOp .not _ x => do some (.not (← copd nt x))
  | .convert s d x => do
    let x ← copd nt x
    match P.underlying s, P.underlying d with
    | some (.int _), some (.int k) => some (.convI k x)
    | some .string, some (.slice e) => (match P.underlying e with | some (.int .u8) => some (.s2b e x) | _ => none)
    | some (.slice e), some .string => (match P.underlying e with | some (.int .u8) => some (.b2s x) | _ => none)
    | _, _ => none
  | .makeFunc (.func f) a b => do some (.mkfn f (← copds nt a.toList) (← copds nt b.toList))
  | .makeMap _ none => some .mkmap
  | .makeSlice t l c =>
    match P.underlying t with
    | some (.slice e) => do
      let i ← P.info? e
      let z ← zeroO P e
      let l ← copd nt l
      let c ← copd nt c
      bif z.cells.length.beq i.size && Nat.blt 0 i.size then some (.mkslice e i.size i.bytes z.cells l c) else none
    | _ => none
  | .slice t x lo hi mx => do
    let x ← copd nt x
    let lo ← copdo nt lo
    let hi ← copdo nt hi
    let mx ← copdo nt mx
    match P.underlying t with
    | some .string => (match mx with | none => some (.slstr x lo hi) | some _ => none)
    | some (.slice e) => do
      let n ← szO P e
      bif !mx.isSome || hi.isSome then some (.slice n x lo hi mx) else none
    | some (.array l e) => do
      let n ← szO P e
      bif !mx.isSome || hi.isSome then some (.slarr l n x lo hi mx) else none
    | _ => none
  | .fieldAddr s x f => do
    let x ← copd nt x
    match P.underlying s with
    | some (.struct fs) => do
      let f ← fs[f]?
      let n ← szO P f.type
      bif n.beq 0 then none else some (.faddr f.offset x)
    | _ => none
  | .field t x f => do
    let x ← copd nt x
    match P.underlying t with
    | some (.struct fs) => do
      let f ← fs[f]?
      some (.fld f.offset (← aggO P f.type) x)
    | _ => none
  | .indexAddr t x i => do
    let x ← copd nt x
    let i ← copd nt i
    match P.underlying t with
    | some (.array len e) => do some (.iaddrA len (← szO P e) x i)
    | some (.slice e) => do some (.iaddrS (← szO P e) x i)
    | _ => none
  | .index t x i => do
    let x ← copd nt x
    let i ← copd nt i
    match P.underlying t with
    | some (.array len e) => do some (.idxA len (← szO P e) (← aggO P e) x i)
    | some .string => some (.idxS x i)
    | _ => none
  | .lookup t x i ok => do
    let x ← copd nt x
    let i ← copd nt i
    match P.underlying t with
    | some (.map k e) => do some (.lookup (← keyKind P k) (← zeroO P e) ok x i)
    | _ => none
  | .mapUpdate t m k v => do
    let m ← copd nt m
    let k' ← copd nt k
    let v ← copd nt v
    match P.underlying t with
    | some (.map k _) => do some (.mapupd (← keyKind P k) m k' v)
    | _ => none
  | .extract x i => do some (.extract (← copd nt x) i)
  | .range t x => do
    let x ← copd nt x
    match P.underlying t with
    | some .string => some (.rangeS x)
    | some (.map _ _) => some (.rangeM x)
    | _ => none
  | .next x b => do
    let x ← copd nt x
    match b with
    | true => some (.nextS x)
    | false => some (.nextM x)
  | .call { callee := .value f, args, .. } => do some (.call (← copd nt f) (← copds nt args.toList))
  | .call { callee := .builtin b, args, argTypes } => do compB P b argTypes.toList (← copds nt args.toList)
  | _ => none
def comp (P : Program) (nt : Nat) (op : Op) : MOp := match compO P nt op with | some m => m | none => .bad

structure EnvR (ρ : Rn) (env : Env) (a : Act) (nt : Nat) : Prop where
  size : a.tmps.size = nt
  rel : ∀ t v, a.tmps[t]? = some v → VR ρ ((Opd.t t).ev env) v
theorem EnvR.mono {ρ ρ' : Rn} {env : Env} {a : Act} {nt : Nat} (h : ρ.le ρ') (e : EnvR ρ env a nt) : EnvR ρ' env a nt := ⟨e.size, fun t v h1 => (e.rel t v h1).mono h⟩

theorem opd_rel {ρ : Rn} {env : Env} {a : Act} {nt : Nat} (he : EnvR ρ env a nt) {x : Operand} {y : Opd} (h : copd nt x = some y) : VR ρ (y.ev env) (a.eval x) := by
  cases x with
  | tmp t =>
    simp only [copd] at h
    cases hb : Nat.blt t nt with
    | false => rw [hb] at h; cases h
    | true =>
      rw [hb] at h
      simp only [cond_true, Option.some.injEq] at h
      subst h
      have hlt : t < a.tmps.size := by rw [he.size]; exact Nat.le_of_ble_eq_true hb
      have := he.rel t a.tmps[t] (Array.getElem?_eq_getElem hlt)
      simpa [Act.eval, hlt] using this
  | const v =>
    simp only [copd] at h
    cases e : ofV v with
    | none => rw [e] at h; cases h
    | some u => rw [e] at h; cases h; exact VR.ofV ρ e
  | func f =>
    simp only [copd, Option.some.injEq] at h
    subst h
    exact ⟨#[], #[], rfl, VRs.nil, VRs.nil⟩
  | global g => simp [copd] at h
theorem opds_rel {ρ : Rn} {env : Env} {a : Act} {nt : Nat} (he : EnvR ρ env a nt) : ∀ {xs : List Operand} {ys : List Opd}, copds nt xs = some ys → VRs ρ (ys.map (·.ev env)) (xs.map a.eval)
  | [], ys, h => by simp only [copds, Option.some.injEq] at h; subst h; exact VRs.nil
  | x :: xs, ys, h => by
    simp only [copds] at h
    split at h
    · rename_i y ys' h1 h2
      simp only [Option.some.injEq] at h
      subst h
      exact VRs.cons (opd_rel he h1) (opds_rel he h2)
    · cases h

/-- what the operation comes to in the model -/
def Comes1 (P : Program) (op : Op) (a : Act) (w : World) (u : Value) (w' : World) : Prop :=
  (∀ o : Oper, o.op = op → (execOp a.eval o).run P w = .ok (.value u) w') ∨ (u = undef ∧ ∀ o : Oper, o.op = op → (execOp a.eval o).run P w = .ok .skip w')

theorem noq {m : MOp} {A : Prop} (h : 2 ≤ m.cls) : m.cls ≤ 1 → A := fun k => absurd k (by omega)

def OpS (P : Program) (nt : Nat) (op : Op) (m : MOp) : Prop :=
  ∀ env h v h' ρ a w, opA m env h = some (v, h') → EnvR ρ env a nt → Match ρ h w → Free ρ h.sz h'.sz →
    ∃ u w' ρ', Comes1 P op a w u w' ∧ VR ρ' v u ∧ Sim ρ h w ρ' h' w' ∧ (m.cls ≤ 1 → w' = w ∧ ρ' = ρ)

theorem VR.undef (ρ : Rn) : VR ρ undefA undef := ⟨#[], rfl, VRs.nil⟩

theorem zeroO_spec {P : Program} {t : TypeId} {z : AV} (h : zeroO P t = some z) : ∃ i zv, P.info? t = some i ∧ i.zero = some zv ∧ ofV zv = some z := by
  unfold zeroO at h
  cases e : P.info? t with
  | none => rw [e] at h; cases h
  | some i =>
    rw [e] at h
    cases e2 : i.zero with
    | none => simp [e2] at h
    | some zv => simp [e2] at h; exact ⟨i, zv, rfl, e2, h⟩
theorem run_ti {P : Program} {t : TypeId} {i : TypeInfo} (h : P.info? t = some i) (w : World) : (typeInfo t).run P w = .ok i w := by
  simp [typeInfo, h]
theorem run_ul {P : Program} {t : TypeId} {d : TypeDesc} (h : P.underlying t = some d) (w : World) : (underlying t).run P w = .ok d w := by
  simp [underlying, h]
theorem run_zero {P : Program} {t : TypeId} {i : TypeInfo} {zv : Value} (h1 : P.info? t = some i) (h2 : i.zero = some zv) (w : World) : (zeroValue t).run P w = .ok zv w := by
  simp [zeroValue, run_ti h1, h2]
theorem szO_spec {P : Program} {t : TypeId} {n : Nat} (h : szO P t = some n) (w : World) : (sizeOf t).run P w = .ok n w := by
  unfold szO at h
  cases e : P.info? t with
  | none => rw [e] at h; cases h
  | some i => rw [e] at h; cases h; simp [sizeOf, run_ti e]

end Go.Ab
