/- For the kernel: runs, each handing on to what follows; equal to the machine. -/
import Derived.Test.YtljkcecalallmaaGreatDoorAb27
namespace Go.Ab
open Go

theorem onSl_cases (v : AV) : (∃ i k l c x s, v = .sl i k l c x s) ∨ (∀ {R : Type} (k : Nat → Nat → Nat → Nat → Bool → Nat → R) (e : R), v.onSl k e = e) := by
  cases v <;> first | exact .inl ⟨_, _, _, _, _, _, rfl⟩ | exact .inr fun _ _ => rfl
noncomputable def srcK (h : Heap) (es : Nat) (v : AV) (k : List AV → Nat → KR) : KR :=
  v.onSl (fun i kk len _ _ es' => bK (Nat.beq es es') (loadKN h i kk (Nat.mul len es) (fun cs => k cs len)) none) (optK (srcA h es v) (fun r => k r.1 r.2) none)
theorem srcK_eq (h : Heap) (es : Nat) (v : AV) (k : List AV → Nat → KR) : srcK h es v k = match srcA h es v with | some r => k r.1 r.2 | none => none := by
  rcases onSl_cases v with ⟨i, kk, len, cap, ex, es', rfl⟩ | hv
  rotate_left
  · unfold srcK; rw [hv, optK_eq]; cases srcA h es v <;> rfl
  show bK (Nat.beq es es') (loadKN h i kk (len * es) (fun cs => k cs len)) none = _
  rw [bK_eq, loadKN_eq]
  unfold srcA
  simp only
  cases Nat.beq es es' with
  | false => rfl
  | true => simp only [cond_true]; cases h.loadN i kk (len * es) <;> rfl
noncomputable def appendGK (h : Heap) (e : TypeId) (es bytes : Nat) (s : AV) (new : List AV) (n : Nat) (k : KV) : KR :=
  s.onSl (fun i kk len cap ex es' => bK (Nat.beq es es')
    (bK (Nat.ble (Nat.add len n) cap) (storeKN h i (Nat.add kk (Nat.mul len es)) new (k (.sl i kk (Nat.add len n) cap ex es)))
      (bK (Nat.ble (Nat.mul (Nat.add len n) bytes) most) (bK (Nat.ble 1 bytes)
        (loadKN h i kk (Nat.mul len es) (fun old => bK ex (k (.sl h.sz 0 (Nat.add len n) (Nat.add len n) false es) (halloc h (.cells (appK old new) e false)))
          (cellsAt h i (fun c _ ro => bK ro none (bK (Nat.beq (Nat.add kk (Nat.mul cap es)) (lenK c)) (bK (Nat.beq len cap) (bK (allK AV.one new)
            (k (.sl h.sz 0 (Nat.add len n) (Nat.add len n) false es) (halloc (hset h i .dead) (.cells (appK old new) e false))) none) none) none))))) none) none)) none)
    (optK (appendG h e es bytes s new n) (fun r => k r.1 r.2) none)
theorem appendGK_eq (h : Heap) (e : TypeId) (es bytes : Nat) (s : AV) (new : List AV) (n : Nat) (k : KV) : appendGK h e es bytes s new n k = thenK (appendG h e es bytes s new n) k := by
  rcases onSl_cases s with ⟨i, kk, len, cap, ex, es', rfl⟩ | hv
  rotate_left
  · unfold appendGK; rw [hv, optK_eq]; cases appendG h e es bytes s new n <;> rfl
  show bK (Nat.beq es es') (bK (Nat.ble (len + n) cap) (storeKN h i (kk + len * es) new (k (.sl i kk (len + n) cap ex es)))
      (bK (Nat.ble ((len + n) * bytes) most) (bK (Nat.ble 1 bytes)
        (loadKN h i kk (len * es) (fun old => bK ex (k (.sl h.sz 0 (len + n) (len + n) false es) (halloc h (.cells (appK old new) e false)))
          (cellsAt h i (fun c _ ro => bK ro none (bK (Nat.beq (kk + cap * es) (lenK c)) (bK (Nat.beq len cap) (bK (allK AV.one new)
            (k (.sl h.sz 0 (len + n) (len + n) false es) (halloc (hset h i .dead) (.cells (appK old new) e false))) none) none) none))))) none) none)) none = _
  simp only [bK_eq, storeKN_eq, loadKN_eq, cellsAt_eq, halloc_eq, hset_eq, appK_eq, lenK_eq, allK_eq, appendG, thenK]
  cases Nat.beq es es' with
  | false => rfl
  | true =>
    simp only [cond_true]
    cases Nat.ble (len + n) cap with
    | true => simp only [cond_true]; cases h.storeN i (kk + len * es) new <;> rfl
    | false =>
      simp only [cond_false]
      cases Nat.ble ((len + n) * bytes) most <;> cases Nat.ble 1 bytes <;> simp only [cond_true, cond_false, Bool.and_true, Bool.and_false]
      cases h.loadN i kk (len * es) with
      | none => rfl
      | some old =>
        simp only
        cases ex with
        | true => rfl
        | false =>
          simp only [cond_false]
          cases h.get i with
          | none => rfl
          | some o => cases o with
            | map => rfl
            | dead => rfl
            | iter => rfl
            | miter => rfl
            | mbox => rfl
            | cells c _ ro => cases ro with
              | true => rfl
              | false =>
                simp only [cond_false]
                cases Nat.beq (kk + cap * es) c.length <;> cases Nat.beq len cap <;> cases new.all AV.one <;> rfl

noncomputable def kMv (x : Opd) (env : Env) (h : Heap) (k : KV) : KR := k (evK x env) h
noncomputable def kPick (c a b : Opd) (env : Env) (h : Heap) (k : KV) : KR := (evK c env).onBool (fun t => bK t (k (evK a env) h) (k (evK b env) h)) none
noncomputable def kAlloc (e : TypeId) (z : List AV) (_env : Env) (h : Heap) (k : KV) : KR := k (.ptr h.sz 0) (halloc h (.cells z e false))
noncomputable def boxK (e : TypeId) (v : AV) : AObj :=
  AV.casesOn (motive_1 := fun _ => AObj) v (fun _ _ => .cells [v] e false) (fun _ => .cells [v] e false) (fun _ => .cells [v] e false) (fun _ => .cells [v] e false) (fun _ _ => .cells [v] e false) (fun _ _ _ _ _ _ => .cells [v] e false) (fun m => .mbox m) (fun _ _ _ => .cells [v] e false) (fun cs => .cells cs e false) (fun _ => .cells [v] e false) (fun _ => .cells [v] e false)
theorem boxK_eq (e : TypeId) (v : AV) : boxK e v = boxObj e v := by cases v <;> rfl
noncomputable def kBox (e : TypeId) (x : Opd) (env : Env) (h : Heap) (k : KV) : KR := k (.ptr h.sz 0) (halloc h (boxK e (evK x env)))
noncomputable def kBuild (z : List AV) (ps : List (Nat × Nat × Opd)) (env : Env) (h : Heap) (k : KV) : KR := fillK z ps env (fun cs => k (.agg cs) h)
noncomputable def kLoad (n : Option Nat) (x : Opd) (env : Env) (h : Heap) (k : KV) : KR :=
  (evK x env).onPtr (fun i kk => Option.rec (loadK1 h i kk (fun v => k v h)) (fun n => loadKN h i kk n (fun cs => k (.agg cs) h)) n) none
noncomputable def kStore (n : Nat) (a v : Opd) (env : Env) (h : Heap) (k : KV) : KR := storeK n (evK a env) (evK v env) h k
noncomputable def kBin (op : BinOp) (ek : EK) (x y : Opd) (env : Env) (h : Heap) (k : KV) : KR := binK op ek (evK x env) (evK y env) (fun v => k v h)
noncomputable def kNot (x : Opd) (env : Env) (h : Heap) (k : KV) : KR := (evK x env).onBool (fun b => k (.bool (Bool.rec true false b)) h) none
noncomputable def kConv (kk : IntKind) (x : Opd) (env : Env) (h : Heap) (k : KV) : KR := (evK x env).onInt (fun _ n => k (.int kk (wrapK kk n)) h) none
noncomputable def kSlstr (x : Opd) (lo hi : Option Opd) (env : Env) (h : Heap) (k : KV) : KR :=
  (evK x env).onStr (fun s => (fun fin => Option.rec (fin (lenK s)) (fun y => natK (evK y env) fun n => bK (Nat.ble n (lenK s)) (fin n) none) hi)
    (fun top => Option.rec (k (.str (takeK s top)) h) (fun y => natK (evK y env) fun n => bK (Nat.ble n top) (k (.str (dropK (takeK s top) n)) h) none) lo)) none
noncomputable def kFaddr (off : Nat) (x : Opd) (env : Env) (h : Heap) (k : KV) : KR := (evK x env).onPtr (fun i kk => k (.ptr i (Nat.add kk off)) h) none
noncomputable def aggK (n : Option Nat) (cs : List AV) (off : Nat) (k : AV → KR) : KR := Option.rec (nthK cs off k none) (fun n => cutK cs off n (fun r => k (.agg r)) none) n
noncomputable def kFld (off : Nat) (n : Option Nat) (x : Opd) (env : Env) (h : Heap) (k : KV) : KR := (evK x env).onAgg (fun cs => aggK n cs off (fun v => k v h)) none
noncomputable def kIaddrA (len es : Nat) (x i : Opd) (env : Env) (h : Heap) (k : KV) : KR := (evK x env).onPtr (fun b kk => natK (evK i env) fun n => bK (Nat.blt n len) (k (.ptr b (Nat.add kk (Nat.mul n es))) h) none) none
noncomputable def kIaddrS (es : Nat) (x i : Opd) (env : Env) (h : Heap) (k : KV) : KR := (evK x env).onSl (fun b kk len _ _ es' => natK (evK i env) fun n => bK (Nat.blt n len) (bK (Nat.beq es es') (k (.ptr b (Nat.add kk (Nat.mul n es))) h) none) none) none
noncomputable def kIdxA (len es : Nat) (n : Option Nat) (x i : Opd) (env : Env) (h : Heap) (k : KV) : KR := (evK x env).onAgg (fun cs => natK (evK i env) fun j => bK (Nat.blt j len) (aggK n cs (Nat.mul j es) (fun v => k v h)) none) none
noncomputable def kIdxS (x i : Opd) (env : Env) (h : Heap) (k : KV) : KR := (evK x env).onStr (fun s => natK (evK i env) fun j => nthK s j (fun b => k (.int .u8 (Int.ofNat b.toNat)) h) none) none
noncomputable def kExtract (x : Opd) (i : Nat) (env : Env) (h : Heap) (k : KV) : KR := (evK x env).onTup (fun vs => nthK vs i (fun v => k v h) none) none
noncomputable def kLenS (x : Opd) (env : Env) (h : Heap) (k : KV) : KR := (evK x env).onStr (fun s => k (.int .i64 (Int.ofNat (lenK s))) h) none
noncomputable def kLenL (x : Opd) (env : Env) (h : Heap) (k : KV) : KR := (evK x env).onSl (fun _ _ n _ _ _ => k (.int .i64 (Int.ofNat n)) h) (thenK (opF_lenL x env h) k)
noncomputable def kAppend (e : TypeId) (es bytes : Nat) (_z : List AV) (s x : Opd) (env : Env) (h : Heap) (k : KV) : KR := srcK h es (evK x env) fun new n => appendGK h e es bytes (evK s env) new n k
noncomputable def kMkfn (f : FuncId) (a b : List Opd) (env : Env) (h : Heap) (k : KV) : KR := k (.fn f (evsK a env) (evsK b env)) h
noncomputable def AV.onCall {R : Type} (v : AV) (k : FuncId → List AV → List AV → R) (y : Nat → R) (e : R) : R :=
  AV.casesOn (motive_1 := fun _ => R) v (fun _ _ => e) (fun _ => e) (fun _ => e) (fun _ => e) (fun _ _ => e) (fun _ _ _ _ _ _ => e) (fun _ => e) k (fun _ => e) (fun _ => e) y
noncomputable def kCall (call : CK) (yl : YK) (f : Opd) (args : List Opd) (env : Env) (h : Heap) (k : KV) : KR :=
  (evK f env).onCall (fun g first cap => call g (appK first (appK (evsK args env) cap)) h k) (fun i => yl i (evsK args env) h k) none
noncomputable def kF {α : Type} (f : α → Env → Heap → KR) (a : α) (env : Env) (h : Heap) (k : KV) : KR := thenK (f a env h) k
abbrev KO := Env → Heap → KV → KR
noncomputable def opCK (call : CK) (yl : YK) (m : MOp) : KO :=
  MOp.rec (motive := fun _ => KO) kMv kPick kAlloc kBox kBuild (fun a b c d e env h k => thenK (opF_bslice a b c d e env h) k) kLoad kStore (fun x env h k => thenK (opF_nilck x env h) k) kBin kNot kConv (fun a b env h k => thenK (opF_s2b a b env h) k) (fun a env h k => thenK (opF_b2s a env h) k)
    kMkfn (fun env h k => thenK (opF_mkmap env h) k) (fun a b c d e f env h k => thenK (opF_mkslice a b c d e f env h) k) (fun a b c d e env h k => thenK (opF_slice a b c d e env h) k) kSlstr (fun a b c d e f env h k => thenK (opF_slarr a b c d e f env h) k) kFaddr kFld kIaddrA kIaddrS kIdxA kIdxS
    (fun a b c d e env h k => thenK (opF_lookup a b c d e env h) k) (fun a b c d env h k => thenK (opF_mapupd a b c d env h) k) kExtract kLenS kLenL (fun a env h k => thenK (opF_lenM a env h) k) (fun a env h k => thenK (opF_cap a env h) k) (fun a b env h k => thenK (opF_mn a b env h) k) (fun a b env h k => thenK (opF_mx a b env h) k)
    kAppend (fun a b c d e f env h k => thenK (opF_appendZ a b c d e f env h) k) (fun a b c env h k => thenK (opF_copy a b c env h) k) (fun a env h k => thenK (opF_clearM a env h) k) (fun a b c env h k => thenK (opF_clearL a b c env h) k) (fun _ _ _ => none) (kCall call yl) (fun x env h k => thenK (opF_rangeS x env h) k) (fun x env h k => thenK (opF_rangeM x env h) k) (fun x env h k => thenK (opF_nextS x env h) k) (fun x env h k => thenK (opF_nextM x env h) k) m

def CRel (c : CallF) (c' : CK) : Prop := ∀ f args h k, c' f args h k = thenK (c f args h) k
def YRel (y : YF) (y' : YK) : Prop := ∀ i args h k, y' i args h k = thenK (y i args h) k

theorem aggK_eq (n : Option Nat) (cs : List AV) (off : Nat) (k : AV → KR) : aggK n cs off k = match aggOr n cs off with | some v => k v | none => none := by
  unfold aggK aggOr
  cases n with
  | none => simp only; rw [nthK_eq]; cases cs[off]? <;> rfl
  | some n =>
    simp only
    rw [cutK_eq]
    cases hb : Nat.ble (off + n) cs.length with
    | true => rw [if_pos (Nat.le_of_ble_eq_true hb)]; rfl
    | false =>
      rw [if_neg]
      · rfl
      · intro x; rw [Nat.ble_eq_true_of_le x] at hb; cases hb
theorem opCK_eq {call : CallF} {yl : YF} {call' : CK} {yl' : YK} (hc : CRel call call') (hy : YRel yl yl') (m : MOp) (env : Env) (h : Heap) (k : KV) : opCK call' yl' m env h k = thenK (opC call yl m env h) k := by
  have notK : ∀ b : Bool, (Bool.rec true false b : Bool) = !b := fun b => by cases b <;> rfl
  rw [opC_eq]
  cases m <;> try rfl
  case mv x => show kMv x env h k = _; simp only [kMv, evK_eq, opA, thenK]
  case pick c a b =>
    show kPick c a b env h k = _
    simp only [kPick, evK_eq, opA]
    cases c.ev env <;> try rfl
    rename_i t; cases t <;> rfl
  case alloc e z => show kAlloc e z env h k = _; simp only [kAlloc, halloc_eq, opA, thenK]
  case box e x => show kBox e x env h k = _; simp only [kBox, halloc_eq, evK_eq, boxK_eq, opA, thenK]
  case build z ps =>
    show kBuild z ps env h k = _
    simp only [kBuild, fillK_eq, opA]
    cases fillA z (ps.map fun p => (p.1, p.2.1, p.2.2.ev env)) <;> rfl
  case load n x =>
    show kLoad n x env h k = _
    simp only [kLoad, evK_eq, opA]
    cases x.ev env <;> try rfl
    rename_i i kk
    cases n with
    | none => show loadK1 h i kk _ = _; rw [loadK1_eq]; simp only; cases h.load1 i kk <;> rfl
    | some n => show loadKN h i kk n _ = _; rw [loadKN_eq]; simp only; cases h.loadN i kk n <;> rfl
  case store n a v =>
    show storeK n (evK a env) (evK v env) h k = _
    simp only [evK_eq, opA]
    unfold storeK
    cases a.ev env <;> try rfl
    rename_i i kk
    simp only
    show (v.ev env).onAgg (fun cs => bK (Nat.beq (lenK cs) n) (storeKN h i kk cs (k undefA)) none) (bK (Nat.beq 1 n) (storeK1 h i kk (v.ev env) (k undefA)) none) = _
    cases v.ev env
    case agg cs =>
      show bK (Nat.beq (lenK cs) n) (storeKN h i kk cs (k undefA)) none = _
      rw [bK_eq, lenK_eq, storeKN_eq]
      simp only [AV.cells]
      cases cs.length.beq n with
      | false => rfl
      | true => simp only [cond_true]; cases h.storeN i kk cs <;> rfl
    all_goals
      show bK (Nat.beq 1 n) (storeK1 h i kk _ (k undefA)) none = _
      rw [bK_eq, storeK1_eq]
      simp only [AV.cells, List.length_cons, List.length_nil, Nat.zero_add]
      cases Nat.beq 1 n with
      | false => rfl
      | true => simp only [cond_true]; split <;> rename_i e <;> simp only [e] <;> rfl
  case bin op ek x y =>
    show kBin op ek x y env h k = _
    simp only [kBin, binK_eq, evK_eq, opA, optK_eq]
    cases binA op ek (x.ev env) (y.ev env) <;> rfl
  case not x =>
    show kNot x env h k = _
    simp only [kNot, evK_eq, opA]
    cases x.ev env <;> try rfl
    rename_i b; cases b <;> rfl
  case convI kk x =>
    show kConv kk x env h k = _
    simp only [kConv, evK_eq, opA]
    cases x.ev env <;> try rfl
    simp only [wrapK_eq, AV.onInt]; rfl
  case slstr x lo hi =>
    show kSlstr x lo hi env h k = _
    simp only [kSlstr, evK_eq, opA, lenK_eq, takeK_eq, dropK_eq]
    cases x.ev env <;> try rfl
    rename_i s
    simp only [AV.onStr, sliceS]
    have fin : ∀ top, (Option.rec (k (.str (s.take top)) h) (fun y => natK (y.ev env) fun n => bK (Nat.ble n top) (k (.str ((s.take top).drop n)) h) none) lo : KR)
        = thenK (match (match bound top 0 (lo.map (·.ev env)) with | none => none | some l => some (AV.str ((s.take top).drop l))) with | some v => some (v, h) | none => none) k := by
      intro top
      cases lo with
      | none => simp only [Option.map_none, bound, List.drop_zero, thenK]
      | some y =>
        simp only [Option.map_some, bound, natK_eq]
        cases asNat (y.ev env) with
        | none => rfl
        | some n => simp only [bK_eq]; cases Nat.ble n top <;> rfl
    cases hi with
    | none => simp only [Option.map_none, bound]; exact fin s.length
    | some y =>
      simp only [Option.map_some, bound, natK_eq]
      cases asNat (y.ev env) with
      | none => rfl
      | some n =>
        have fn := fin n
        simp only [bK_eq]
        cases hb : Nat.ble n s.length with
        | false => rfl
        | true =>
          simp only [cond_true]
          simp only [natK_eq, bK_eq, bound] at fn
          exact fn
  case faddr off x =>
    show kFaddr off x env h k = _
    simp only [kFaddr, evK_eq, opA]
    cases x.ev env <;> rfl
  case fld off n x =>
    show kFld off n x env h k = _
    simp only [kFld, evK_eq, opA]
    cases x.ev env <;> try rfl
    rename_i cs
    simp only [AV.onAgg, aggK_eq]
    cases aggOr n cs off <;> rfl
  case iaddrA len es x i =>
    show kIaddrA len es x i env h k = _
    simp only [kIaddrA, evK_eq, opA]
    cases x.ev env <;> try rfl
    simp only [AV.onPtr, natK_eq, bK_eq]
    cases asNat (i.ev env) with
    | none => rfl
    | some n => simp only; cases Nat.blt n len <;> rfl
  case iaddrS es x i =>
    show kIaddrS es x i env h k = _
    simp only [kIaddrS, evK_eq, opA]
    cases x.ev env <;> try rfl
    rename_i b kk len cap ex es'
    simp only [AV.onSl, natK_eq, bK_eq]
    cases asNat (i.ev env) with
    | none => rfl
    | some n => simp only; cases Nat.blt n len <;> cases Nat.beq es es' <;> rfl
  case idxA len es n x i =>
    show kIdxA len es n x i env h k = _
    simp only [kIdxA, evK_eq, opA]
    cases x.ev env <;> try rfl
    rename_i cs
    simp only [AV.onAgg, natK_eq, bK_eq, aggK_eq]
    cases asNat (i.ev env) with
    | none => rfl
    | some j =>
      simp only
      cases Nat.blt j len with
      | false => rfl
      | true => simp only [cond_true, Nat.mul_eq]; cases aggOr n cs (j * es) <;> rfl
  case idxS x i =>
    show kIdxS x i env h k = _
    simp only [kIdxS, evK_eq, opA]
    cases x.ev env <;> try rfl
    rename_i s
    simp only [AV.onStr, natK_eq, nthK_eq]
    cases asNat (i.ev env) with
    | none => rfl
    | some j => simp only; cases s[j]? <;> rfl
  case extract x i =>
    show kExtract x i env h k = _
    simp only [kExtract, evK_eq, opA]
    cases x.ev env <;> try rfl
    rename_i vs
    simp only [AV.onTup, nthK_eq]
    cases vs[i]? <;> rfl
  case lenS x =>
    show kLenS x env h k = _
    simp only [kLenS, evK_eq, opA, lenK_eq]
    cases x.ev env <;> rfl
  case lenL x =>
    show kLenL x env h k = _
    simp only [kLenL, evK_eq, opA, opF_lenL]
    cases x.ev env <;> rfl
  case append e es bytes z s x =>
    show kAppend e es bytes z s x env h k = _
    simp only [kAppend, evK_eq, opA, srcK_eq, appendGK_eq, appendA]
    cases srcA h es (x.ev env) with
    | none => rfl
    | some r => rfl
  case mkfn f a b => show kMkfn f a b env h k = _; simp only [kMkfn, evsK_eq, opA, thenK]
  case call f args =>
    show kCall call' yl' f args env h k = _
    simp only [kCall, evK_eq, evsK_eq, appK_eq, callF]
    cases f.ev env <;> try rfl
    · show call' _ _ h k = _; rw [hc]; simp only [List.append_assoc]
    · show yl' _ _ h k = _; rw [hy]
end Go.Ab
