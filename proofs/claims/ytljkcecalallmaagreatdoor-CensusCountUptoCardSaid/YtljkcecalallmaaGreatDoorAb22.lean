/- The operations, each branch a constant of its own: what the kernel evaluates. Printed by wip/tools/mkfast.py. -/
import Derived.Test.YtljkcecalallmaaGreatDoorAb21
namespace Go.Ab
open Go

def opF_mv (x : Opd) (env : Env) (h : Heap) : Option (AV × Heap) := some (x.ev env, h)
def opF_pick (c : Opd) (a : Opd) (b : Opd) (env : Env) (h : Heap) : Option (AV × Heap) := match c.ev env with | .bool t => some (if t then a.ev env else b.ev env, h) | _ => none
def opF_alloc (e : TypeId) (z : List AV) (_env : Env) (h : Heap) : Option (AV × Heap) := some (.ptr h.sz 0, h.alloc (.cells z e false))
def opF_box (e : TypeId) (x : Opd) (env : Env) (h : Heap) : Option (AV × Heap) := some (.ptr h.sz 0, h.alloc (boxObj e (x.ev env)))
def opF_build (z : List AV) (ps : List (Nat × Nat × Opd)) (env : Env) (h : Heap) : Option (AV × Heap) := match fillA z (ps.map fun p => (p.1, p.2.1, p.2.2.ev env)) with | some cs => some (.agg cs, h) | none => none
def opF_bslice (e : TypeId) (es : Nat) (len : Nat) (z : List AV) (ps : List (Nat × Nat × Opd)) (env : Env) (h : Heap) : Option (AV × Heap) :=
    match fillA (zerosA z len) (ps.map fun p => (p.1, p.2.1, p.2.2.ev env)) with
    | some cs => some (.sl h.sz 0 len len true es, h.alloc (.cells cs e false))
    | none => none
def opF_load (n : Option Nat) (x : Opd) (env : Env) (h : Heap) : Option (AV × Heap) :=
    match x.ev env with
    | .ptr i k => match n with
      | none => match h.load1 i k with | some v => some (v, h) | none => none
      | some n => match h.loadN i k n with | some cs => some (.agg cs, h) | none => none
    | _ => none
def opF_store (n : Nat) (a : Opd) (v : Opd) (env : Env) (h : Heap) : Option (AV × Heap) :=
    match a.ev env with
    | .ptr i k => bif (v.ev env).cells.length.beq n then match h.storeN i k (v.ev env).cells with | some h' => some (undefA, h') | none => none else none
    | _ => none
def opF_nilck (x : Opd) (env : Env) (h : Heap) : Option (AV × Heap) := match x.ev env with
    | .ptr i k => some (.ptr i k, h)
    | .fn f a b => some (.fn f a b, h)
    | _ => none
def opF_bin (op : BinOp) (ek : EK) (x : Opd) (y : Opd) (env : Env) (h : Heap) : Option (AV × Heap) := match binA op ek (x.ev env) (y.ev env) with | some v => some (v, h) | none => none
def opF_not (x : Opd) (env : Env) (h : Heap) : Option (AV × Heap) := match x.ev env with | .bool b => some (.bool !b, h) | _ => none
def opF_convI (k : IntKind) (x : Opd) (env : Env) (h : Heap) : Option (AV × Heap) := match x.ev env with | .int _ n => some (.int k (wrapA k n), h) | _ => none
def opF_s2b (e : TypeId) (x : Opd) (env : Env) (h : Heap) : Option (AV × Heap) := match x.ev env with
    | .str l => some (.sl h.sz 0 l.length l.length false 1, h.alloc (.cells (l.map fun b => .int .u8 b.toNat) e false))
    | _ => none
def opF_b2s (x : Opd) (env : Env) (h : Heap) : Option (AV × Heap) := match x.ev env with
    | .sc (.slice none 0 0) => some (.str [], h)
    | .sl i k len _ _ es => bif Nat.beq es 1 then match h.loadN i k len with
      | some cs => match cs.mapM (fun | AV.int .u8 n => some (UInt8.ofNat n.toNat) | _ => none) with | some l => some (.str l, h) | none => none
      | none => none else none
    | _ => none
def opF_mkfn (f : FuncId) (a : List Opd) (b : List Opd) (env : Env) (h : Heap) : Option (AV × Heap) := some (.fn f (a.map (·.ev env)) (b.map (·.ev env)), h)
def opF_mkmap (_env : Env) (h : Heap) : Option (AV × Heap) := some (.mp h.sz, h.alloc (.map [] 0))
def opF_mkslice (e : TypeId) (es : Nat) (bytes : Nat) (z : List AV) (l : Opd) (c : Opd) (env : Env) (h : Heap) : Option (AV × Heap) :=
    match asNat (l.ev env), asNat (c.ev env) with
    | some l, some c => bif l.ble c && (c * bytes).ble most && Nat.ble 1 bytes then some (.sl h.sz 0 l c true es, h.alloc (.cells (zerosA z c) e false)) else none
    | _, _ => none
def opF_slice (es : Nat) (x : Opd) (lo : Option Opd) (hi : Option Opd) (mx : Option Opd) (env : Env) (h : Heap) : Option (AV × Heap) := match sliceA es (x.ev env) (lo.map (·.ev env)) (hi.map (·.ev env)) (mx.map (·.ev env)) with | some v => some (v, h) | none => none
def opF_slstr (x : Opd) (lo : Option Opd) (hi : Option Opd) (env : Env) (h : Heap) : Option (AV × Heap) := match x.ev env with
    | .str s => match sliceS s (lo.map (·.ev env)) (hi.map (·.ev env)) with | some v => some (v, h) | none => none
    | _ => none
def opF_slarr (len : Nat) (es : Nat) (x : Opd) (lo : Option Opd) (hi : Option Opd) (mx : Option Opd) (env : Env) (h : Heap) : Option (AV × Heap) :=
    match x.ev env with
    | .ptr i k => match h.get i with
      | some (.cells c _ _) => bif Nat.ble (k + len * es) c.length then
          match sliceA es (.sl i k len len true es) (lo.map (·.ev env)) (hi.map (·.ev env)) (mx.map (·.ev env)) with | some v => some (v, h) | none => none
        else none
      | _ => none
    | _ => none
def opF_faddr (off : Nat) (x : Opd) (env : Env) (h : Heap) : Option (AV × Heap) := match x.ev env with | .ptr i k => some (.ptr i (k + off), h) | _ => none
def opF_fld (off : Nat) (n : Option Nat) (x : Opd) (env : Env) (h : Heap) : Option (AV × Heap) := match x.ev env with
    | .agg cs => match aggOr n cs off with | some v => some (v, h) | none => none
    | _ => none
def opF_iaddrA (len : Nat) (es : Nat) (x : Opd) (i : Opd) (env : Env) (h : Heap) : Option (AV × Heap) := match x.ev env, asNat (i.ev env) with
    | .ptr b k, some n => bif Nat.blt n len then some (.ptr b (k + n * es), h) else none
    | _, _ => none
def opF_iaddrS (es : Nat) (x : Opd) (i : Opd) (env : Env) (h : Heap) : Option (AV × Heap) := match x.ev env, asNat (i.ev env) with
    | .sl b k len _ _ es', some n => bif Nat.blt n len && es.beq es' then some (.ptr b (k + n * es), h) else none
    | _, _ => none
def opF_idxA (len : Nat) (es : Nat) (n : Option Nat) (x : Opd) (i : Opd) (env : Env) (h : Heap) : Option (AV × Heap) := match x.ev env, asNat (i.ev env) with
    | .agg cs, some j => bif Nat.blt j len then match aggOr n cs (j * es) with | some v => some (v, h) | none => none else none
    | _, _ => none
def opF_idxS (x : Opd) (i : Opd) (env : Env) (h : Heap) : Option (AV × Heap) := match x.ev env, asNat (i.ev env) with
    | .str s, some j => match s[j]? with | some b => some (.int .u8 b.toNat, h) | none => none
    | _, _ => none
def opF_lookup (kk : Nat) (z : AV) (ok : Bool) (x : Opd) (i : Opd) (env : Env) (h : Heap) : Option (AV × Heap) :=
    bif !keyOk kk (i.ev env) then none else
    match x.ev env with
    | .sc (.map none) => some (if ok then .tup [z, .bool false] else z, h)
    | .mp r => match h.get r with
      | some (.map es _) => match findA (i.ev env) es 0 with
        | some (some (_, v)) => some (if ok then .tup [v, .bool true] else v, h)
        | some none => some (if ok then .tup [z, .bool false] else z, h)
        | none => none
      | _ => none
    | _ => none
def opF_mapupd (kk : Nat) (m : Opd) (k : Opd) (v : Opd) (env : Env) (h : Heap) : Option (AV × Heap) :=
    bif !keyOk kk (k.ev env) then none else
    match m.ev env with
    | .mp r => match h.get r with
      | some (.map es clock) => match findA (k.ev env) es 0 with
        | some (some (i, _)) => some (undefA, h.set r (.map (setVal es i (k.ev env) (v.ev env)) clock))
        | some none => some (undefA, h.set r (.map (es ++ [(k.ev env, v.ev env, clock)]) (clock + 1)))
        | none => none
      | _ => none
    | _ => none
def opF_extract (x : Opd) (i : Nat) (env : Env) (h : Heap) : Option (AV × Heap) := match x.ev env with
    | .tup vs => match vs[i]? with | some v => some (v, h) | none => none
    | _ => none
def opF_lenS (x : Opd) (env : Env) (h : Heap) : Option (AV × Heap) := match x.ev env with
    | .str s => some (i64v s.length, h)
    | _ => none
def opF_lenL (x : Opd) (env : Env) (h : Heap) : Option (AV × Heap) := match x.ev env with
    | .sl _ _ n _ _ _ => some (i64v n, h)
    | .sc (.slice none 0 0) => some (i64v 0, h)
    | _ => none
def opF_lenM (x : Opd) (env : Env) (h : Heap) : Option (AV × Heap) := match x.ev env with
    | .sc (.map none) => some (i64v 0, h)
    | .mp r => match h.get r with | some (.map es _) => some (i64v es.length, h) | _ => none
    | _ => none
def opF_cap (x : Opd) (env : Env) (h : Heap) : Option (AV × Heap) := match x.ev env with
    | .sl _ _ _ c true _ => some (i64v c, h)
    | .sc (.slice none 0 0) => some (i64v 0, h)
    | _ => none
def opF_mn (x : Opd) (y : Opd) (env : Env) (h : Heap) : Option (AV × Heap) := match x.ev env, y.ev env with
    | .int k a, .int k' b => if k = k' then some (.int k (if b < a then b else a), h) else none
    | _, _ => none
def opF_mx (x : Opd) (y : Opd) (env : Env) (h : Heap) : Option (AV × Heap) := match x.ev env, y.ev env with
    | .int k a, .int k' b => if k = k' then some (.int k (if b > a then b else a), h) else none
    | _, _ => none
def opF_append (e : TypeId) (es : Nat) (bytes : Nat) (_u3 : List AV) (s : Opd) (x : Opd) (env : Env) (h : Heap) : Option (AV × Heap) := appendA h e es bytes (s.ev env) (x.ev env)
def opF_appendZ (e : TypeId) (es : Nat) (bytes : Nat) (z : List AV) (s : Opd) (x : Opd) (env : Env) (h : Heap) : Option (AV × Heap) := Ab.appendZ h e es bytes z (s.ev env) (x.ev env)
def opF_copy (es : Nat) (d : Opd) (s : Opd) (env : Env) (h : Heap) : Option (AV × Heap) :=
    match d.ev env with
    | .sl i k len _ _ es' =>
      bif es.beq es' then match srcA h es (s.ev env) with
        | none => none
        | some (cs, n) =>
          let m := Nat.min n len
          match h.storeN i k (cs.take (m * es)) with | some h' => some (i64v m, h') | none => none
      else none
    | .sc (.slice none 0 0) => match srcA h es (s.ev env) with | some _ => some (i64v 0, h) | none => none
    | _ => none
def opF_clearM (x : Opd) (env : Env) (h : Heap) : Option (AV × Heap) :=
    match x.ev env with
    | .mp r => match h.get r with | some (.map _ clock) => some (undefA, h.set r (.map [] clock)) | _ => none
    | .sc (.map none) => some (undefA, h)
    | _ => none
def opF_clearL (es : Nat) (z : List AV) (x : Opd) (env : Env) (h : Heap) : Option (AV × Heap) :=
    match x.ev env with
    | .sc (.slice none 0 0) => some (undefA, h)
    | .sl i k len _ _ es' => bif es.beq es' then match h.storeN i k (zerosA z len) with | some h' => some (undefA, h') | none => none else none
    | _ => none
def opF_bad (_env : Env) (_h : Heap) : Option (AV × Heap) := none
def opF_call (_u0 : Opd) (_u1 : List Opd) (_env : Env) (_h : Heap) : Option (AV × Heap) := none
def opF_rangeS (x : Opd) (env : Env) (h : Heap) : Option (AV × Heap) := opA (.rangeS x) env h
def opF_rangeM (x : Opd) (env : Env) (h : Heap) : Option (AV × Heap) := opA (.rangeM x) env h
def opF_nextS (x : Opd) (env : Env) (h : Heap) : Option (AV × Heap) := opA (.nextS x) env h
def opF_nextM (x : Opd) (env : Env) (h : Heap) : Option (AV × Heap) := opA (.nextM x) env h
noncomputable def opF (m : MOp) : Env → Heap → Option (AV × Heap) :=
  MOp.rec (motive := fun _ => Env → Heap → Option (AV × Heap)) opF_mv opF_pick opF_alloc opF_box opF_build opF_bslice opF_load opF_store opF_nilck opF_bin opF_not opF_convI opF_s2b opF_b2s opF_mkfn opF_mkmap opF_mkslice opF_slice opF_slstr opF_slarr opF_faddr opF_fld opF_iaddrA opF_iaddrS opF_idxA opF_idxS opF_lookup opF_mapupd opF_extract opF_lenS opF_lenL opF_lenM opF_cap opF_mn opF_mx opF_append opF_appendZ opF_copy opF_clearM opF_clearL opF_bad opF_call opF_rangeS opF_rangeM opF_nextS opF_nextM m
theorem opF_eq (m : MOp) (env : Env) (h : Heap) : opF m env h = opA m env h := by cases m <;> rfl
def callF (call : CallF) (yl : YF) (f : Opd) (args : List Opd) (env : Env) (h : Heap) : Option (AV × Heap) :=
  match f.ev env with
  | .fn g first cap => call g (first ++ args.map (·.ev env) ++ cap) h
  | .yd i => yl i (args.map (·.ev env)) h
  | _ => none
noncomputable def opC (call : CallF) (yl : YF) (m : MOp) : Env → Heap → Option (AV × Heap) :=
  MOp.rec (motive := fun _ => Env → Heap → Option (AV × Heap)) opF_mv opF_pick opF_alloc opF_box opF_build opF_bslice opF_load opF_store opF_nilck opF_bin opF_not opF_convI opF_s2b opF_b2s opF_mkfn opF_mkmap opF_mkslice opF_slice opF_slstr opF_slarr opF_faddr opF_fld opF_iaddrA opF_iaddrS opF_idxA opF_idxS opF_lookup opF_mapupd opF_extract opF_lenS opF_lenL opF_lenM opF_cap opF_mn opF_mx opF_append opF_appendZ opF_copy opF_clearM opF_clearL opF_bad (callF call yl) opF_rangeS opF_rangeM opF_nextS opF_nextM m
theorem opC_eq (call : CallF) (yl : YF) (m : MOp) (env : Env) (h : Heap) : opC call yl m env h = match m with
    | .call f args => callF call yl f args env h
    | m => opA m env h := by cases m <;> rfl
end Go.Ab
