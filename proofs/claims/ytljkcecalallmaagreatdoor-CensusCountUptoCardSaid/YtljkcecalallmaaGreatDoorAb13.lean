/- Runs: definitions. -/
import Derived.Test.YtljkcecalallmaaGreatDoorAb12
namespace Go.Ab
open Go

structure MOper where
  dst : Option Nat
  op : MOp
  guard : Option (Nat × Bool)
  deriving Inhabited

inductive MCode where
  | skip
  | reg (ops : List MOper) (draw : Option (List (List Nat)))
  | seq (a b : MCode)
  | cond (c : Opd) (t e : MCode)
  | block (id : Nat) (c : MCode)
  | loop (c : MCode)
  | exit (id : Nat)
  | ret
  | bad
  | range (f : Opd) (p : Nat) (as body : MCode)
  deriving Inhabited

inductive MRes where
  | tmp (t : Nat)
  | cell (t : Nat) (n : Option Nat)
  deriving Inhabited

structure MFunc where
  nt : Nat
  body : MCode
  res : List MRes
  deriving Inhabited

inductive Out where
  | nrm | ex (id : Nat) | ret

abbrev CallF := FuncId → List AV → Heap → Option (AV × Heap)

def wantedA (o : MOper) (env : Env) : Option Bool :=
  match o.guard with
  | none => some true
  | some (t, want) => match (Opd.t t).ev env with
    | .bool b => some (b == want)
    | .tup _ => some false
    | _ => none

def stepA (call : CallF) (o : MOper) (env : Env) (h : Heap) : Option (AV × Heap) :=
  match wantedA o env with
  | none => none
  | some false => some (undefA, h)
  | some true => match o.op with
    | .call f args => match f.ev env with
      | .fn g first cap => call g (first ++ args.map (·.ev env) ++ cap) h
      | _ => none
    | m => opA m env h

def putA (env : Env) (dst : Option Nat) (v : AV) : Env :=
  match dst with
  | some d => env.set d v
  | none => env

/-- what a yield does: its record, its arguments -/
abbrev YF := Nat → List AV → Heap → Option (AV × Heap)
def noY : YF := fun _ _ _ => none
def stepY (call : CallF) (yl : YF) (o : MOper) (env : Env) (h : Heap) : Option (AV × Heap) :=
  match wantedA o env with
  | none => none
  | some false => some (undefA, h)
  | some true => match o.op with
    | .call f args => match f.ev env with
      | .fn g first cap => call g (first ++ args.map (·.ev env) ++ cap) h
      | .yd i => yl i (args.map (·.ev env)) h
      | _ => none
    | m => opA m env h

def seqA (call : CallF) (yl : YF) : List MOper → Env → Heap → Option (Env × Heap)
  | [], env, h => some (env, h)
  | o :: os, env, h => match stepY call yl o env h with
    | some (v, h') => seqA call yl os (putA env o.dst v) h'
    | none => none

/-- equality of values, objects (what it takes for equal is) -/
def Value.nilEq : Value → Value → Bool
  | .pointer none, .pointer none => true
  | .slice none a b, .slice none c d => a == c && b == d
  | .map none, .map none => true
  | .nilFunc, .nilFunc => true
  | _, _ => false
mutual
def AV.beq : AV → AV → Bool
  | .int k a, .int l b => k == l && a == b
  | .bool a, .bool b => a == b
  | .str a, .str b => a == b
  | .sc u, .sc v => Value.nilEq u v
  | .ptr i k, .ptr j l => i == j && k == l
  | .sl i k a b c d, .sl i' k' a' b' c' d' => i == i' && k == k' && a == a' && b == b' && c == c' && d == d'
  | .mp i, .mp j => i == j
  | .fn f a b, .fn g c d => f == g && AV.beqs a c && AV.beqs b d
  | .agg a, .agg b => AV.beqs a b
  | .tup a, .tup b => AV.beqs a b
  | _, _ => false
def AV.beqs : List AV → List AV → Bool
  | [], [] => true
  | a :: as, b :: bs => AV.beq a b && AV.beqs as bs
  | _, _ => false
end
def AV.beqm : List (AV × AV × Nat) → List (AV × AV × Nat) → Bool
  | [], [] => true
  | (a, b, c) :: as, (d, e, f) :: bs => AV.beq a d && AV.beq b e && c == f && AV.beqm as bs
  | _, _ => false
def objEq : Option AObj → Option AObj → Bool
  | some (.cells c e r), some (.cells c' e' r') => AV.beqs c c' && e == e' && r == r'
  | some (.map m c), some (.map m' c') => AV.beqm m m' && c == c'
  | some .dead, some .dead => true
  | some (.iter s p), some (.iter s' p') => s == s' && p == p'
  | some (.miter m), some (.miter m') => m == m'
  | some (.mbox m), some (.mbox m') => m == m'
  | none, none => true
  | _, _ => false

/-- what is noted of an operation that ran: its class, the object that it looks at or makes, the heap ahead of it and behind it -/
structure Note where
  cls : Nat
  obj : Option Nat
  h : Heap
  h' : Heap

def noteA (o : MOper) (env : Env) (h h' : Heap) : Note :=
  match wantedA o env with
  | some true => { cls := o.op.cls, obj := match o.op.cls with | 1 => o.op.rd env | 2 => some h.sz | _ => none, h, h' }
  | _ => { cls := 0, obj := none, h, h' }

/-- do two operations, the first one earlier in the text, not ordered, allow either order? -/
def pairOk (a b : Note) : Bool :=
  match b.cls, a.cls with
  | 3, 3 => false
  | 3, 1 | 3, 2 => match a.obj with | some i => objEq (b.h.get i) (b.h'.get i) | none => true
  | 1, 3 => match b.obj with | some i => objEq (a.h.get i) (a.h'.get i) | none => true
  | _, _ => true

/-- against all earlier ones: 'ns' the last one first, k numbers to go -/
def pairsOk (pr : List Nat) (b : Note) : Nat → List Note → Bool
  | k + 1, a :: ns => (pr.contains k || pairOk a b) && pairsOk pr b k ns
  | _, _ => true

def drawA (call : CallF) : List MOper → List (List Nat) → Nat → List Note → Env → Heap → Option (Env × Heap)
  | [], _, _, _, env, h => some (env, h)
  | o :: os, pr :: prs, k, ns, env, h => match stepA call o env h with
    | some (v, h') =>
      let n := noteA o env h h'
      bif pairsOk pr n k ns then drawA call os prs (k + 1) (n :: ns) (putA env o.dst v) h' else none
    | none => none
  | _ :: _, [], _, _, _, _ => none

def iterA (body : Env → Heap → Option (Out × Env × Heap)) : Nat → Env → Heap → Option (Out × Env × Heap)
  | 0, _, _ => none
  | n + 1, env, h => match body env h with
    | some (.nrm, env', h') => iterA body n env' h'
    | r => r

def codeA (cy : YF → CallF) (lf : Nat) (yl : YF) : MCode → Env → Heap → Option (Out × Env × Heap)
  | .skip, env, h => some (.nrm, env, h)
  | .reg ops none, env, h => match seqA (cy noY) yl ops env h with | some (env', h') => some (.nrm, env', h') | none => none
  | .reg ops (some pr), env, h => match drawA (cy noY) ops pr 0 [] env h with | some (env', h') => some (.nrm, env', h') | none => none
  | .seq a b, env, h => match codeA cy lf yl a env h with
    | some (.nrm, env', h') => codeA cy lf yl b env' h'
    | r => r
  | .cond c t e, env, h => match c.ev env with
    | .bool true => codeA cy lf yl t env h
    | .bool false => codeA cy lf yl e env h
    | _ => none
  | .block id c, env, h => match codeA cy lf yl c env h with
    | some (.ex i, env', h') => bif i.beq id then some (.nrm, env', h') else some (.ex i, env', h')
    | r => r
  | .loop c, env, h => iterA (codeA cy lf yl c) lf env h
  | .exit id, env, h => some (.ex id, env, h)
  | .ret, env, h => some (.ret, env, h)
  | .range f p as body, env, h => match f.ev env with
    | .fn g first cap =>
      match cy (fun i args h2 => bif i.beq h.sz then (match args with
          | [x] => match codeA cy lf noY as (env.set p x) h2 with
            | some (.nrm, e1, h3) => match codeA cy lf noY body e1 h3 with
              | some (.nrm, _, h4) => some (.bool true, h4)
              | _ => none
            | _ => none
          | _ => none) else none) g (first ++ [.yd h.sz] ++ cap) (h.alloc .dead) with
      | some (_, h') => some (.nrm, env, h')
      | none => none
    | _ => none
  | .bad, _, _ => none

def setAll : Env → Nat → List AV → Env
  | env, _, [] => env
  | env, k, v :: vs => setAll (env.set k v) (k + 1) vs

def resA (env : Env) (h : Heap) : List MRes → Option (List AV)
  | [] => some []
  | .tmp t :: rs => match resA env h rs with | some vs => some ((Opd.t t).ev env :: vs) | none => none
  | .cell t n :: rs => match (Opd.t t).ev env with
    | .ptr i k => match h.loadO i k n, resA env h rs with
      | some v, some vs => some (v :: vs)
      | _, _ => none
    | _ => none

def funcA (cy : YF → CallF) (lf : Nat) (yl : YF) (m : MFunc) (args : List AV) (h : Heap) : Option (AV × Heap) :=
  bif Nat.ble args.length m.nt then
    match codeA cy lf yl m.body (setAll .nil 0 args) h with
    | some (.ex _, _, _) | none => none
    | some (_, env, h') => match resA env h' m.res with
      | some [v] => some (v, h')
      | some vs => some (.tup vs, h')
      | none => none
  else none

/-- what a function number stands for -/
inductive Ent where
  | fn (m : MFunc)
  | intr (g : List AV → Heap → Option (AV × Heap))

def callY (T : FuncId → Option Ent) (lf : Nat) : Nat → YF → CallF
  | 0 => fun _ _ _ _ => none
  | n + 1 => fun yl f args h => match T f with
    | some (.fn m) => funcA (callY T lf n) lf yl m args h
    | some (.intr g) => g args h
    | none => none
def callA (T : FuncId → Option Ent) (lf : Nat) (n : Nat) : CallF := callY T lf n noY

/- compiling -/
def compOper (P : Program) (nt : Nat) (ops : Array Oper) (o : Oper) : Option MOper :=
  match (match o.dst with | none => some none | some d => bif Nat.blt d nt then some (some d) else none),
      (match o.guard with
        | none => some none
        | some (j, want) => match (ops[j]?).bind (·.dst) with
          | some t => bif Nat.blt t nt then some (some (t, want)) else none
          | none => none) with
  | some dst, some guard => some { dst, op := comp P nt o.op, guard }
  | _, _ => none
def compOpers (P : Program) (nt : Nat) (ops : Array Oper) : List Oper → Option (List MOper)
  | [] => some []
  | o :: os => match compOper P nt ops o, compOpers P nt ops os with | some m, some ms => some (m :: ms) | _, _ => none

/-- of each operation those that go ahead of it, in whatever order -/
def predsOf (acc : List (List Nat)) : List Nat → List Nat
  | [] => []
  | i :: is => i :: ((acc[i]?).getD [] ++ predsOf acc is)
def directs (o : Oper) : List Nat := (o.after.toList.filter (Region.binds .any)).map (·.on)
def predsAll : List Oper → List (List Nat) → List (List Nat)
  | [], acc => acc
  | o :: os, acc => predsAll os (acc ++ [(predsOf acc (directs o)).eraseDups])

def MOper.looks (o : MOper) : List Nat := o.op.looks ++ (match o.guard with | some (t, _) => [t] | none => [])
/-- whoever writes a temporary that another one looks at or writes is ordered against that one -/
def tmpsOk (ms : List MOper) (pr : List (List Nat)) : Bool :=
  ms.zipIdx.all fun (o, j) => ((pr[j]?).getD []).all (fun i => Nat.blt i j) &&
    ms.zipIdx.all fun (p, i) => match p.dst with
      | none => true
      | some t => i == j || !(o.looks.contains t || o.dst == some t) || ((pr[j]?).getD []).contains i || ((pr[i]?).getD []).contains j

def compC (P : Program) (nt : Nat) (inr : Bool) : Code → MCode
  | .skip => .skip
  | .region _ ops draw => match compOpers P nt ops ops.toList with
    | none => .bad
    | some ms => bif draw then
        let pr := predsAll ops.toList []
        bif tmpsOk ms pr && (ops.toList.zipIdx.all fun (o, j) => (directs o).all fun i => Nat.blt i j) then .reg ms (some pr) else .bad
      else .reg ms none
  | .seq a b => .seq (compC P nt inr a) (compC P nt inr b)
  | .cond c t e => match copd nt c with | some c => .cond c (compC P nt inr t) (compC P nt inr e) | none => .bad
  | .block id c => .block id (compC P nt inr c)
  | .loop c => .loop (compC P nt inr c)
  | .exit id => .exit id
  | .ret => .ret
  | .rangeFunc f ps as body => match copd nt f, ps.toList with
    | some f, [p] => bif !inr && Nat.blt p nt then .range f p (compC P nt true as) (compC P nt true body) else .bad
    | _, _ => .bad
  | _ => .bad

def compR (P : Program) (nt : Nat) : List ResultVar → Option (List MRes)
  | [] => some []
  | .tmp t :: rs => match compR P nt rs with | some ms => bif Nat.blt t nt then some (.tmp t :: ms) else none | none => none
  | .cell t ty :: rs => match aggO P ty, compR P nt rs with | some n, some ms => bif Nat.blt t nt then some (.cell t n :: ms) else none | _, _ => none

def compF (P : Program) (fn : Func) : Option MFunc :=
  match fn.body, compR P fn.ntmps fn.results.toList with
  | some c, some res => some { nt := fn.ntmps, body := compC P fn.ntmps false c, res }
  | _, _ => none
end Go.Ab
