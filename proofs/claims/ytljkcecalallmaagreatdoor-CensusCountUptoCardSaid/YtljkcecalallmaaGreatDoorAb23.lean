/- Runs, for the kernel: no step unfolds a great term. -/
import Derived.Test.YtljkcecalallmaaGreatDoorAb22
namespace Go.Ab
open Go

def wantK (t : Nat) (want : Bool) (env : Env) : Option Bool :=
  match (Opd.t t).ev env with
  | .bool b => some (b == want)
  | .tup _ => some false
  | _ => none
def guardK (w : Option Bool) (k : Env → Heap → Option (AV × Heap)) (env : Env) (h : Heap) : Option (AV × Heap) :=
  match w with
  | none => none
  | some false => some (undefA, h)
  | some true => k env h
noncomputable def stepF (call : CallF) (yl : YF) (o : MOper) (env : Env) (h : Heap) : Option (AV × Heap) :=
  match o.guard with
  | none => opC call yl o.op env h
  | some (t, want) => guardK (wantK t want env) (opC call yl o.op) env h
theorem stepF_eq (call : CallF) (yl : YF) (o : MOper) (env : Env) (h : Heap) : stepF call yl o env h = stepY call yl o env h := by
  have key : ∀ m : MOp, opC call yl m env h = match m with
      | .call f args => match f.ev env with
        | .fn g first cap => call g (first ++ args.map (·.ev env) ++ cap) h
        | .yd i => yl i (args.map (·.ev env)) h
        | _ => none
      | m => opA m env h := by intro m; cases m <;> rfl
  obtain ⟨dst, op, guard⟩ := o
  unfold stepF stepY wantedA
  cases guard with
  | none => exact key op
  | some g =>
    obtain ⟨t, want⟩ := g
    simp only
    show guardK (wantK t want env) (opC call yl op) env h = match wantK t want env with | none => none | some false => some (undefA, h) | some true => _
    cases wantK t want env with
    | none => rfl
    | some b => cases b with
      | false => rfl
      | true => exact key op

def consK (st : Env → Heap → Option (AV × Heap)) (dst : Option Nat) (k : Env → Heap → Option (Env × Heap)) (env : Env) (h : Heap) : Option (Env × Heap) :=
  match st env h with
  | some (v, h') => k (putA env dst v) h'
  | none => none
def nilK (env : Env) (h : Heap) : Option (Env × Heap) := some (env, h)
noncomputable def seqF (call : CallF) (yl : YF) (ops : List MOper) : Env → Heap → Option (Env × Heap) :=
  List.rec (motive := fun _ => Env → Heap → Option (Env × Heap)) nilK (fun o _ ih => consK (stepF call yl o) o.dst ih) ops
theorem seqF_eq (call : CallF) (yl : YF) : ∀ (ops : List MOper) (env : Env) (h : Heap), seqF call yl ops env h = seqA call yl ops env h
  | [], _, _ => rfl
  | o :: os, env, h => by
    show (match stepF call yl o env h with | some (v, h') => seqF call yl os (putA env o.dst v) h' | none => none) = _
    rw [stepF_eq]
    simp only [seqA]
    cases stepY call yl o env h with
    | none => rfl
    | some x => exact seqF_eq call yl os _ _

abbrev RK := Option (Out × Env × Heap)
def nrmK (r : Option (Env × Heap)) : RK := match r with | some (env', h') => some (.nrm, env', h') | none => none
def regF (k : Env → Heap → Option (Env × Heap)) (env : Env) (h : Heap) : RK := nrmK (k env h)
def seqK (a b : Env → Heap → RK) (env : Env) (h : Heap) : RK :=
  match a env h with
  | some (.nrm, env', h') => b env' h'
  | r => r
def condK (c : Opd) (t e : Env → Heap → RK) (env : Env) (h : Heap) : RK :=
  match c.ev env with
  | .bool true => t env h
  | .bool false => e env h
  | _ => none
def blockK (id : Nat) (c : Env → Heap → RK) (env : Env) (h : Heap) : RK :=
  match c env h with
  | some (.ex i, env', h') => bif i.beq id then some (.nrm, env', h') else some (.ex i, env', h')
  | r => r
def drawNilK (_prs : List (List Nat)) (_k : Nat) (_ns : List Note) (env : Env) (h : Heap) : Option (Env × Heap) := some (env, h)
def drawStepK (o : MOper) (pr : List Nat) (k : Nat) (ns : List Note) (env : Env) (h : Heap) (v : AV) (h' : Heap) (go : List Note → Env → Heap → Option (Env × Heap)) : Option (Env × Heap) :=
  (fun n => bif pairsOk pr n k ns then go (n :: ns) (putA env o.dst v) h' else none) (noteA o env h h')
def drawConsK (st : Env → Heap → Option (AV × Heap)) (o : MOper) (go : List (List Nat) → Nat → List Note → Env → Heap → Option (Env × Heap)) (prs : List (List Nat)) (k : Nat) (ns : List Note) (env : Env) (h : Heap) : Option (Env × Heap) :=
  match prs with
  | pr :: prs => match st env h with
    | some (v, h') => drawStepK o pr k ns env h v h' (go prs (k + 1))
    | none => none
  | [] => none
noncomputable def drawF (call : CallF) (ops : List MOper) : List (List Nat) → Nat → List Note → Env → Heap → Option (Env × Heap) :=
  List.rec (motive := fun _ => List (List Nat) → Nat → List Note → Env → Heap → Option (Env × Heap)) drawNilK (fun o _ ih => drawConsK (stepF call noY o) o ih) ops
theorem drawF_eq (call : CallF) : ∀ (ops : List MOper) (prs : List (List Nat)) (k : Nat) (ns : List Note) (env : Env) (h : Heap), drawF call ops prs k ns env h = drawA call ops prs k ns env h
  | [], _, _, _, _, _ => by simp only [drawA]; rfl
  | o :: os, [], _, _, _, _ => by simp only [drawA]; rfl
  | o :: os, pr :: prs, k, ns, env, h => by
    show (match stepF call noY o env h with | some (v, h') => drawStepK o pr k ns env h v h' (drawF call os prs (k + 1)) | none => none) = _
    rw [stepF_eq, stepY_noY]
    simp only [drawA]
    cases stepA call o env h with
    | none => rfl
    | some x =>
      show (bif pairsOk pr (noteA o env h x.2) k ns then drawF call os prs (k + 1) (noteA o env h x.2 :: ns) (putA env o.dst x.1) x.2 else none) = _
      rw [drawF_eq call os]
def drawRegK (d : List (List Nat) → Nat → List Note → Env → Heap → Option (Env × Heap)) (pr : List (List Nat)) (env : Env) (h : Heap) : RK := nrmK (d pr 0 [] env h)
noncomputable def regK (cy : YF → CallF) (ops : List MOper) (draw : Option (List (List Nat))) (yl : YF) : Env → Heap → RK :=
  Option.rec (motive := fun _ => Env → Heap → RK) (regF (seqF (cy noY) yl ops)) (drawRegK (drawF (cy noY) ops)) draw
def rangeK (cy : YF → CallF) (f : Opd) (p : Nat) (as body : YF → Env → Heap → RK) (env : Env) (h : Heap) : RK :=
  match f.ev env with
    | .fn g first cap =>
      match cy (fun i args h2 => bif i.beq h.sz then (match args with
          | [x] => match as noY (env.set p x) h2 with
            | some (.nrm, e1, h3) => match body noY e1 h3 with
              | some (.nrm, _, h4) => some (.bool true, h4)
              | _ => none
            | _ => none
          | _ => none) else none) g (first ++ [.yd h.sz] ++ cap) (h.alloc .dead) with
      | some (_, h') => some (.nrm, env, h')
      | none => none
    | _ => none

def skipK (_yl : YF) (env : Env) (h : Heap) : RK := some (.nrm, env, h)
def seqYK (a b : YF → Env → Heap → RK) (yl : YF) : Env → Heap → RK := seqK (a yl) (b yl)
def condYK (c : Opd) (a b : YF → Env → Heap → RK) (yl : YF) : Env → Heap → RK := condK c (a yl) (b yl)
def blockYK (id : Nat) (a : YF → Env → Heap → RK) (yl : YF) : Env → Heap → RK := blockK id (a yl)
def itK (body : Env → Heap → RK) (go : Env → Heap → RK) (env : Env) (h : Heap) : RK :=
  match body env h with
  | some (.nrm, env', h') => go env' h'
  | r => r
def noK (_env : Env) (_h : Heap) : RK := none
noncomputable def iterF (body : Env → Heap → RK) (n : Nat) : Env → Heap → RK := Nat.rec (motive := fun _ => Env → Heap → RK) noK (fun _ ih => itK body ih) n
theorem iterF_eq (body : Env → Heap → RK) : ∀ (n : Nat) (env : Env) (h : Heap), iterF body n env h = iterA body n env h
  | 0, _, _ => rfl
  | n + 1, env, h => by
    show (match body env h with | some (.nrm, env', h') => iterF body n env' h' | r => r) = _
    simp only [iterA]
    cases body env h with
    | none => rfl
    | some x =>
      obtain ⟨o, e, h'⟩ := x
      cases o with
      | nrm => exact iterF_eq body n _ _
      | ex i => rfl
      | ret => rfl
noncomputable def loopYK (lf : Nat) (a : YF → Env → Heap → RK) (yl : YF) : Env → Heap → RK := iterF (a yl) lf
def exitK (id : Nat) (_yl : YF) (env : Env) (h : Heap) : RK := some (.ex id, env, h)
def retK (_yl : YF) (env : Env) (h : Heap) : RK := some (.ret, env, h)
def badK (_yl : YF) (_env : Env) (_h : Heap) : RK := none
def rangeYK (cy : YF → CallF) (f : Opd) (p : Nat) (as body : YF → Env → Heap → RK) (_yl : YF) : Env → Heap → RK := rangeK cy f p as body
noncomputable def codeF (cy : YF → CallF) (lf : Nat) (c : MCode) : YF → Env → Heap → RK :=
  MCode.rec (motive := fun _ => YF → Env → Heap → RK) skipK (regK cy) (fun _ _ a b => seqYK a b) (fun c _ _ a b => condYK c a b) (fun id _ a => blockYK id a) (fun _ a => loopYK lf a) exitK retK badK
    (fun f p _ _ a b => rangeYK cy f p a b) c
theorem codeF_eq (cy : YF → CallF) (lf : Nat) : ∀ (c : MCode) (yl : YF) (env : Env) (h : Heap), codeF cy lf c yl env h = codeA cy lf yl c env h
  | .skip, _, _, _ => by simp only [codeA]; rfl
  | .reg ops none, yl, env, h => by
    simp only [codeA]
    show nrmK (seqF (cy noY) yl ops env h) = _
    rw [seqF_eq]
    rfl
  | .reg ops (some pr), yl, env, h => by
    simp only [codeA]
    show nrmK (drawF (cy noY) ops pr 0 [] env h) = _
    rw [drawF_eq]
    rfl
  | .seq a b, yl, env, h => by
    simp only [codeA]
    show seqK (codeF cy lf a yl) (codeF cy lf b yl) env h = _
    unfold seqK
    rw [codeF_eq cy lf a]
    split
    · rw [codeF_eq cy lf b]; rename_i e; rw [e]
    · rename_i e
      split
      · rename_i e2; exact (e _ _ e2).elim
      · rfl
  | .cond c a b, yl, env, h => by
    simp only [codeA]
    show condK c (codeF cy lf a yl) (codeF cy lf b yl) env h = _
    unfold condK
    rw [codeF_eq cy lf a, codeF_eq cy lf b]
    rfl
  | .block id a, yl, env, h => by
    simp only [codeA]
    show blockK id (codeF cy lf a yl) env h = _
    unfold blockK
    rw [codeF_eq cy lf a]
    rfl
  | .loop a, yl, env, h => by
    simp only [codeA]
    show iterF (codeF cy lf a yl) lf env h = _
    rw [iterF_eq, show codeF cy lf a yl = codeA cy lf yl a from funext fun e => funext fun x => codeF_eq cy lf a yl e x]
  | .exit _, _, _, _ => by simp only [codeA]; rfl
  | .ret, _, _, _ => by simp only [codeA]; rfl
  | .bad, _, _, _ => by simp only [codeA]; rfl
  | .range f p as body, yl, env, h => by
    simp only [codeA]
    show rangeK cy f p (codeF cy lf as) (codeF cy lf body) env h = _
    rw [show codeF cy lf as = fun yl => codeA cy lf yl as from funext fun yl => funext fun e => funext fun x => codeF_eq cy lf as yl e x,
      show codeF cy lf body = fun yl => codeA cy lf yl body from funext fun yl => funext fun e => funext fun x => codeF_eq cy lf body yl e x]
    rfl

def finK (res : List MRes) (r : RK) : Option (AV × Heap) :=
  match r with
  | some (.ex _, _, _) | none => none
  | some (_, env, h') => match resA env h' res with
    | some [v] => some (v, h')
    | some vs => some (.tup vs, h')
    | none => none
def funcK (nt : Nat) (res : List MRes) (k : Env → Heap → RK) (args : List AV) (h : Heap) : Option (AV × Heap) :=
  bif Nat.ble args.length nt then finK res (k (setAll .nil 0 args) h) else none
noncomputable def funcF (cy : YF → CallF) (lf : Nat) (yl : YF) (m : MFunc) : List AV → Heap → Option (AV × Heap) := funcK m.nt m.res (codeF cy lf m.body yl)
theorem funcF_eq (cy : YF → CallF) (lf : Nat) (yl : YF) (m : MFunc) (args : List AV) (h : Heap) : funcF cy lf yl m args h = funcA cy lf yl m args h := by
  unfold funcF funcK funcA finK
  rw [codeF_eq]
  rfl
def entK (e : Option Ent) (fn : MFunc → List AV → Heap → Option (AV × Heap)) (args : List AV) (h : Heap) : Option (AV × Heap) :=
  match e with
  | some (.fn m) => fn m args h
  | some (.intr g) => g args h
  | none => none
noncomputable def callYF (T : FuncId → Option Ent) (lf : Nat) (n : Nat) : YF → CallF :=
  Nat.rec (motive := fun _ => YF → CallF) (fun _ _ _ _ => none) (fun _ ih yl f => entK (T f) (funcF ih lf yl)) n
theorem callYF_eq (T : FuncId → Option Ent) (lf : Nat) : ∀ n, callYF T lf n = callY T lf n
  | 0 => rfl
  | n + 1 => by
    funext yl f args h
    show entK (T f) (funcF (callYF T lf n) lf yl) args h = _
    rw [callYF_eq T lf n]
    simp only [callY]
    unfold entK
    split
    · rename_i m e; rw [e]; exact funcF_eq ..
    · rename_i g e; rw [e]
    · rename_i e; rw [e]
noncomputable def callFast (T : FuncId → Option Ent) (lf n : Nat) : CallF := callYF T lf n noY
theorem callFast_eq (T : FuncId → Option Ent) (lf n : Nat) : callFast T lf n = callA T lf n := by unfold callFast callA; rw [callYF_eq]
end Go.Ab
