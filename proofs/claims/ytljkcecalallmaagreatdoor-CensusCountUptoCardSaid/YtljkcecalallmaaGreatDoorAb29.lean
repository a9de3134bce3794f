/- For the kernel: code and calls, each handing on; equal to the machine. -/
import Derived.Test.YtljkcecalallmaaGreatDoorAb28
namespace Go.Ab
open Go

noncomputable def noYK : YK := fun _ _ _ _ => none
theorem noYK_rel : YRel noY noYK := fun _ _ _ _ => rfl
noncomputable def putEK (env : Env) (d : Option Nat) (v : AV) : Env := Option.rec env (fun d => tset env d v) d
theorem putEK_eq (env : Env) (d : Option Nat) (v : AV) : putEK env d v = putA env d v := by
  cases d with
  | none => rfl
  | some d => show tset env d v = _; rw [tset_eq]; rfl
noncomputable def guardKK (t : Nat) (want : Bool) (op : KO) (env : Env) (h : Heap) (k : KV) : KR :=
  (fun v => v.onBool (fun b => bK (bK b want (Bool.rec true false want)) (op env h k) (k undefA h)) (v.onTup (fun _ => k undefA h) none)) (evK (.t t) env)
noncomputable def stepK (call : CK) (yl : YK) (o : MOper) (env : Env) (h : Heap) (k : KV) : KR :=
  Option.rec (opCK call yl o.op env h k) (fun g => guardKK g.1 g.2 (opCK call yl o.op) env h k) o.guard
theorem stepK_eq {call : CallF} {yl : YF} {call' : CK} {yl' : YK} (hc : CRel call call') (hy : YRel yl yl') (o : MOper) (env : Env) (h : Heap) (k : KV) : stepK call' yl' o env h k = thenK (stepY call yl o env h) k := by
  rw [← stepF_eq]
  obtain ⟨dst, op, guard⟩ := o
  unfold stepK stepF
  cases guard with
  | none => exact opCK_eq hc hy op env h k
  | some g =>
    obtain ⟨t, want⟩ := g
    show guardKK t want (opCK call' yl' op) env h k = thenK (guardK (wantK t want env) (opC call yl op) env h) k
    unfold guardKK wantK
    rw [evK_eq]
    cases (Opd.t t).ev env <;> try rfl
    rename_i b
    show bK (bK b want (Bool.rec true false want)) (opCK call' yl' op env h k) (k undefA h) = thenK (guardK (some (b == want)) (opC call yl op) env h) k
    cases b <;> cases want <;> first | rfl | exact opCK_eq hc hy op env h k

abbrev KE := Env → Heap → KR
noncomputable def seqKK (call : CK) (yl : YK) (ops : List MOper) : KE → KE :=
  List.rec (motive := fun _ => KE → KE) (fun kn => kn) (fun o _ ih kn env h => stepK call yl o env h (fun v h' => ih kn (putEK env o.dst v) h')) ops
def thenE (r : Option (Env × Heap)) (k : KE) : KR := match r with | some (e, h') => k e h' | none => none
theorem seqKK_eq {call : CallF} {yl : YF} {call' : CK} {yl' : YK} (hc : CRel call call') (hy : YRel yl yl') (kn : KE) : ∀ (ops : List MOper) (env : Env) (h : Heap), seqKK call' yl' ops kn env h = thenE (seqA call yl ops env h) kn
  | [], env, h => rfl
  | o :: os, env, h => by
    show stepK call' yl' o env h (fun v h' => seqKK call' yl' os kn (putEK env o.dst v) h') = _
    rw [stepK_eq hc hy]
    simp only [seqA]
    cases stepY call yl o env h with
    | none => rfl
    | some x => show seqKK call' yl' os kn (putEK env o.dst x.1) x.2 = _; rw [seqKK_eq hc hy kn os, putEK_eq]

/-- drawn regions in which no two operations need a look at the heap -/
def clash (b a : Nat) : Bool := bif Nat.beq b 3 then bif Nat.beq a 0 then false else true else bif Nat.beq b 1 then Nat.beq a 3 else false
def calmPairs (pr : List Nat) (b : Nat) : Nat → List Nat → Bool
  | k + 1, a :: as => (pr.contains k || !clash b a) && calmPairs pr b k as
  | _, _ => true
def calm : List MOper → List (List Nat) → Nat → List Nat → Bool
  | [], _, _, _ => true
  | _ :: _, [], _, _ => false
  | o :: os, pr :: prs, k, cs => calmPairs pr o.op.cls k cs && calm os prs (k + 1) (o.op.cls :: cs)
theorem clash_ok {a b : Note} (h : clash b.cls a.cls = false) : pairOk a b = true := by
  obtain ⟨ac, ao, ah, ah'⟩ := a
  obtain ⟨bc, bo, bh, bh'⟩ := b
  unfold pairOk
  unfold clash at h
  simp only at h ⊢
  split
  · simp at h
  · simp at h
  · simp at h
  · simp at h
  · rfl
/-- a note's class is the operation's, or none -/
def NotesOf : List Note → List Nat → Prop
  | [], [] => True
  | n :: ns, c :: cs => (n.cls = c ∨ n.cls = 0) ∧ NotesOf ns cs
  | _, _ => False
theorem noteA_cls (o : MOper) (env : Env) (h h' : Heap) : (noteA o env h h').cls = o.op.cls ∨ (noteA o env h h').cls = 0 := by
  unfold noteA
  split
  · exact .inl rfl
  · exact .inr rfl
theorem clash0 (b : Nat) : clash b 0 = false := by unfold clash; cases Nat.beq b 3 <;> cases Nat.beq b 1 <;> rfl
theorem clash0' (a : Nat) : clash 0 a = false := rfl
theorem pairsOk_calm {pr : List Nat} {n : Note} {c : Nat} (hn : n.cls = c ∨ n.cls = 0) : ∀ (k : Nat) (ns : List Note) (cs : List Nat), NotesOf ns cs → calmPairs pr c k cs = true → pairsOk pr n k ns = true
  | 0, ns, cs, _, _ => by cases ns <;> rfl
  | k + 1, [], cs, _, _ => rfl
  | k + 1, a :: ns, [], hs, _ => hs.elim
  | k + 1, a :: ns, d :: cs, hs, hc => by
    simp only [calmPairs, Bool.and_eq_true, Bool.or_eq_true, Bool.not_eq_true'] at hc
    simp only [pairsOk, Bool.and_eq_true, Bool.or_eq_true]
    refine ⟨?_, pairsOk_calm hn k ns cs hs.2 hc.2⟩
    rcases hc.1 with h | h
    · exact .inl h
    · refine .inr (clash_ok ?_)
      rcases hn with h1 | h1 <;> rcases hs.1 with h2 | h2 <;> rw [h1, h2] <;> first | exact h | exact clash0 _ | exact clash0' _
theorem draw_calm (call : CallF) : ∀ (ops : List MOper) (prs : List (List Nat)) (k : Nat) (ns : List Note) (cs : List Nat) (env : Env) (h : Heap), NotesOf ns cs → calm ops prs k cs = true → drawA call ops prs k ns env h = seqA call noY ops env h
  | [], _, _, _, _, _, _, _, _ => by simp only [drawA, seqA]
  | o :: os, [], _, _, _, _, _, _, hc => by simp only [calm] at hc; cases hc
  | o :: os, pr :: prs, k, ns, cs, env, h, hn, hc => by
    simp only [calm, Bool.and_eq_true] at hc
    simp only [drawA, seqA]
    rw [stepY_noY]
    cases stepA call o env h with
    | none => rfl
    | some x =>
      simp only
      rw [pairsOk_calm (noteA_cls o env h x.2) k ns cs hn hc.1, cond_true]
      exact draw_calm call os prs (k + 1) (noteA o env h x.2 :: ns) (o.op.cls :: cs) _ _ ⟨noteA_cls o env h x.2, hn⟩ hc.2

/-- calls as the machine has them -/
noncomputable def unK (c : CK) : CallF := fun f args h => c f args h (fun v h' => some (v, h'))
theorem unK_eq {c : CallF} {c' : CK} (hc : CRel c c') : unK c' = c := by
  funext f args h
  unfold unK
  rw [hc]
  cases c f args h <;> rfl
noncomputable def regKK (cy : YK → CK) (ops : List MOper) (draw : Option (List (List Nat))) (yl : YK) (kn : KE) : KE :=
  Option.rec (seqKK (cy noYK) yl ops kn) (fun pr => bK (calm ops pr 0 []) (seqKK (cy noYK) noYK ops kn) (fun env h => thenE (drawF (unK (cy noYK)) ops pr 0 [] env h) kn)) draw

abbrev KC := YK → KE → (Nat → KE) → KE → KE
noncomputable def kSkip : KC := fun _ kn _ _ => kn
noncomputable def kReg (cy : YK → CK) (ops : List MOper) (draw : Option (List (List Nat))) : KC := fun yl kn _ _ => regKK cy ops draw yl kn
noncomputable def kSeq (a b : KC) : KC := fun yl kn kx kr => a yl (b yl kn kx kr) kx kr
noncomputable def kCond (c : Opd) (a b : KC) : KC := fun yl kn kx kr env h => (evK c env).onBool (fun t => bK t (a yl kn kx kr env h) (b yl kn kx kr env h)) none
noncomputable def kBlock (id : Nat) (a : KC) : KC := fun yl kn kx kr => a yl kn (fun i => bK (Nat.beq i id) kn (kx i)) kr
noncomputable def kLoop (lf : Nat) (a : KC) : KC := fun yl _ kx kr => Nat.rec (fun _ _ => none) (fun _ ih => a yl ih kx kr) lf
noncomputable def kExit (i : Nat) : KC := fun _ _ kx _ => kx i
noncomputable def kRet : KC := fun _ _ _ kr => kr
noncomputable def kBad : KC := fun _ _ _ _ _ _ => none
noncomputable def kYield (sz p : Nat) (as body : KC) (env : Env) : YK := fun i args h2 k =>
  bK (Nat.beq i sz) (List.rec none (fun x xs _ => List.rec (as noYK (body noYK (fun _ h4 => k (.bool true) h4) (fun _ _ _ => none) (fun _ _ => none)) (fun _ _ _ => none) (fun _ _ => none) (tset env p x) h2) (fun _ _ _ => none) xs) args) none
noncomputable def kRange (cy : YK → CK) (f : Opd) (p : Nat) (as body : KC) : KC := fun _ kn _ _ env h =>
  (evK f env).onFn (fun g first cap => cy (kYield h.sz p as body env) g (appK first (.yd h.sz :: cap)) (halloc h .dead) (fun _ h' => kn env h')) none
noncomputable def codeK (cy : YK → CK) (lf : Nat) (c : MCode) : KC :=
  MCode.rec (motive := fun _ => KC) kSkip (kReg cy) (fun _ _ a b => kSeq a b) (fun c _ _ a b => kCond c a b) (fun id _ a => kBlock id a) (fun _ a => kLoop lf a) kExit kRet kBad (fun f p _ _ a b => kRange cy f p a b) c
def outK (r : Option (Out × Env × Heap)) (kn : KE) (kx : Nat → KE) (kr : KE) : KR :=
  match r with
  | some (.nrm, e, h) => kn e h
  | some (.ex i, e, h) => kx i e h
  | some (.ret, e, h) => kr e h
  | none => none
theorem onFn_cases (v : AV) : (∃ g a b, v = .fn g a b) ∨ (∀ {R : Type} (k : FuncId → List AV → List AV → R) (e : R), v.onFn k e = e) := by
  cases v <;> first | exact .inl ⟨_, _, _, rfl⟩ | exact .inr fun _ _ => rfl
theorem codeK_eq {cy : YF → CallF} {cy' : YK → CK} (hc : ∀ y y', YRel y y' → CRel (cy y) (cy' y')) (lf : Nat) : ∀ (c : MCode) (y : YF) (y' : YK), YRel y y' → ∀ (kn : KE) (kx : Nat → KE) (kr : KE) (env : Env) (h : Heap), codeK cy' lf c y' kn kx kr env h = outK (codeA cy lf y c env h) kn kx kr
  | .skip, _, _, _, _, _, _, _, _ => by simp only [codeA]; rfl
  | .reg ops none, y, y', hy, kn, kx, kr, env, h => by
    simp only [codeA]
    show seqKK (cy' noYK) y' ops kn env h = _
    rw [seqKK_eq (hc _ _ noYK_rel) hy]
    cases seqA (cy noY) y ops env h <;> rfl
  | .reg ops (some pr), y, y', hy, kn, kx, kr, env, h => by
    simp only [codeA]
    show bK (calm ops pr 0 []) (seqKK (cy' noYK) noYK ops kn) (fun env h => thenE (drawF (unK (cy' noYK)) ops pr 0 [] env h) kn) env h = _
    cases hb : calm ops pr 0 [] with
    | true =>
      show seqKK (cy' noYK) noYK ops kn env h = _
      rw [seqKK_eq (hc _ _ noYK_rel) noYK_rel, ← draw_calm (cy noY) ops pr 0 [] [] env h trivial hb]
      cases drawA (cy noY) ops pr 0 [] env h <;> rfl
    | false =>
      show thenE (drawF (unK (cy' noYK)) ops pr 0 [] env h) kn = _
      rw [unK_eq (hc _ _ noYK_rel), drawF_eq]
      cases drawA (cy noY) ops pr 0 [] env h <;> rfl
  | .seq a b, y, y', hy, kn, kx, kr, env, h => by
    simp only [codeA]
    show codeK cy' lf a y' (codeK cy' lf b y' kn kx kr) kx kr env h = _
    rw [codeK_eq hc lf a y y' hy]
    cases codeA cy lf y a env h with
    | none => rfl
    | some x =>
      obtain ⟨o, e, h'⟩ := x
      cases o with
      | nrm => exact codeK_eq hc lf b y y' hy kn kx kr e h'
      | ex i => rfl
      | ret => rfl
  | .cond c a b, y, y', hy, kn, kx, kr, env, h => by
    simp only [codeA]
    show (evK c env).onBool (fun t => bK t (codeK cy' lf a y' kn kx kr env h) (codeK cy' lf b y' kn kx kr env h)) none = _
    rw [evK_eq, codeK_eq hc lf a y y' hy, codeK_eq hc lf b y y' hy]
    cases c.ev env <;> try rfl
    rename_i t
    cases t <;> rfl
  | .block id a, y, y', hy, kn, kx, kr, env, h => by
    simp only [codeA]
    show codeK cy' lf a y' kn (fun i => bK (Nat.beq i id) kn (kx i)) kr env h = _
    rw [codeK_eq hc lf a y y' hy]
    cases codeA cy lf y a env h with
    | none => rfl
    | some x =>
      obtain ⟨o, e, h'⟩ := x
      cases o with
      | nrm => rfl
      | ret => rfl
      | ex i =>
        show bK (Nat.beq i id) kn (kx i) e h' = _
        cases hb : Nat.beq i id <;> simp only [hb, cond_true, cond_false] <;> rfl
  | .loop a, y, y', hy, kn, kx, kr, env, h => by
    simp only [codeA]
    have key : ∀ (n : Nat) (env : Env) (h : Heap), (Nat.rec (fun _ _ => none) (fun _ ih => codeK cy' lf a y' ih kx kr) n : KE) env h = outK (iterA (codeA cy lf y a) n env h) kn kx kr := by
      intro n
      induction n with
      | zero => intro env h; rfl
      | succ n ih =>
        intro env h
        show codeK cy' lf a y' (Nat.rec (fun _ _ => none) (fun _ ih => codeK cy' lf a y' ih kx kr) n : KE) kx kr env h = _
        rw [codeK_eq hc lf a y y' hy]
        simp only [iterA]
        cases codeA cy lf y a env h with
        | none => rfl
        | some x =>
          obtain ⟨o, e, h'⟩ := x
          cases o with
          | nrm => exact ih e h'
          | ex i => rfl
          | ret => rfl
    exact key lf env h
  | .exit _, _, _, _, _, _, _, _, _ => by simp only [codeA]; rfl
  | .ret, _, _, _, _, _, _, _, _ => by simp only [codeA]; rfl
  | .bad, _, _, _, _, _, _, _, _ => by simp only [codeA]; rfl
  | .range f p as body, y, y', hy, kn, kx, kr, env, h => by
    simp only [codeA]
    show (evK f env).onFn (fun g first cap => cy' (kYield h.sz p (codeK cy' lf as) (codeK cy' lf body) env) g (appK first (.yd h.sz :: cap)) (halloc h .dead) (fun _ h' => kn env h')) none = _
    rw [evK_eq]
    rcases onFn_cases (f.ev env) with ⟨g, first, cap, e⟩ | e
    · rw [e]
      show cy' (kYield h.sz p (codeK cy' lf as) (codeK cy' lf body) env) g (appK first (.yd h.sz :: cap)) (halloc h .dead) (fun _ h' => kn env h') = _
      rw [hc _ (kYield h.sz p (codeK cy' lf as) (codeK cy' lf body) env) ?_, appK_eq, halloc_eq]
      · simp only [List.append_assoc, List.singleton_append]
        split
        · rename_i v h' e2; rw [e2]; rfl
        · rename_i e2; rw [e2]; rfl
      · intro i args h2 k
        unfold kYield
        rw [bK_eq]
        simp only
        cases Nat.beq i h.sz with
        | false => rfl
        | true =>
          simp only [cond_true]
          match args with
          | [] => rfl
          | _ :: _ :: _ => rfl
          | [x] =>
            show codeK cy' lf as noYK (codeK cy' lf body noYK (fun _ h4 => k (.bool true) h4) (fun _ _ _ => none) (fun _ _ => none)) (fun _ _ _ => none) (fun _ _ => none) (tset env p x) h2 = _
            rw [codeK_eq hc lf as noY noYK noYK_rel, tset_eq]
            simp only
            cases codeA cy lf noY as (Tr.set env p x) h2 with
            | none => rfl
            | some z =>
              obtain ⟨o, e1, h3⟩ := z
              cases o with
              | ex i => rfl
              | ret => rfl
              | nrm =>
                show codeK cy' lf body noYK (fun _ h4 => k (.bool true) h4) (fun _ _ _ => none) (fun _ _ => none) e1 h3 = _
                rw [codeK_eq hc lf body noY noYK noYK_rel]
                simp only
                cases codeA cy lf noY body e1 h3 with
                | none => rfl
                | some z => obtain ⟨o, e1, h3⟩ := z; cases o <;> rfl
    · rw [e]
      split
      · rename_i g first cap e2
        have := e (R := Bool) (fun _ _ _ => true) false
        rw [e2] at this
        cases this
      · rfl

noncomputable def resKK (env : Env) (h : Heap) (rs : List MRes) (k : List AV → KR) : KR := optK (resA env h rs) k none
noncomputable def finKK (res : List MRes) (k : KV) (env : Env) (h : Heap) : KR :=
  resKK env h res (fun vs => List.rec (k (.tup []) h) (fun v ws _ => List.rec (k v h) (fun _ _ _ => k (.tup (v :: ws)) h) ws) vs)
def setAllK : Env → Nat → List AV → Env := fun env n vs => setAll env n vs
noncomputable def argK (vs : List AV) : Env → Nat → Env := List.rec (fun e _ => e) (fun v _ ih e n => ih (tset e n v) (Nat.succ n)) vs
theorem argK_eq : ∀ (vs : List AV) (e : Env) (n : Nat), argK vs e n = setAll e n vs
  | [], _, _ => rfl
  | v :: vs, e, n => by show argK vs (tset e n v) (Nat.succ n) = _; rw [argK_eq vs, tset_eq]; rfl
noncomputable def funcKK (cy : YK → CK) (lf : Nat) (yl : YK) (m : MFunc) (args : List AV) (h : Heap) (k : KV) : KR :=
  bK (Nat.ble (lenK args) m.nt) (codeK cy lf m.body yl (finKK m.res k) (fun _ _ _ => none) (finKK m.res k) (argK args .nil 0) h) none
theorem funcKK_eq {cy : YF → CallF} {cy' : YK → CK} (hc : ∀ y y', YRel y y' → CRel (cy y) (cy' y')) (lf : Nat) {y : YF} {y' : YK} (hy : YRel y y') (m : MFunc) (args : List AV) (h : Heap) (k : KV) : funcKK cy' lf y' m args h k = thenK (funcA cy lf y m args h) k := by
  unfold funcKK funcA
  rw [bK_eq, lenK_eq, codeK_eq hc lf m.body y y' hy, argK_eq]
  have fin : ∀ env h', finKK m.res k env h' = thenK (match resA env h' m.res with | some [v] => some (v, h') | some vs => some (.tup vs, h') | none => none) k := by
    intro env h'
    unfold finKK resKK
    rw [optK_eq]
    cases resA env h' m.res with
    | none => rfl
    | some vs => match vs with
      | [] => rfl
      | [_] => rfl
      | _ :: _ :: _ => rfl
  cases Nat.ble args.length m.nt with
  | false => rfl
  | true =>
    simp only [cond_true]
    cases codeA cy lf y m.body (setAll .nil 0 args) h with
    | none => rfl
    | some x =>
      obtain ⟨o, e, h'⟩ := x
      cases o with
      | ex i => rfl
      | nrm => exact fin e h'
      | ret => exact fin e h'
noncomputable def entKK (cy : MFunc → List AV → Heap → KV → KR) (args : List AV) (h : Heap) (k : KV) (e : Ent) : KR := Ent.rec (fun m => cy m args h k) (fun g => optK (g args h) (fun r => k r.1 r.2) none) e
noncomputable def callYK (T : FuncId → Option Ent) (lf : Nat) (n : Nat) : YK → CK :=
  Nat.rec (motive := fun _ => YK → CK) (fun _ _ _ _ _ => none) (fun _ ih yl f args h k => optK (T f) (entKK (funcKK ih lf yl) args h k) none) n
theorem callYK_eq (T : FuncId → Option Ent) (lf : Nat) : ∀ (n : Nat) (y : YF) (y' : YK), YRel y y' → CRel (callY T lf n y) (callYK T lf n y')
  | 0, _, _, _ => fun _ _ _ _ => rfl
  | n + 1, y, y', hy => fun f args h k => by
    show optK (T f) (entKK (funcKK (callYK T lf n) lf y') args h k) none = _
    rw [optK_eq]
    simp only [callY]
    cases T f with
    | none => rfl
    | some e => cases e with
      | fn m => exact funcKK_eq (fun y y' hy => callYK_eq T lf n y y' hy) lf hy m args h k
      | intr g => show optK (g args h) (fun r => k r.1 r.2) none = _; rw [optK_eq]; simp only; cases g args h <;> rfl
noncomputable def callK (T : FuncId → Option Ent) (lf n : Nat) (f : FuncId) (args : List AV) (h : Heap) (k : KV) : KR := callYK T lf n noYK f args h k
theorem callK_eq (T : FuncId → Option Ent) (lf n : Nat) (f : FuncId) (args : List AV) (h : Heap) (k : KV) : callK T lf n f args h k = thenK (callA T lf n f args h) k := callYK_eq T lf n noY noYK noYK_rel f args h k
/-- what the kernel runs: a check of what comes out -/
theorem callK_run {T : FuncId → Option Ent} {lf n : Nat} {f : FuncId} {args : List AV} {h : Heap} {p : AV → Heap → Bool} (e : (callK T lf n f args h fun v h' => bK (p v h') (some (v, h')) none).isSome = true) : ∃ v h', callA T lf n f args h = some (v, h') ∧ p v h' = true := by
  rw [callK_eq] at e
  cases hc : callA T lf n f args h with
  | none => rw [hc] at e; cases e
  | some x =>
    obtain ⟨v, h'⟩ := x
    rw [hc] at e
    refine ⟨v, h', rfl, ?_⟩
    simp only [thenK, bK_eq] at e
    cases hp : p v h' with
    | true => rfl
    | false => rw [hp] at e; cases e
end Go.Ab
