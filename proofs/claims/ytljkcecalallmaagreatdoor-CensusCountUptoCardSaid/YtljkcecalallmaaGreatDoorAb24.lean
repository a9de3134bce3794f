/- Big steps: what a run does, whatever its bounds. -/
import Derived.Test.YtljkcecalallmaaGreatDoorAb23
namespace Go.Ab
open Go

def CLe (c c' : CallF) : Prop := ∀ f args h r, c f args h = some r → c' f args h = some r
def YLe (y y' : YF) : Prop := ∀ i args h r, y i args h = some r → y' i args h = some r
theorem CLe.refl (c : CallF) : CLe c c := fun _ _ _ _ e => e
theorem YLe.refl (y : YF) : YLe y y := fun _ _ _ _ e => e
theorem YLe.noY (y : YF) : YLe noY y := fun _ _ _ _ e => by cases e

theorem stepA_up {c c' : CallF} (hc : CLe c c') {o : MOper} {env : Env} {h : Heap} {r} (e : stepA c o env h = some r) : stepA c' o env h = some r := by
  unfold stepA at e ⊢
  split at e
  · cases e
  · exact e
  · split at e
    · split at e
      · exact hc _ _ _ _ e
      · cases e
    · exact e
theorem stepY_up {c c' : CallF} (hc : CLe c c') {y y' : YF} (hy : YLe y y') {o : MOper} {env : Env} {h : Heap} {r} (e : stepY c y o env h = some r) : stepY c' y' o env h = some r := by
  unfold stepY at e ⊢
  split at e
  · cases e
  · exact e
  · split at e
    · split at e
      · exact hc _ _ _ _ e
      · exact hy _ _ _ _ e
      · cases e
    · exact e
theorem seqA_up {c c' : CallF} (hc : CLe c c') {y y' : YF} (hy : YLe y y') : ∀ {ops : List MOper} {env : Env} {h : Heap} {r}, seqA c y ops env h = some r → seqA c' y' ops env h = some r
  | [], _, _, _, e => e
  | o :: os, env, h, r, e => by
    simp only [seqA] at e ⊢
    split at e
    · rename_i v h' es
      rw [stepY_up hc hy es]
      exact seqA_up hc hy e
    · cases e
theorem drawA_up {c c' : CallF} (hc : CLe c c') : ∀ {ops : List MOper} {prs : List (List Nat)} {k : Nat} {ns : List Note} {env : Env} {h : Heap} {r}, drawA c ops prs k ns env h = some r → drawA c' ops prs k ns env h = some r
  | [], _, _, _, _, _, _, e => by simpa only [drawA] using e
  | _ :: _, [], _, _, _, _, _, e => by simp only [drawA] at e; cases e
  | o :: os, pr :: prs, k, ns, env, h, r, e => by
    simp only [drawA] at e ⊢
    split at e
    · rename_i v h' es
      rw [stepA_up hc es]
      simp only
      cases hp : pairsOk pr (noteA o env h h') k ns with
      | false => rw [hp] at e; cases e
      | true =>
        rw [hp] at e
        exact drawA_up hc e
    · cases e
theorem iterA_up {b b' : Env → Heap → Option (Out × Env × Heap)} (hb : ∀ env h r, b env h = some r → b' env h = some r) : ∀ {n n' : Nat}, n ≤ n' → ∀ {env : Env} {h : Heap} {r}, iterA b n env h = some r → iterA b' n' env h = some r
  | 0, _, _, _, _, _, e => by cases e
  | n + 1, 0, hn, _, _, _, _ => by omega
  | n + 1, n' + 1, hn, env, h, r, e => by
    simp only [iterA] at e ⊢
    split at e
    · rename_i env' h' es
      rw [hb _ _ _ es]
      exact iterA_up hb (by omega) e
    · rename_i es
      rw [e] at es
      rw [hb _ _ _ e]
      split
      · rename_i e2; rw [Option.some.injEq] at e2; subst e2; exact (es _ _ rfl).elim
      · rfl

theorem codeA_up {cy cy' : YF → CallF} (hc : ∀ y y', YLe y y' → CLe (cy y) (cy' y')) {lf lf' : Nat} (hl : lf ≤ lf') : ∀ (c : MCode) (y y' : YF), YLe y y' → ∀ (env : Env) (h : Heap) (r : Out × Env × Heap), codeA cy lf y c env h = some r → codeA cy' lf' y' c env h = some r
  | .skip, _, _, _, _, _, _, e => by simpa only [codeA] using e
  | .reg ops none, y, y', hy, env, h, r, e => by
    simp only [codeA] at e ⊢
    split at e
    · rename_i es; rw [seqA_up (hc _ _ (YLe.refl _)) hy es]; exact e
    · cases e
  | .reg ops (some pr), y, y', hy, env, h, r, e => by
    simp only [codeA] at e ⊢
    split at e
    · rename_i es; rw [drawA_up (hc _ _ (YLe.refl _)) es]; exact e
    · cases e
  | .seq a b, y, y', hy, env, h, r, e => by
    simp only [codeA] at e ⊢
    split at e
    · rename_i es; rw [codeA_up hc hl a y y' hy _ _ _ es]; exact codeA_up hc hl b y y' hy _ _ _ e
    · rename_i es
      rw [codeA_up hc hl a y y' hy _ _ _ e]
      split
      · rename_i e2; rw [Option.some.injEq] at e2; subst e2; exact (es _ _ e).elim
      · rfl
  | .cond c a b, y, y', hy, env, h, r, e => by
    simp only [codeA] at e ⊢
    split at e
    · exact codeA_up hc hl a y y' hy _ _ _ e
    · exact codeA_up hc hl b y y' hy _ _ _ e
    · cases e
  | .block id a, y, y', hy, env, h, r, e => by
    simp only [codeA] at e ⊢
    split at e
    · rename_i es; rw [codeA_up hc hl a y y' hy _ _ _ es]; exact e
    · rename_i es
      rw [codeA_up hc hl a y y' hy _ _ _ e]
      split
      · rename_i e2; rw [Option.some.injEq] at e2; subst e2; exact (es _ _ _ e).elim
      · rfl
  | .loop a, y, y', hy, env, h, r, e => by
    simp only [codeA] at e ⊢
    exact iterA_up (fun env h r e => codeA_up hc hl a y y' hy env h r e) hl e
  | .exit _, _, _, _, _, _, _, e => by simpa only [codeA] using e
  | .ret, _, _, _, _, _, _, e => by simpa only [codeA] using e
  | .bad, _, _, _, _, _, _, e => by simpa only [codeA] using e
  | .range f p as body, y, y', hy, env, h, r, e => by
    simp only [codeA] at e ⊢
    split at e
    · rename_i g first cap hf
      split at e
      · rename_i v h' es
        rw [hc _ _ ?_ _ _ _ _ es]
        · exact e
        · intro i args h2 r2 e2
          simp only at e2 ⊢
          cases hi : i.beq h.sz with
          | false => rw [hi] at e2; cases e2
          | true =>
            rw [hi] at e2
            simp only [cond_true] at e2 ⊢
            split at e2
            · rename_i x
              split at e2
              · rename_i e1 h3 es1
                rw [codeA_up hc hl as noY noY (YLe.refl _) _ _ _ es1]
                simp only
                split at e2
                · rename_i es2
                  rw [codeA_up hc hl body noY noY (YLe.refl _) _ _ _ es2]
                  exact e2
                · cases e2
              · cases e2
            · cases e2
      · cases e
    · cases e
theorem funcA_up {cy cy' : YF → CallF} (hc : ∀ y y', YLe y y' → CLe (cy y) (cy' y')) {lf lf' : Nat} (hl : lf ≤ lf') {y y' : YF} (hy : YLe y y') {m : MFunc} {args : List AV} {h : Heap} {r} (e : funcA cy lf y m args h = some r) : funcA cy' lf' y' m args h = some r := by
  unfold funcA at e ⊢
  cases hb : Nat.ble args.length m.nt with
  | false => rw [hb] at e; cases e
  | true =>
    rw [hb] at e
    simp only [cond_true] at e ⊢
    split at e
    · cases e
    · cases e
    · rename_i out env h' hne es
      rw [codeA_up hc hl _ _ _ hy _ _ _ es]
      split
      · rename_i e2; cases e2; exact (hne _ rfl).elim
      · rename_i e2; cases e2
      · rename_i e2; cases e2; exact e
theorem callY_up {T : FuncId → Option Ent} {lf lf' : Nat} (hl : lf ≤ lf') : ∀ {n n' : Nat}, n ≤ n' → ∀ (y y' : YF), YLe y y' → CLe (callY T lf n y) (callY T lf' n' y')
  | 0, _, _, _, _, _ => fun f args h r e => by cases e
  | n + 1, 0, hn, _, _, _ => by omega
  | n + 1, n' + 1, hn, y, y', hy => fun f args h r e => by
    simp only [callY] at e ⊢
    split at e
    · exact funcA_up (fun y y' hy => callY_up hl (by omega) y y' hy) hl hy e
    · exact e
    · cases e

/-- the call answers, and what it answers is as said -/
def WR (T : FuncId → Option Ent) (f : FuncId) (args : List AV) (h : Heap) (Q : AV → Heap → Prop) : Prop :=
  ∃ lf n v h', callY T lf n noY f args h = some (v, h') ∧ Q v h'
/-- the code ends, and how it ends is as said -/
def WC (T : FuncId → Option Ent) (c : MCode) (env : Env) (h : Heap) (Q : Out → Env → Heap → Prop) : Prop :=
  ∃ lf n o env' h', codeA (callY T lf n) lf noY c env h = some (o, env', h') ∧ Q o env' h'
def WS (T : FuncId → Option Ent) (ops : List MOper) (env : Env) (h : Heap) (Q : Env → Heap → Prop) : Prop :=
  ∃ lf n env' h', seqA (callY T lf n noY) noY ops env h = some (env', h') ∧ Q env' h'
def WD (T : FuncId → Option Ent) (ops : List MOper) (prs : List (List Nat)) (k : Nat) (ns : List Note) (env : Env) (h : Heap) (Q : Env → Heap → Prop) : Prop :=
  ∃ lf n env' h', drawA (callY T lf n noY) ops prs k ns env h = some (env', h') ∧ Q env' h'
/-- one step -/
def WO (T : FuncId → Option Ent) (o : MOper) (env : Env) (h : Heap) (Q : AV → Heap → Prop) : Prop :=
  ∃ lf n v h', stepY (callY T lf n noY) noY o env h = some (v, h') ∧ Q v h'

section
variable {T : FuncId → Option Ent}
theorem WR.mono {f args h} {Q Q' : AV → Heap → Prop} (w : WR T f args h Q) (k : ∀ v h', Q v h' → Q' v h') : WR T f args h Q' := by
  obtain ⟨lf, n, v, h', e, q⟩ := w
  exact ⟨lf, n, v, h', e, k _ _ q⟩
theorem WC.mono {c env h} {Q Q' : Out → Env → Heap → Prop} (w : WC T c env h Q) (k : ∀ o env' h', Q o env' h' → Q' o env' h') : WC T c env h Q' := by
  obtain ⟨lf, n, o, env', h', e, q⟩ := w
  exact ⟨lf, n, o, env', h', e, k _ _ _ q⟩
theorem codeUp {lf lf' n n' : Nat} (hl : lf ≤ lf') (hn : n ≤ n') {c : MCode} {env : Env} {h : Heap} {r} (e : codeA (callY T lf n) lf noY c env h = some r) : codeA (callY T lf' n') lf' noY c env h = some r :=
  codeA_up (fun y y' hy => callY_up hl hn y y' hy) hl c noY noY (YLe.refl _) env h r e
theorem WC.skip {env h} {Q : Out → Env → Heap → Prop} (q : Q .nrm env h) : WC T .skip env h Q := ⟨0, 0, _, _, _, by simp only [codeA], q⟩
theorem WC.ret {env h} {Q : Out → Env → Heap → Prop} (q : Q .ret env h) : WC T .ret env h Q := ⟨0, 0, _, _, _, by simp only [codeA], q⟩
theorem WC.exit {i env h} {Q : Out → Env → Heap → Prop} (q : Q (.ex i) env h) : WC T (.exit i) env h Q := ⟨0, 0, _, _, _, by simp only [codeA], q⟩
theorem WC.seq {a b env h} {Q : Out → Env → Heap → Prop} (w : WC T a env h fun o env' h' => match o with | .nrm => WC T b env' h' Q | .ex i => Q (.ex i) env' h' | .ret => Q .ret env' h') : WC T (.seq a b) env h Q := by
  obtain ⟨lf, n, o, env', h', e, q⟩ := w
  cases o with
  | nrm =>
    obtain ⟨lf2, n2, o2, env2, h2, e2, q2⟩ := q
    refine ⟨max lf lf2, max n n2, o2, env2, h2, ?_, q2⟩
    simp only [codeA]
    rw [codeUp (Nat.le_max_left _ _) (Nat.le_max_left _ _) e]
    exact codeUp (Nat.le_max_right _ _) (Nat.le_max_right _ _) e2
  | ex i => exact ⟨lf, n, _, _, _, by simp only [codeA]; rw [e], q⟩
  | ret => exact ⟨lf, n, _, _, _, by simp only [codeA]; rw [e], q⟩
theorem WC.cond {c a b env h} {Q : Out → Env → Heap → Prop} {t : Bool} (hc : c.ev env = .bool t) (ha : t = true → WC T a env h Q) (hb : t = false → WC T b env h Q) : WC T (.cond c a b) env h Q := by
  cases t with
  | true => obtain ⟨lf, n, o, env', h', e, q⟩ := ha rfl; exact ⟨lf, n, o, env', h', by simp only [codeA, hc]; exact e, q⟩
  | false => obtain ⟨lf, n, o, env', h', e, q⟩ := hb rfl; exact ⟨lf, n, o, env', h', by simp only [codeA, hc]; exact e, q⟩
theorem WC.block {id a env h} {Q : Out → Env → Heap → Prop} (w : WC T a env h fun o env' h' => match o with | .nrm => Q .nrm env' h' | .ex i => bif i.beq id then Q .nrm env' h' else Q (.ex i) env' h' | .ret => Q .ret env' h') : WC T (.block id a) env h Q := by
  obtain ⟨lf, n, o, env', h', e, q⟩ := w
  cases o with
  | nrm => exact ⟨lf, n, _, _, _, by simp only [codeA]; rw [e], q⟩
  | ret => exact ⟨lf, n, _, _, _, by simp only [codeA]; rw [e], q⟩
  | ex i =>
    cases hi : i.beq id with
    | true => simp only [hi, cond_true] at q; exact ⟨lf, n, _, _, _, by simp only [codeA]; rw [e]; simp only [hi, cond_true], q⟩
    | false => simp only [hi, cond_false] at q; exact ⟨lf, n, _, _, _, by simp only [codeA]; rw [e]; simp only [hi, cond_false], q⟩
/-- a loop, by what holds ahead of each round and falls -/
theorem WC.loop {c env h} {Q : Out → Env → Heap → Prop} (I : Nat → Env → Heap → Prop) {k : Nat} (h0 : I k env h)
    (hs : ∀ k env h, I k env h → WC T c env h fun o env' h' => match o with | .nrm => ∃ m, m < k ∧ I m env' h' | .ex i => Q (.ex i) env' h' | .ret => Q .ret env' h') : WC T (.loop c) env h Q := by
  induction k using Nat.strongRecOn generalizing env h with
  | ind k ih =>
    obtain ⟨lf, n, o, env', h', e, q⟩ := hs k env h h0
    have key : ∀ {lf n}, (∀ e h, codeA (callY T lf n) lf noY (.loop c) e h = iterA (codeA (callY T lf n) lf noY c) lf e h) := fun e h => by simp only [codeA]
    cases o with
    | nrm =>
      obtain ⟨m, hm, hI⟩ := q
      obtain ⟨lf2, n2, o2, env2, h2, e2, q2⟩ := ih m hm hI
      refine ⟨max lf lf2 + 1, max n n2, o2, env2, h2, ?_, q2⟩
      rw [key] at e2 ⊢
      simp only [iterA]
      rw [codeUp (by omega) (Nat.le_max_left n n2) e]
      exact iterA_up (fun env h r e => codeUp (by omega) (Nat.le_max_right n n2) e) (by omega) e2
    | ex i =>
      refine ⟨lf + 1, n, _, _, _, ?_, q⟩
      rw [key]; simp only [iterA]; rw [codeUp (by omega) (Nat.le_refl n) e]
    | ret =>
      refine ⟨lf + 1, n, _, _, _, ?_, q⟩
      rw [key]; simp only [iterA]; rw [codeUp (by omega) (Nat.le_refl n) e]
theorem WC.reg {ops env h} {Q : Out → Env → Heap → Prop} (w : WS T ops env h fun env' h' => Q .nrm env' h') : WC T (.reg ops none) env h Q := by
  obtain ⟨lf, n, env', h', e, q⟩ := w
  exact ⟨lf, n, _, _, _, by simp only [codeA]; rw [e], q⟩
theorem WC.draw {ops prs env h} {Q : Out → Env → Heap → Prop} (w : WD T ops prs 0 [] env h fun env' h' => Q .nrm env' h') : WC T (.reg ops (some prs)) env h Q := by
  obtain ⟨lf, n, env', h', e, q⟩ := w
  exact ⟨lf, n, _, _, _, by simp only [codeA]; rw [e], q⟩
theorem WS.nil {env h} {Q : Env → Heap → Prop} (q : Q env h) : WS T [] env h Q := ⟨0, 0, _, _, rfl, q⟩
theorem WS.cons {o ops env h} {Q : Env → Heap → Prop} (w : WO T o env h fun v h' => WS T ops (putA env o.dst v) h' Q) : WS T (o :: ops) env h Q := by
  obtain ⟨lf, n, v, h', e, lf2, n2, env2, h2, e2, q⟩ := w
  refine ⟨max lf lf2, max n n2, env2, h2, ?_, q⟩
  simp only [seqA]
  rw [stepY_up (callY_up (Nat.le_max_left _ lf2) (Nat.le_max_left _ n2) _ _ (YLe.refl _)) (YLe.refl _) e]
  exact seqA_up (callY_up (Nat.le_max_right lf _) (Nat.le_max_right n _) _ _ (YLe.refl _)) (YLe.refl _) e2
theorem WD.nil {prs k ns env h} {Q : Env → Heap → Prop} (q : Q env h) : WD T [] prs k ns env h Q := ⟨0, 0, _, _, by simp only [drawA], q⟩
theorem WD.cons {o ops pr prs k ns env h} {Q : Env → Heap → Prop} (w : WO T o env h fun v h' => pairsOk pr (noteA o env h h') k ns = true ∧ WD T ops prs (k + 1) (noteA o env h h' :: ns) (putA env o.dst v) h' Q) : WD T (o :: ops) (pr :: prs) k ns env h Q := by
  obtain ⟨lf, n, v, h', e, hp, lf2, n2, env2, h2, e2, q⟩ := w
  rw [stepY_noY] at e
  refine ⟨max lf lf2, max n n2, env2, h2, ?_, q⟩
  simp only [drawA]
  rw [stepA_up (callY_up (Nat.le_max_left _ lf2) (Nat.le_max_left _ n2) _ _ (YLe.refl _)) e]
  simp only [hp, cond_true]
  exact drawA_up (callY_up (Nat.le_max_right lf _) (Nat.le_max_right n _) _ _ (YLe.refl _)) e2
/-- an operation that is no call, without a guard -/
theorem WO.op {m : MOp} {dst env h} {Q : AV → Heap → Prop} {v : AV} {h' : Heap} (hm : ∀ f a, m ≠ .call f a) (e : opA m env h = some (v, h')) (q : Q v h') : WO T ⟨dst, m, none⟩ env h Q := by
  refine ⟨0, 0, v, h', ?_, q⟩
  cases m <;> first | exact (hm _ _ rfl).elim | exact e
theorem WO.call {f : Opd} {as : List Opd} {dst env h g first cap} {Q : AV → Heap → Prop} (hf : f.ev env = .fn g first cap) (w : WR T g (first ++ as.map (·.ev env) ++ cap) h Q) : WO T ⟨dst, .call f as, none⟩ env h Q := by
  obtain ⟨lf, n, v, h', e, q⟩ := w
  refine ⟨lf, n, v, h', ?_, q⟩
  unfold stepY wantedA
  simp only [hf]
  exact e
theorem WO.guard {m : MOp} {dst t want b env h} {Q : AV → Heap → Prop} (hg : (Opd.t t).ev env = .bool b) (h1 : b = want → WO T ⟨dst, m, none⟩ env h Q) (h2 : b ≠ want → Q undefA h) : WO T ⟨dst, m, some (t, want)⟩ env h Q := by
  by_cases hb : b = want
  · obtain ⟨lf, n, v, h', e, q⟩ := h1 hb
    refine ⟨lf, n, v, h', ?_, q⟩
    unfold stepY wantedA at e ⊢
    simp only [hg, hb, beq_self_eq_true] at e ⊢
    exact e
  · refine ⟨0, 0, undefA, h, ?_, h2 hb⟩
    unfold stepY wantedA
    have : (b == want) = false := by simpa using hb
    simp only [hg, this]
theorem WO.guardU {m : MOp} {dst t want vs env h} {Q : AV → Heap → Prop} (hg : (Opd.t t).ev env = .tup vs) (q : Q undefA h) : WO T ⟨dst, m, some (t, want)⟩ env h Q := by
  refine ⟨0, 0, undefA, h, ?_, q⟩
  unfold stepY wantedA
  simp only [hg]
/-- a function's call -/
theorem WR.fn {f m args h} {Q : AV → Heap → Prop} (hT : T f = some (.fn m)) (ha : Nat.ble args.length m.nt = true)
    (w : WC T m.body (setAll .nil 0 args) h fun o env' h' => (∀ i, o ≠ .ex i) ∧ ∃ vs, resA env' h' m.res = some vs ∧ Q (match vs with | [v] => v | vs => .tup vs) h') : WR T f args h Q := by
  obtain ⟨lf, n, o, env', h', e, q1, vs, q2, q3⟩ := w
  refine ⟨lf, n + 1, _, h', ?_, q3⟩
  simp only [callY, hT]
  unfold funcA
  rw [ha, e]
  simp only [cond_true]
  have fin : ∀ vs : List AV, (match (some vs : Option (List AV)) with | some [v] => some (v, h') | some vs => some (AV.tup vs, h') | none => none) = some ((match vs with | [v] => v | vs => AV.tup vs), h') := fun vs => by
    match vs with
    | [] => rfl
    | [_] => rfl
    | _ :: _ :: _ => rfl
  cases o with
  | ex i => exact (q1 i rfl).elim
  | nrm => simp only [q2]; exact fin vs
  | ret => simp only [q2]; exact fin vs
theorem WR.intr {f g args h v h'} {Q : AV → Heap → Prop} (hT : T f = some (.intr g)) (e : g args h = some (v, h')) (q : Q v h') : WR T f args h Q :=
  ⟨0, 1, v, h', by simp only [callY, hT]; exact e, q⟩
theorem WR.run {lf n f args h v h'} {Q : AV → Heap → Prop} (e : callA T lf n f args h = some (v, h')) (q : Q v h') : WR T f args h Q := ⟨lf, n, v, h', e, q⟩
theorem WR.runs {f args h} {Q : AV → Heap → Prop} (w : WR T f args h Q) : ∃ lf n v h', callA T lf n f args h = some (v, h') ∧ Q v h' := w
end
end Go.Ab
