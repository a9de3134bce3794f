/- Symbolic steps: temporaries as lists. -/
import Derived.Test.YtljkcecalallmaaGreatDoorAb24
namespace Go.Ab
open Go

abbrev EL := List (Nat × AV)
def look : EL → Nat → Option AV
  | [], _ => none
  | (k, v) :: E, n => bif Nat.beq k n then some v else look E n
def evE (E : EL) : Opd → Option AV
  | .t n => look E n
  | .c v => some v
def evEs (E : EL) : List Opd → Option (List AV)
  | [] => some []
  | x :: xs => match evE E x with
    | some v => match evEs E xs with | some vs => some (v :: vs) | none => none
    | none => none
def evO (E : EL) : Option Opd → Option (Option AV)
  | none => some none
  | some x => match evE E x with | some v => some (some v) | none => none
def evPs (E : EL) : List (Nat × Nat × Opd) → Option (List (Nat × Nat × AV))
  | [] => some []
  | (a, b, x) :: xs => match evE E x with
    | some v => match evPs E xs with | some vs => some ((a, b, v) :: vs) | none => none
    | none => none
def Agree (E : EL) (env : Env) : Prop := ∀ n v, look E n = some v → env.get n = some v
theorem Agree.ev {E : EL} {env : Env} (a : Agree E env) {x : Opd} {v : AV} (h : evE E x = some v) : x.ev env = v := by
  cases x with
  | t n => simp only [evE] at h; simp only [Opd.ev, a n v h]
  | c w => simp only [evE, Option.some.injEq] at h; exact h
theorem Agree.evs {E : EL} {env : Env} (a : Agree E env) : ∀ {xs : List Opd} {vs : List AV}, evEs E xs = some vs → xs.map (·.ev env) = vs
  | [], vs, h => by simp only [evEs, Option.some.injEq] at h; subst h; rfl
  | x :: xs, vs, h => by
    simp only [evEs] at h
    split at h
    · rename_i v hv
      split at h
      · rename_i ws hw
        cases h
        simp only [List.map_cons, a.ev hv, a.evs hw]
      · cases h
    · cases h
theorem Agree.evo {E : EL} {env : Env} (a : Agree E env) {x : Option Opd} {v : Option AV} (h : evO E x = some v) : x.map (·.ev env) = v := by
  cases x with
  | none => simp only [evO, Option.some.injEq] at h; subst h; rfl
  | some x =>
    simp only [evO] at h
    split at h
    · rename_i w hw; cases h; simp only [Option.map_some, a.ev hw]
    · cases h
theorem Agree.evps {E : EL} {env : Env} (a : Agree E env) : ∀ {ps : List (Nat × Nat × Opd)} {qs : List (Nat × Nat × AV)}, evPs E ps = some qs → (ps.map fun p => (p.1, p.2.1, p.2.2.ev env)) = qs
  | [], qs, h => by simp only [evPs, Option.some.injEq] at h; subst h; rfl
  | (i, j, x) :: xs, qs, h => by
    simp only [evPs] at h
    split at h
    · rename_i v hv
      split at h
      · rename_i ws hw
        cases h
        simp only [List.map_cons, a.ev hv, a.evps hw]
      · cases h
    · cases h
def putE (E : EL) (d : Option Nat) (v : AV) : EL := match d with | some d => (d, v) :: E | none => E
theorem look_cons (k : Nat) (v : AV) (E : EL) (n : Nat) : look ((k, v) :: E) n = if n = k then some v else look E n := by
  simp only [look]
  by_cases h : n = k
  · subst h; simp
  · have : Nat.beq k n = false := beqF (fun e => h e.symm)
    simp [this, h]
theorem Agree.put {E : EL} {env : Env} (a : Agree E env) (d : Option Nat) (v : AV) : Agree (putE E d v) (putA env d v) := by
  cases d with
  | none => exact a
  | some d =>
    intro n w h
    simp only [putE, look_cons] at h
    simp only [putA, Tr.get_set]
    split at h
    · rename_i e; rw [if_pos e]; exact h
    · rename_i e; rw [if_neg e]; exact a n w h
theorem Agree.cons {E : EL} {env : Env} (a : Agree E env) (d : Nat) (v : AV) : Agree ((d, v) :: E) (env.set d v) := a.put (some d) v
/-- less is said -/
def Sub (E' E : EL) : Prop := ∀ n v, look E' n = some v → look E n = some v
theorem Sub.refl (E : EL) : Sub E E := fun _ _ h => h
theorem Sub.nil (E : EL) : Sub [] E := fun _ _ h => by cases h
theorem Sub.cons {E' E : EL} {n : Nat} {v : AV} (h : look E n = some v) (s : Sub E' E) : Sub ((n, v) :: E') E := by
  intro m w e
  rw [look_cons] at e
  split at e
  · rename_i e2; subst e2; rw [← e]; exact h
  · exact s m w e
theorem Agree.sub {E' E : EL} {env : Env} (a : Agree E env) (s : Sub E' E) : Agree E' env := fun n v h => a n v (s n v h)
def argE : Nat → List AV → EL
  | _, [] => []
  | k, v :: vs => (k, v) :: argE (k + 1) vs
theorem argE_get : ∀ (vs : List AV) (k n : Nat) (v : AV), look (argE k vs) n = some v → k ≤ n ∧ n < k + vs.length ∧ vs[n - k]? = some v
  | [], _, _, _, h => by cases h
  | w :: ws, k, n, v, h => by
    simp only [argE, look_cons] at h
    split at h
    · rename_i e; subst e; cases h; simp
    · have := argE_get ws (k + 1) n v h
      refine ⟨by omega, by simp; omega, ?_⟩
      have e : n - k = (n - (k + 1)) + 1 := by omega
      rw [e]; simpa using this.2.2
theorem agree_args (vs : List AV) : Agree (argE 0 vs) (setAll .nil 0 vs) := by
  intro n v h
  have := argE_get vs 0 n v h
  rw [setAll_get, if_pos ⟨by omega, by omega⟩]
  exact this.2.2

abbrev QS := EL → Heap → Prop
def XS (T : FuncId → Option Ent) (ops : List MOper) (E : EL) (h : Heap) (Q : QS) : Prop :=
  ∀ env, Agree E env → WS T ops env h fun env' h' => ∃ E', Agree E' env' ∧ Q E' h'
def XD (T : FuncId → Option Ent) (ops : List MOper) (prs : List (List Nat)) (k : Nat) (ns : List Note) (E : EL) (h : Heap) (Q : QS) : Prop :=
  ∀ env, Agree E env → WD T ops prs k ns env h fun env' h' => ∃ E', Agree E' env' ∧ Q E' h'
def outQ (Qn : QS) (Qx : Nat → QS) (Qr : QS) (o : Out) (E : EL) (h : Heap) : Prop :=
  match o with | .nrm => Qn E h | .ex i => Qx i E h | .ret => Qr E h
def XC (T : FuncId → Option Ent) (c : MCode) (E : EL) (h : Heap) (Qn : QS) (Qx : Nat → QS) (Qr : QS) : Prop :=
  ∀ env, Agree E env → WC T c env h fun o env' h' => ∃ E', Agree E' env' ∧ outQ Qn Qx Qr o E' h'
def xblk (id : Nat) (Qn : QS) (Qx : Nat → QS) (i : Nat) : QS := bif i.beq id then Qn else Qx i
theorem xblk_same {id : Nat} {Qn : QS} {Qx : Nat → QS} {E h} (q : Qn E h) : xblk id Qn Qx id E h := by unfold xblk; rw [show Nat.beq id id = true from Nat.beq_refl id]; exact q
theorem xblk_ne {id i : Nat} {Qn : QS} {Qx : Nat → QS} {E h} (e : i.beq id = false) (q : Qx i E h) : xblk id Qn Qx i E h := by unfold xblk; rw [e]; exact q

section
set_option linter.unusedVariables false
variable {T : FuncId → Option Ent} {E : EL} {h h' : Heap} {Q Qn Qr : QS} {Qx : Nat → QS}
theorem XC.skip (q : Qn E h) : XC T .skip E h Qn Qx Qr := fun _ a => WC.skip ⟨_, a, q⟩
theorem XC.ret (q : Qr E h) : XC T .ret E h Qn Qx Qr := fun _ a => WC.ret ⟨_, a, q⟩
theorem XC.exit {i : Nat} (q : Qx i E h) : XC T (.exit i) E h Qn Qx Qr := fun _ a => WC.exit ⟨_, a, q⟩
theorem XC.seq {a b : MCode} (w : XC T a E h (fun E' h' => XC T b E' h' Qn Qx Qr) Qx Qr) : XC T (.seq a b) E h Qn Qx Qr := fun env ag =>
  WC.seq ((w env ag).mono fun o env' h' ⟨E', ag', q⟩ => by
    cases o with
    | nrm => exact q env' ag'
    | ex i => exact ⟨E', ag', q⟩
    | ret => exact ⟨E', ag', q⟩)
theorem XC.reg {ops : List MOper} (w : XS T ops E h Qn) : XC T (.reg ops none) E h Qn Qx Qr := fun env ag => WC.reg ((w env ag).imp fun _ x => x)
theorem XC.draw {ops : List MOper} {prs : List (List Nat)} (w : XD T ops prs 0 [] E h Qn) : XC T (.reg ops (some prs)) E h Qn Qx Qr := fun env ag => WC.draw ((w env ag).imp fun _ x => x)
theorem XC.cond {c : Opd} {a b : MCode} {t : Bool} (hc : evE E c = some (.bool t)) (ha : t = true → XC T a E h Qn Qx Qr) (hb : t = false → XC T b E h Qn Qx Qr) : XC T (.cond c a b) E h Qn Qx Qr := fun env ag =>
  WC.cond (ag.ev hc) (fun e => ha e env ag) (fun e => hb e env ag)
theorem XC.condT {c : Opd} {a b : MCode} (hc : evE E c = some (.bool true)) (ha : XC T a E h Qn Qx Qr) : XC T (.cond c a b) E h Qn Qx Qr := XC.cond hc (fun _ => ha) (fun e => by cases e)
theorem XC.condF {c : Opd} {a b : MCode} (hc : evE E c = some (.bool false)) (hb : XC T b E h Qn Qx Qr) : XC T (.cond c a b) E h Qn Qx Qr := XC.cond hc (fun e => by cases e) (fun _ => hb)
theorem XC.condP {c : Opd} {a b : MCode} {p : Prop} [Decidable p] (hc : evE E c = some (.bool (decide p))) (ha : p → XC T a E h Qn Qx Qr) (hb : ¬ p → XC T b E h Qn Qx Qr) : XC T (.cond c a b) E h Qn Qx Qr :=
  XC.cond hc (fun e => ha (of_decide_eq_true e)) (fun e => hb (of_decide_eq_false e))
theorem XC.block {id : Nat} {a : MCode} (w : XC T a E h Qn (xblk id Qn Qx) Qr) : XC T (.block id a) E h Qn Qx Qr := fun env ag =>
  WC.block ((w env ag).mono fun o env' h' ⟨E', ag', q⟩ => by
    cases o with
    | nrm => exact ⟨E', ag', q⟩
    | ret => exact ⟨E', ag', q⟩
    | ex i =>
      simp only
      cases hi : i.beq id with
      | true => simp only [outQ, xblk, hi, cond_true] at q; exact ⟨E', ag', q⟩
      | false => simp only [outQ, xblk, hi, cond_false] at q; exact ⟨E', ag', q⟩)
theorem XC.sub {c : MCode} {E' : EL} (s : Sub E' E) (w : XC T c E' h Qn Qx Qr) : XC T c E h Qn Qx Qr := fun env ag => w env (ag.sub s)
theorem XS.sub {ops : List MOper} {E' : EL} (s : Sub E' E) (w : XS T ops E' h Q) : XS T ops E h Q := fun env ag => w env (ag.sub s)
theorem XC.mono {c : MCode} {Qn' Qr' : QS} {Qx' : Nat → QS} (w : XC T c E h Qn' Qx' Qr') (hn : ∀ E h, Qn' E h → Qn E h) (hx : ∀ i E h, Qx' i E h → Qx i E h) (hr : ∀ E h, Qr' E h → Qr E h) : XC T c E h Qn Qx Qr := fun env ag =>
  (w env ag).mono fun o env' h' ⟨E', ag', q⟩ => ⟨E', ag', by cases o with | nrm => exact hn _ _ q | ex i => exact hx _ _ _ q | ret => exact hr _ _ q⟩
/-- a loop: I holds ahead of each round, k falls -/
theorem XC.loop {c : MCode} (I : Nat → QS) {k : Nat} (h0 : ∃ E0, Sub E0 E ∧ I k E0 h)
    (hs : ∀ k E h, I k E h → XC T c E h (fun E' h' => ∃ m E'', m < k ∧ Sub E'' E' ∧ I m E'' h') Qx Qr) : XC T (.loop c) E h Qn Qx Qr := fun env ag => by
  obtain ⟨E0, s0, i0⟩ := h0
  refine WC.loop (k := k) (fun k env h => ∃ E, Agree E env ∧ I k E h) ⟨E0, ag.sub s0, i0⟩ fun k env h ⟨E1, a1, i1⟩ => ?_
  refine (hs k E1 h i1 env a1).mono fun o env' h' ⟨E', ag', q⟩ => ?_
  cases o with
  | nrm => obtain ⟨m, E'', hm, s, i⟩ := q; exact ⟨m, hm, E'', ag'.sub s, i⟩
  | ex i => exact ⟨E', ag', q⟩
  | ret => exact ⟨E', ag', q⟩

theorem XS.nil (q : Q E h) : XS T [] E h Q := fun _ a => WS.nil ⟨_, a, q⟩
theorem XD.nil {prs k ns} (q : Q E h) : XD T [] prs k ns E h Q := fun _ a => WD.nil ⟨_, a, q⟩
/-- one operation, in whatever kind of region: what it makes is handed on -/
def XO (T : FuncId → Option Ent) (o : MOper) (E : EL) (h : Heap) (K : AV → Heap → Prop) : Prop := ∀ env, Agree E env → WO T o env h K
theorem WO.mono {o env} {K K' : AV → Heap → Prop} (w : WO T o env h K) (k : ∀ v h', K v h' → K' v h') : WO T o env h K' := by
  obtain ⟨lf, n, v, h', e, q⟩ := w
  exact ⟨lf, n, v, h', e, k _ _ q⟩
theorem XS.cons {o : MOper} {os : List MOper} (w : XO T o E h fun v h' => XS T os (putE E o.dst v) h' Q) : XS T (o :: os) E h Q := fun env ag =>
  WS.cons ((w env ag).mono fun v h' q => q _ (ag.put o.dst v))
/-- in a drawn region: the note's class and object -/
theorem XD.cons {o : MOper} {os : List MOper} {pr : List Nat} {prs : List (List Nat)} {k : Nat} {ns : List Note}
    (w : XO T o E h fun v h' => (∀ env, Agree E env → pairsOk pr (noteA o env h h') k ns = true) ∧ ∀ env, Agree E env → XD T os prs (k + 1) (noteA o env h h' :: ns) (putE E o.dst v) h' Q) : XD T (o :: os) (pr :: prs) k ns E h Q := fun env ag =>
  WD.cons ((w env ag).mono fun v h' q => ⟨q.1 env ag, q.2 env ag _ (ag.put o.dst v)⟩)
variable {K : AV → Heap → Prop} {dst : Option Nat}
theorem XO.op {m : MOp} {v : AV} (hm : ∀ f a, m ≠ .call f a) (e : ∀ env, Agree E env → opA m env h = some (v, h')) (q : K v h') : XO T ⟨dst, m, none⟩ E h K := fun env ag => WO.op hm (e env ag) q
theorem XO.call {f : Opd} {as : List Opd} {g : FuncId} {first cap vs : List AV} (hf : evE E f = some (.fn g first cap)) (ha : evEs E as = some vs) (w : WR T g (first ++ vs ++ cap) h K) : XO T ⟨dst, .call f as, none⟩ E h K := fun env ag =>
  WO.call (ag.ev hf) (by rw [ag.evs ha]; exact w)
theorem XO.callC {as : List Opd} {g : FuncId} {vs : List AV} (ha : evEs E as = some vs) (w : WR T g vs h K) : XO T ⟨dst, .call (.c (.fn g [] [])) as, none⟩ E h K :=
  XO.call rfl ha (by simpa using w)
theorem XO.guard {m : MOp} {t : Nat} {want b : Bool} (hg : look E t = some (.bool b)) (h1 : b = want → XO T ⟨dst, m, none⟩ E h K) (h2 : b ≠ want → K undefA h) : XO T ⟨dst, m, some (t, want)⟩ E h K := fun env ag =>
  WO.guard (ag.ev (x := .t t) hg) (fun e => h1 e env ag) h2
theorem XO.guardU {m : MOp} {t : Nat} {want : Bool} {vs : List AV} (hg : look E t = some (.tup vs)) (q : K undefA h) : XO T ⟨dst, m, some (t, want)⟩ E h K := fun env ag =>
  WO.guardU (ag.ev (x := .t t) hg) q

theorem XO.mv {x v} (hx : evE E x = some v) (q : K v h) : XO T ⟨dst, .mv x, none⟩ E h K := XO.op (by intros; simp) (fun env ag => by simp only [opA, ag.ev hx]) q
theorem XO.pick {c a b : Opd} {t : Bool} {va vb} (hc : evE E c = some (.bool t)) (ha : evE E a = some va) (hb : evE E b = some vb) (q : K (if t then va else vb) h) : XO T ⟨dst, .pick c a b, none⟩ E h K := XO.op (by intros; simp) (fun env ag => by simp only [opA, ag.ev hc, ag.ev ha, ag.ev hb]) q
theorem XO.pickT {c a b : Opd} {va} (hc : evE E c = some (.bool true)) (ha : evE E a = some va) (q : K va h) : XO T ⟨dst, .pick c a b, none⟩ E h K := XO.op (by intros; simp) (fun env ag => by simp only [opA, ag.ev hc, ag.ev ha, if_true]) q
theorem XO.pickF {c a b : Opd} {vb} (hc : evE E c = some (.bool false)) (hb : evE E b = some vb) (q : K vb h) : XO T ⟨dst, .pick c a b, none⟩ E h K := XO.op (by intros; simp) (fun env ag => by simp only [opA, ag.ev hc, ag.ev hb]; rfl) q
theorem XO.alloc {e z} (q : K (.ptr h.sz 0) (h.alloc (.cells z e false))) : XO T ⟨dst, .alloc e z, none⟩ E h K := XO.op (by intros; simp) (fun env ag => by simp only [opA]) q
theorem XO.box {e x v} (hx : evE E x = some v) (q : K (.ptr h.sz 0) (h.alloc (boxObj e v))) : XO T ⟨dst, .box e x, none⟩ E h K := XO.op (by intros; simp) (fun env ag => by simp only [opA, ag.ev hx]) q
theorem XO.build {z ps qs cs} (hp : evPs E ps = some qs) (e : fillA z qs = some cs) (q : K (.agg cs) h) : XO T ⟨dst, .build z ps, none⟩ E h K := XO.op (by intros; simp) (fun env ag => by simp only [opA, ag.evps hp, e]) q
theorem XO.bslice {ty es len z ps qs cs} (hp : evPs E ps = some qs) (e : fillA (zerosA z len) qs = some cs) (q : K (.sl h.sz 0 len len true es) (h.alloc (.cells cs ty false))) : XO T ⟨dst, .bslice ty es len z ps, none⟩ E h K := XO.op (by intros; simp) (fun env ag => by simp only [opA, ag.evps hp, e]) q
theorem XO.load {x i k v} (hx : evE E x = some (.ptr i k)) (e : h.load1 i k = some v) (q : K v h) : XO T ⟨dst, .load none x, none⟩ E h K := XO.op (by intros; simp) (fun env ag => by simp only [opA, ag.ev hx, e]) q
theorem XO.loadN {x i k n cs} (hx : evE E x = some (.ptr i k)) (e : h.loadN i k n = some cs) (q : K (.agg cs) h) : XO T ⟨dst, .load (some n) x, none⟩ E h K := XO.op (by intros; simp) (fun env ag => by simp only [opA, ag.ev hx, e]) q
theorem XO.store {n a x i k v} (ha : evE E a = some (.ptr i k)) (hx : evE E x = some v) (hn : v.cells.length.beq n = true) (e : h.storeN i k v.cells = some h') (q : K undefA h') : XO T ⟨dst, .store n a x, none⟩ E h K := XO.op (by intros; simp) (fun env ag => by simp only [opA, ag.ev ha, ag.ev hx, hn, cond_true, e]) q
theorem XO.nilck {x i k} (hx : evE E x = some (.ptr i k)) (q : K (.ptr i k) h) : XO T ⟨dst, .nilck x, none⟩ E h K := XO.op (by intros; simp) (fun env ag => by simp only [opA, ag.ev hx]) q
theorem XO.nilckF {x f a b} (hx : evE E x = some (.fn f a b)) (q : K (.fn f a b) h) : XO T ⟨dst, .nilck x, none⟩ E h K := XO.op (by intros; simp) (fun env ag => by simp only [opA, ag.ev hx]) q
theorem XO.bin {op ek x y vx vy v} (hx : evE E x = some vx) (hy : evE E y = some vy) (e : binA op ek vx vy = some v) (q : K v h) : XO T ⟨dst, .bin op ek x y, none⟩ E h K := XO.op (by intros; simp) (fun env ag => by simp only [opA, ag.ev hx, ag.ev hy, e]) q
theorem XO.not {x b} (hx : evE E x = some (.bool b)) (q : K (.bool !b) h) : XO T ⟨dst, .not x, none⟩ E h K := XO.op (by intros; simp) (fun env ag => by simp only [opA, ag.ev hx]) q
theorem XO.convI {k k' x n} (hx : evE E x = some (.int k' n)) (q : K (.int k (wrapA k n)) h) : XO T ⟨dst, .convI k x, none⟩ E h K := XO.op (by intros; simp) (fun env ag => by simp only [opA, ag.ev hx]) q
theorem XO.s2b {e x l} (hx : evE E x = some (.str l)) (q : K (.sl h.sz 0 l.length l.length false 1) (h.alloc (.cells (l.map fun b => .int .u8 b.toNat) e false))) : XO T ⟨dst, .s2b e x, none⟩ E h K := XO.op (by intros; simp) (fun env ag => by simp only [opA, ag.ev hx]) q
theorem XO.b2s {x v s} (hx : evE E x = some v) (e : opA (.b2s (.c v)) .nil h = some (.str s, h)) (q : K (.str s) h) : XO T ⟨dst, .b2s x, none⟩ E h K := XO.op (by intros; simp) (fun env ag => by
    simp only [opA, Opd.ev] at e
    simp only [opA, ag.ev hx]; exact e) q
theorem XO.mkfn {f a b va vb} (ha : evEs E a = some va) (hb : evEs E b = some vb) (q : K (.fn f va vb) h) : XO T ⟨dst, .mkfn f a b, none⟩ E h K := XO.op (by intros; simp) (fun env ag => by simp only [opA, ag.evs ha, ag.evs hb]) q
theorem XO.mkmap (q : K (.mp h.sz) (h.alloc (.map [] 0))) : XO T ⟨dst, .mkmap, none⟩ E h K := XO.op (by intros; simp) (fun env ag => by simp only [opA]) q
theorem XO.mkslice {e es bytes z l c k k' n m} (hl : evE E l = some (.int k n)) (hc : evE E c = some (.int k' m)) (h1 : 0 ≤ n ∧ n ≤ m) (h2 : m.toNat * bytes ≤ most) (h3 : Nat.ble 1 bytes = true) (q : K (.sl h.sz 0 n.toNat m.toNat true es) (h.alloc (.cells (zerosA z m.toNat) e false))) : XO T ⟨dst, .mkslice e es bytes z l c, none⟩ E h K :=
  XO.op (by intros; simp) (fun env ag => by
    have a1 : asNat (.int k n) = some n.toNat := by simp [asNat, h1.1]
    have a2 : asNat (.int k' m) = some m.toNat := by simp [asNat]; omega
    have b1 : n.toNat.ble m.toNat = true := by rw [Nat.ble_eq]; omega
    have b2 : (m.toNat * bytes).ble most = true := by rw [Nat.ble_eq]; omega
    simp only [opA, ag.ev hl, ag.ev hc, a1, a2, b1, b2, h3, Bool.and_true, cond_true]) q
theorem XO.slice {es x lo hi mx v vlo vhi vmx u} (hx : evE E x = some v) (h1 : evO E lo = some vlo) (h2 : evO E hi = some vhi) (h3 : evO E mx = some vmx) (e : sliceA es v vlo vhi vmx = some u) (q : K u h) : XO T ⟨dst, .slice es x lo hi mx, none⟩ E h K :=
  XO.op (by intros; simp) (fun env ag => by simp only [opA, ag.ev hx, ag.evo h1, ag.evo h2, ag.evo h3, e]) q
theorem XO.slstr {x lo hi s vlo vhi u} (hx : evE E x = some (.str s)) (h1 : evO E lo = some vlo) (h2 : evO E hi = some vhi) (e : sliceS s vlo vhi = some u) (q : K u h) : XO T ⟨dst, .slstr x lo hi, none⟩ E h K :=
  XO.op (by intros; simp) (fun env ag => by simp only [opA, ag.ev hx, ag.evo h1, ag.evo h2, e]) q
theorem XO.faddr {off x i k} (hx : evE E x = some (.ptr i k)) (q : K (.ptr i (k + off)) h) : XO T ⟨dst, .faddr off x, none⟩ E h K := XO.op (by intros; simp) (fun env ag => by simp only [opA, ag.ev hx]) q
theorem XO.fld {off n x cs v} (hx : evE E x = some (.agg cs)) (e : aggOr n cs off = some v) (q : K v h) : XO T ⟨dst, .fld off n x, none⟩ E h K := XO.op (by intros; simp) (fun env ag => by simp only [opA, ag.ev hx, e]) q
theorem asNat_int {k : IntKind} {n : Int} (h : 0 ≤ n) : asNat (.int k n) = some n.toNat := by simp [asNat, h]
theorem XO.iaddrA {len es : Nat} {x i b k kk n} (hx : evE E x = some (.ptr b k)) (hi : evE E i = some (.int kk n)) (h1 : 0 ≤ n ∧ n < len) (q : K (.ptr b (k + n.toNat * es)) h) : XO T ⟨dst, .iaddrA len es x i, none⟩ E h K :=
  XO.op (by intros; simp) (fun env ag => by
    have b1 : Nat.blt n.toNat len = true := by rw [Nat.blt_eq]; omega
    simp only [opA, ag.ev hx, ag.ev hi, asNat_int h1.1, b1, cond_true]) q
theorem XO.iaddrS {es x i b k len cap ex kk n} (hx : evE E x = some (.sl b k len cap ex es)) (hi : evE E i = some (.int kk n)) (h1 : 0 ≤ n ∧ n < len) (q : K (.ptr b (k + n.toNat * es)) h) : XO T ⟨dst, .iaddrS es x i, none⟩ E h K :=
  XO.op (by intros; simp) (fun env ag => by
    have b1 : Nat.blt n.toNat len = true := by rw [Nat.blt_eq]; omega
    have b2 : es.beq es = true := Nat.beq_refl es
    simp only [opA, ag.ev hx, ag.ev hi, asNat_int h1.1, b1, b2, Bool.and_true, cond_true]) q
theorem XO.idxA {len es : Nat} {n x i cs kk j v} (hx : evE E x = some (.agg cs)) (hi : evE E i = some (.int kk j)) (h1 : 0 ≤ j ∧ j < len) (e : aggOr n cs (j.toNat * es) = some v) (q : K v h) : XO T ⟨dst, .idxA len es n x i, none⟩ E h K :=
  XO.op (by intros; simp) (fun env ag => by
    have b1 : Nat.blt j.toNat len = true := by rw [Nat.blt_eq]; omega
    simp only [opA, ag.ev hx, ag.ev hi, asNat_int h1.1, b1, cond_true, e]) q
theorem XO.idxS {x i s kk j b} (hx : evE E x = some (.str s)) (hi : evE E i = some (.int kk j)) (h0 : 0 ≤ j) (e : s[j.toNat]? = some b) (q : K (.int .u8 b.toNat) h) : XO T ⟨dst, .idxS x i, none⟩ E h K :=
  XO.op (by intros; simp) (fun env ag => by simp only [opA, ag.ev hx, ag.ev hi, asNat_int h0, e]) q
theorem XO.extract {x i vs v} (hx : evE E x = some (.tup vs)) (e : vs[i]? = some v) (q : K v h) : XO T ⟨dst, .extract x i, none⟩ E h K := XO.op (by intros; simp) (fun env ag => by simp only [opA, ag.ev hx, e]) q
theorem XO.lenS {x s} (hx : evE E x = some (.str s)) (q : K (.int .i64 s.length) h) : XO T ⟨dst, .lenS x, none⟩ E h K := XO.op (by intros; simp) (fun env ag => by simp only [opA, ag.ev hx]; rfl) q
theorem XO.lenL {x i k n c ex es} (hx : evE E x = some (.sl i k n c ex es)) (q : K (.int .i64 n) h) : XO T ⟨dst, .lenL x, none⟩ E h K := XO.op (by intros; simp) (fun env ag => by simp only [opA, ag.ev hx]; rfl) q
theorem XO.lenL0 {x} (hx : evE E x = some (.sc (.slice none 0 0))) (q : K (.int .i64 0) h) : XO T ⟨dst, .lenL x, none⟩ E h K := XO.op (by intros; simp) (fun env ag => by simp only [opA, ag.ev hx]; rfl) q
theorem XO.mn {x y k a b} (hx : evE E x = some (.int k a)) (hy : evE E y = some (.int k b)) (q : K (.int k (min a b)) h) : XO T ⟨dst, .mn x y, none⟩ E h K := XO.op (by intros; simp) (fun env ag => by
    simp only [opA, ag.ev hx, ag.ev hy, if_true]
    rw [show (if b < a then b else a) = min a b by split <;> omega]) q
theorem XO.mx {x y k a b} (hx : evE E x = some (.int k a)) (hy : evE E y = some (.int k b)) (q : K (.int k (max a b)) h) : XO T ⟨dst, .mx x y, none⟩ E h K := XO.op (by intros; simp) (fun env ag => by
    simp only [opA, ag.ev hx, ag.ev hy, if_true]
    rw [show (if b > a then b else a) = max a b by split <;> omega]) q
theorem XO.append {e es bytes z s x vs vx v} (hs : evE E s = some vs) (hx : evE E x = some vx) (e1 : appendA h e es bytes vs vx = some (v, h')) (q : K v h') : XO T ⟨dst, .append e es bytes z s x, none⟩ E h K := XO.op (by intros; simp) (fun env ag => by simp only [opA, ag.ev hs, ag.ev hx, e1]) q

/-- numbers of 64 bits -/
abbrev inI (n : Int) : Prop := -9223372036854775808 ≤ n ∧ n ≤ 9223372036854775807
theorem wrap64 {n : Int} (h : inI n) : wrapA .i64 n = n := by rw [wrapA_eq]; exact IntWalk.i64_in n ⟨h.1, by have := h.2; omega⟩
theorem XO.add {ek x y a b} (hx : evE E x = some (.int .i64 a)) (hy : evE E y = some (.int .i64 b)) (hr : inI (a + b)) (q : K (.int .i64 (a + b)) h) : XO T ⟨dst, .bin .add ek x y, none⟩ E h K := XO.bin hx hy (v := .int .i64 (a + b)) (by show some (AV.int .i64 (wrapA .i64 (a + b))) = _; rw [wrap64 hr]) q
theorem XO.sub' {ek x y a b} (hx : evE E x = some (.int .i64 a)) (hy : evE E y = some (.int .i64 b)) (hr : inI (a - b)) (q : K (.int .i64 (a - b)) h) : XO T ⟨dst, .bin .sub ek x y, none⟩ E h K := XO.bin hx hy (v := .int .i64 (a - b)) (by show some (AV.int .i64 (wrapA .i64 (a - b))) = _; rw [wrap64 hr]) q
theorem XO.mul {ek x y a b} (hx : evE E x = some (.int .i64 a)) (hy : evE E y = some (.int .i64 b)) (hr : inI (a * b)) (q : K (.int .i64 (a * b)) h) : XO T ⟨dst, .bin .mul ek x y, none⟩ E h K := XO.bin hx hy (v := .int .i64 (a * b)) (by show some (AV.int .i64 (wrapA .i64 (a * b))) = _; rw [wrap64 hr]) q
theorem cmpK {op : BinOp} {ek : EK} {k : IntKind} {a b : Int} {p : Prop} [Decidable p] (hs : isShift op = false) (e : intBin op k a b = some (.bool (decide p))) : binA op ek (.int k a) (.int k b) = some (.bool (decide p)) := by
  simp only [binA, hs, if_true, e]; rfl
theorem XO.lss {ek x y k a b} (hx : evE E x = some (.int k a)) (hy : evE E y = some (.int k b)) (q : K (.bool (decide (a < b))) h) : XO T ⟨dst, .bin .lss ek x y, none⟩ E h K := XO.bin hx hy (cmpK rfl (by simp only [intBin, ltI_eq])) q
theorem XO.leq {ek x y k a b} (hx : evE E x = some (.int k a)) (hy : evE E y = some (.int k b)) (q : K (.bool (decide (a ≤ b))) h) : XO T ⟨dst, .bin .leq ek x y, none⟩ E h K := XO.bin hx hy (cmpK rfl (by simp only [intBin, leI_eq])) q
theorem XO.gtr {ek x y k a b} (hx : evE E x = some (.int k a)) (hy : evE E y = some (.int k b)) (q : K (.bool (decide (b < a))) h) : XO T ⟨dst, .bin .gtr ek x y, none⟩ E h K := XO.bin hx hy (cmpK rfl (by simp only [intBin, ltI_eq])) q
theorem XO.geq {ek x y k a b} (hx : evE E x = some (.int k a)) (hy : evE E y = some (.int k b)) (q : K (.bool (decide (b ≤ a))) h) : XO T ⟨dst, .bin .geq ek x y, none⟩ E h K := XO.bin hx hy (cmpK rfl (by simp only [intBin, leI_eq])) q
theorem XO.eql {ek x y k a b} (hx : evE E x = some (.int k a)) (hy : evE E y = some (.int k b)) (q : K (.bool (decide (a = b))) h) : XO T ⟨dst, .bin .eql ek x y, none⟩ E h K := XO.bin hx hy (cmpK rfl (by simp only [intBin, eqI_eq]; first | rfl | (congr 2; exact bool_iff (by simp)))) q
theorem XO.neq {ek x y k a b} (hx : evE E x = some (.int k a)) (hy : evE E y = some (.int k b)) (q : K (.bool (decide (a ≠ b))) h) : XO T ⟨dst, .bin .neq ek x y, none⟩ E h K := XO.bin hx hy (cmpK rfl (by simp only [intBin, eqI_eq]; congr 2; exact bool_iff (by simp))) q
theorem XO.eqS {ek x y a b} (hx : evE E x = some (.str a)) (hy : evE E y = some (.str b)) (q : K (.bool (decide (a = b))) h) : XO T ⟨dst, .bin .eql ek x y, none⟩ E h K := XO.bin hx hy (by simp only [binA, strBin]; congr 2; exact bool_iff (by simp)) q
theorem XO.neS {ek x y a b} (hx : evE E x = some (.str a)) (hy : evE E y = some (.str b)) (q : K (.bool (decide (a ≠ b))) h) : XO T ⟨dst, .bin .neq ek x y, none⟩ E h K := XO.bin hx hy (by simp only [binA, strBin]; congr 2; exact bool_iff (by simp)) q
theorem XO.addS {ek x y a b} (hx : evE E x = some (.str a)) (hy : evE E y = some (.str b)) (hr : a.length + b.length ≤ 9223372036854775807) (q : K (.str (a ++ b)) h) : XO T ⟨dst, .bin .add ek x y, none⟩ E h K := XO.bin hx hy (by simp only [binA, strBin]; rw [if_pos hr]) q

def resE (E : EL) (h : Heap) : List MRes → Option (List AV)
  | [] => some []
  | .tmp t :: rs => match look E t with | some v => (match resE E h rs with | some vs => some (v :: vs) | none => none) | none => none
  | .cell t n :: rs => match look E t with
    | some (.ptr i k) => match h.loadO i k n with
      | some v => (match resE E h rs with | some vs => some (v :: vs) | none => none)
      | none => none
    | _ => none
theorem resE_A {env : Env} (a : Agree E env) : ∀ {rs : List MRes} {vs : List AV}, resE E h rs = some vs → resA env h rs = some vs
  | [], vs, e => by simpa only [resE, resA] using e
  | .tmp t :: rs, vs, e => by
    simp only [resE] at e
    split at e
    · rename_i v hv
      split at e
      · rename_i ws hw; cases e; simp only [resA, resE_A a hw, a.ev (x := .t t) hv]
      · cases e
    · cases e
  | .cell t n :: rs, vs, e => by
    simp only [resE] at e
    split at e
    · rename_i i k hv
      split at e
      · rename_i v hl
        split at e
        · rename_i ws hw; cases e; simp only [resA, resE_A a hw, a.ev (x := .t t) hv, hl]
        · cases e
      · cases e
    · cases e
def tupOf : List AV → AV
  | [v] => v
  | vs => .tup vs
def Fin (rs : List MRes) (K : AV → Heap → Prop) : QS := fun E h => ∃ vs, resE E h rs = some vs ∧ K (tupOf vs) h
theorem XF {f : FuncId} {m : MFunc} {args : List AV} (hT : T f = some (.fn m)) (ha : Nat.ble args.length m.nt = true) (w : XC T m.body (argE 0 args) h (Fin m.res K) (fun _ _ _ => False) (Fin m.res K)) : WR T f args h K :=
  WR.fn hT ha ((w _ (agree_args args)).mono fun o env' h' ⟨E', ag, q⟩ => by
    cases o with
    | ex i => exact q.elim
    | nrm => obtain ⟨vs, e, k⟩ := q; exact ⟨fun i x => (by cases x), ⟨vs, resE_A ag e, match vs, k with | [], k => k | [_], k => k | _ :: _ :: _, k => k⟩⟩
    | ret => obtain ⟨vs, e, k⟩ := q; exact ⟨fun i x => (by cases x), ⟨vs, resE_A ag e, match vs, k with | [], k => k | [_], k => k | _ :: _ :: _, k => k⟩⟩)
theorem Fin.mk {rs : List MRes} {vs : List AV} (e : resE E h rs = some vs) (k : K (tupOf vs) h) : Fin rs K E h := ⟨vs, e, k⟩
end
end Go.Ab
