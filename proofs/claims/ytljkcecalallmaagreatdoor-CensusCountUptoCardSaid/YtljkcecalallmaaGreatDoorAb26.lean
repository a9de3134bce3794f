/- For the kernel: primitives by recursors. -/
import Derived.Test.YtljkcecalallmaaGreatDoorAb25
namespace Go.Ab
open Go

section tr
variable {α : Type}
noncomputable def bK {R : Sort _} (b : Bool) (t e : R) : R := Bool.rec e t b
theorem bK_eq {R : Type} (b : Bool) (t e : R) : bK b t e = (bif b then t else e) := by cases b <;> rfl
noncomputable def getK (t : Tr α) : Nat → Option α :=
  Tr.rec (fun _ => none) (fun v _ _ gl gr m => bK (Nat.beq m 1) v (bK (Nat.beq (Nat.mod m 2) 0) (gl (Nat.div m 2)) (gr (Nat.div m 2)))) t
theorem getK_eq (t : Tr α) : ∀ m, getK t m = t.getP m := by
  induction t with
  | nil => intro m; rfl
  | node v l r ihl ihr =>
    intro m
    show bK (Nat.beq m 1) v (bK (Nat.beq (Nat.mod m 2) 0) (getK l (Nat.div m 2)) (getK r (Nat.div m 2))) = _
    rw [ihl, ihr, bK_eq, bK_eq]
    rfl
noncomputable def freshK (x : α) : Nat → Nat → Tr α :=
  Nat.rec (fun _ => .nil) (fun _ ih m => bK (Nat.beq m 1) (Tr.node (some x) .nil .nil) (bK (Nat.beq (Nat.mod m 2) 0) (Tr.node none (ih (Nat.div m 2)) .nil) (Tr.node none .nil (ih (Nat.div m 2)))))
theorem freshK_eq (x : α) : ∀ f m, freshK x f m = (Tr.nil : Tr α).setP f m x
  | 0, m => rfl
  | f + 1, m => by
    show bK (Nat.beq m 1) (Tr.node (some x) .nil .nil) (bK (Nat.beq (Nat.mod m 2) 0) (Tr.node none (freshK x f (Nat.div m 2)) .nil) (Tr.node none .nil (freshK x f (Nat.div m 2)))) = _
    rw [freshK_eq x f, bK_eq, bK_eq]
    rfl
noncomputable def setK (x : α) (t : Tr α) : Nat → Nat → Tr α :=
  Tr.rec (fun f m => freshK x f m) (fun v l r sl sr f m => Nat.rec (Tr.node v l r) (fun f' _ => bK (Nat.beq m 1) (Tr.node (some x) l r) (bK (Nat.beq (Nat.mod m 2) 0) (Tr.node v (sl f' (Nat.div m 2)) r) (Tr.node v l (sr f' (Nat.div m 2))))) f) t
theorem setK_eq (x : α) (t : Tr α) : ∀ f m, setK x t f m = t.setP f m x := by
  induction t with
  | nil => intro f m; exact freshK_eq x f m
  | node v l r ihl ihr =>
    intro f m
    cases f with
    | zero => rfl
    | succ f =>
      show bK (Nat.beq m 1) (Tr.node (some x) l r) (bK (Nat.beq (Nat.mod m 2) 0) (Tr.node v (setK x l f (Nat.div m 2)) r) (Tr.node v l (setK x r f (Nat.div m 2)))) = _
      rw [ihl, ihr, bK_eq, bK_eq]
      rfl
noncomputable def tget (t : Tr α) (n : Nat) : Option α := getK t (Nat.succ n)
theorem tget_eq (t : Tr α) (n : Nat) : tget t n = t.get n := getK_eq t _
noncomputable def tset (t : Tr α) (n : Nat) (x : α) : Tr α := setK x t (Nat.succ (Nat.log2 (Nat.succ n))) (Nat.succ n)
theorem tset_eq (t : Tr α) (n : Nat) (x : α) : tset t n x = t.set n x := setK_eq x t _ _

noncomputable def lenK (l : List α) : Nat := List.rec 0 (fun _ _ ih => Nat.succ ih) l
theorem lenK_eq (l : List α) : lenK l = l.length := by
  induction l with
  | nil => rfl
  | cons x xs ih => show Nat.succ (lenK xs) = _; rw [ih]; rfl
/-- the n-th, with a continuation -/
noncomputable def nthK {R : Type} (l : List α) : Nat → (α → R) → R → R :=
  List.rec (fun _ _ e => e) (fun x _ ih n k e => Nat.rec (k x) (fun m _ => ih m k e) n) l
theorem nthK_eq {R : Type} (l : List α) : ∀ (n : Nat) (k : α → R) (e : R), nthK l n k e = match l[n]? with | some x => k x | none => e := by
  induction l with
  | nil => intro n k e; rfl
  | cons x xs ih =>
    intro n k e
    cases n with
    | zero => rfl
    | succ n => show nthK xs n k e = _; rw [ih]; simp
noncomputable def takeK (l : List α) : Nat → List α := List.rec (fun _ => []) (fun x _ ih n => Nat.rec [] (fun m _ => x :: ih m) n) l
theorem takeK_eq (l : List α) : ∀ n, takeK l n = l.take n := by
  induction l with
  | nil => intro n; simp; rfl
  | cons x xs ih =>
    intro n
    cases n with
    | zero => rfl
    | succ n => show x :: takeK xs n = _; rw [ih]; rfl
noncomputable def dropK (l : List α) : Nat → List α := List.rec (fun _ => []) (fun x xs ih n => Nat.rec (x :: xs) (fun m _ => ih m) n) l
theorem dropK_eq (l : List α) : ∀ n, dropK l n = l.drop n := by
  induction l with
  | nil => intro n; simp; rfl
  | cons x xs ih =>
    intro n
    cases n with
    | zero => rfl
    | succ n => show dropK xs n = _; rw [ih]; rfl
noncomputable def appK (l m : List α) : List α := List.rec m (fun x _ ih => x :: ih) l
theorem appK_eq (l m : List α) : appK l m = l ++ m := by
  induction l with
  | nil => rfl
  | cons x xs ih => show x :: appK xs m = _; rw [ih]; rfl
/-- exactly n of them -/
noncomputable def takeN {R : Type} (l : List α) : Nat → (List α → R) → R → R :=
  List.rec (fun n k e => Nat.rec (k []) (fun _ _ => e) n) (fun x _ ih n k e => Nat.rec (k []) (fun m _ => ih m (fun r => k (x :: r)) e) n) l
theorem takeN_eq {R : Type} (l : List α) : ∀ (n : Nat) (k : List α → R) (e : R), takeN l n k e = if n ≤ l.length then k (l.take n) else e := by
  induction l with
  | nil => intro n k e; cases n with | zero => rfl | succ n => rfl
  | cons x xs ih =>
    intro n k e
    cases n with
    | zero => rfl
    | succ n =>
      show takeN xs n (fun r => k (x :: r)) e = _
      rw [ih]
      simp
/-- from k on, n of them -/
noncomputable def cutK {R : Type} (l : List α) : Nat → Nat → (List α → R) → R → R :=
  List.rec (fun k n c e => Nat.rec (Nat.rec (c []) (fun _ _ => e) n) (fun _ _ => e) k) (fun x xs ih k n c e => Nat.rec (takeN (x :: xs) n c e) (fun m _ => ih m n c e) k) l
theorem cutK_eq {R : Type} (l : List α) : ∀ (k n : Nat) (c : List α → R) (e : R), cutK l k n c e = if k + n ≤ l.length then c ((l.drop k).take n) else e := by
  induction l with
  | nil =>
    intro k n c e
    cases k with
    | zero => cases n with
      | zero => rfl
      | succ n => simp; rfl
    | succ k => rw [if_neg (by simp)]; rfl
  | cons x xs ih =>
    intro k n c e
    cases k with
    | zero => show takeN (x :: xs) n c e = _; rw [takeN_eq]; simp
    | succ k =>
      show cutK xs k n c e = _
      rw [ih]
      have : (k + n ≤ xs.length) ↔ (k + 1 + n ≤ (x :: xs).length) := by simp; omega
      simp only [this, List.drop_succ_cons]
/-- one cell in place -/
noncomputable def putK {R : Type} (l : List α) : Nat → α → (List α → R) → R → R :=
  List.rec (fun _ _ _ e => e) (fun x xs ih k v c e => Nat.rec (c (v :: xs)) (fun m _ => ih m v (fun r => c (x :: r)) e) k) l
theorem putK_eq {R : Type} (l : List α) : ∀ (k : Nat) (v : α) (c : List α → R) (e : R), putK l k v c e = if k + 1 ≤ l.length then c (l.take k ++ [v] ++ l.drop (k + 1)) else e := by
  induction l with
  | nil => intro k v c e; rfl
  | cons x xs ih =>
    intro k v c e
    cases k with
    | zero => rfl
    | succ k =>
      show putK xs k v (fun r => c (x :: r)) e = _
      rw [ih]
      have : (k + 1 ≤ xs.length) ↔ (k + 1 + 1 ≤ (x :: xs).length) := by simp
      simp only [this, List.drop_succ_cons, List.take_succ_cons, List.cons_append]
noncomputable def allK (p : α → Bool) (l : List α) : Bool := List.rec true (fun x _ ih => bK (p x) ih false) l
theorem allK_eq (p : α → Bool) (l : List α) : allK p l = l.all p := by
  induction l with
  | nil => rfl
  | cons x xs ih => show bK (p x) (allK p xs) false = _; rw [ih, bK_eq]; cases h : p x <;> simp [h]
noncomputable def mapK {β : Type} (f : α → β) (l : List α) : List β := List.rec [] (fun x _ ih => f x :: ih) l
theorem mapK_eq {β : Type} (f : α → β) (l : List α) : mapK f l = l.map f := by
  induction l with
  | nil => rfl
  | cons x xs ih => show f x :: mapK f xs = _; rw [ih]; rfl
end tr
noncomputable def eqB (l : List UInt8) : List UInt8 → Bool :=
  List.rec (fun m => List.rec true (fun _ _ _ => false) m) (fun x _ ih m => List.rec false (fun y ys _ => bK (Nat.beq x.toNat y.toNat) (ih ys) false) m) l
theorem eqB_eq (l : List UInt8) : ∀ m, eqB l m = (l == m) := by
  induction l with
  | nil => intro m; cases m <;> rfl
  | cons x xs ih =>
    intro m
    cases m with
    | nil => rfl
    | cons y ys =>
      show bK (Nat.beq x.toNat y.toNat) (eqB xs ys) false = _
      rw [ih, bK_eq]
      by_cases h : x = y
      · subst h; simp
      · have : Nat.beq x.toNat y.toNat = false := beqF (fun e => h (UInt8.toNat_inj.1 e))
        rw [this]
        have h2 : (x == y) = false := by simpa using h
        simp [h2]

/-- values by kind -/
noncomputable def AV.onInt {R : Type} (v : AV) (k : IntKind → Int → R) (e : R) : R :=
  AV.casesOn (motive_1 := fun _ => R) v k (fun _ => e) (fun _ => e) (fun _ => e) (fun _ _ => e) (fun _ _ _ _ _ _ => e) (fun _ => e) (fun _ _ _ => e) (fun _ => e) (fun _ => e) (fun _ => e)
noncomputable def AV.onBool {R : Type} (v : AV) (k : Bool → R) (e : R) : R :=
  AV.casesOn (motive_1 := fun _ => R) v (fun _ _ => e) k (fun _ => e) (fun _ => e) (fun _ _ => e) (fun _ _ _ _ _ _ => e) (fun _ => e) (fun _ _ _ => e) (fun _ => e) (fun _ => e) (fun _ => e)
noncomputable def AV.onStr {R : Type} (v : AV) (k : List UInt8 → R) (e : R) : R :=
  AV.casesOn (motive_1 := fun _ => R) v (fun _ _ => e) (fun _ => e) k (fun _ => e) (fun _ _ => e) (fun _ _ _ _ _ _ => e) (fun _ => e) (fun _ _ _ => e) (fun _ => e) (fun _ => e) (fun _ => e)
noncomputable def AV.onPtr {R : Type} (v : AV) (k : Nat → Nat → R) (e : R) : R :=
  AV.casesOn (motive_1 := fun _ => R) v (fun _ _ => e) (fun _ => e) (fun _ => e) (fun _ => e) k (fun _ _ _ _ _ _ => e) (fun _ => e) (fun _ _ _ => e) (fun _ => e) (fun _ => e) (fun _ => e)
noncomputable def AV.onSl {R : Type} (v : AV) (k : Nat → Nat → Nat → Nat → Bool → Nat → R) (e : R) : R :=
  AV.casesOn (motive_1 := fun _ => R) v (fun _ _ => e) (fun _ => e) (fun _ => e) (fun _ => e) (fun _ _ => e) k (fun _ => e) (fun _ _ _ => e) (fun _ => e) (fun _ => e) (fun _ => e)
noncomputable def AV.onAgg {R : Type} (v : AV) (k : List AV → R) (e : R) : R :=
  AV.casesOn (motive_1 := fun _ => R) v (fun _ _ => e) (fun _ => e) (fun _ => e) (fun _ => e) (fun _ _ => e) (fun _ _ _ _ _ _ => e) (fun _ => e) (fun _ _ _ => e) k (fun _ => e) (fun _ => e)
noncomputable def AV.onTup {R : Type} (v : AV) (k : List AV → R) (e : R) : R :=
  AV.casesOn (motive_1 := fun _ => R) v (fun _ _ => e) (fun _ => e) (fun _ => e) (fun _ => e) (fun _ _ => e) (fun _ _ _ _ _ _ => e) (fun _ => e) (fun _ _ _ => e) (fun _ => e) k (fun _ => e)
noncomputable def AV.onFn {R : Type} (v : AV) (k : FuncId → List AV → List AV → R) (e : R) : R :=
  AV.casesOn (motive_1 := fun _ => R) v (fun _ _ => e) (fun _ => e) (fun _ => e) (fun _ => e) (fun _ _ => e) (fun _ _ _ _ _ _ => e) (fun _ => e) k (fun _ => e) (fun _ => e) (fun _ => e)
noncomputable def AObj.onCells {R : Type} (o : AObj) (k : List AV → TypeId → Bool → R) (e : R) : R := AObj.rec k (fun _ _ => e) e (fun _ _ => e) (fun _ => e) (fun _ => e) o
noncomputable def optK {α R : Type} (o : Option α) (k : α → R) (e : R) : R := Option.rec e k o
theorem optK_eq {α R : Type} (o : Option α) (k : α → R) (e : R) : optK o k e = match o with | some x => k x | none => e := by cases o <;> rfl

noncomputable def kNum (k : IntKind) : Nat := IntKind.rec 0 1 2 3 4 5 6 7 k
end Go.Ab
