/- Tables of printed functions. -/
import Derived.Test.YtljkcecalallmaaGreatDoorAb31
namespace Go.Ab
open Go

def GoodM (P : Program) (f : FuncId) (m : MFunc) : Prop := ∃ fn, P.funcs[f]? = some fn ∧ compF P fn = some m ∧ (fn.name == "runtime.NumGoroutine") = false
def GoodL (P : Program) : List (FuncId × MFunc) → Prop
  | [] => True
  | (f, m) :: l => GoodM P f m ∧ GoodL P l
theorem GoodL.get {P : Program} : ∀ {l : List (FuncId × MFunc)}, GoodL P l → ∀ {x}, x ∈ l → GoodM P x.1 x.2
  | [], _, _, h => by simp at h
  | (f, m) :: l, g, x, h => by
    rcases List.mem_cons.1 h with rfl | h
    · exact g.1
    · exact GoodL.get g.2 h
theorem GoodL.app {P : Program} : ∀ {l m : List (FuncId × MFunc)}, GoodL P l → GoodL P m → GoodL P (l ++ m)
  | [], _, _, h => h
  | (_, _) :: _, _, g, h => ⟨g.1, GoodL.app g.2 h⟩
noncomputable def trOf (l : List (FuncId × MFunc)) : Tr MFunc := List.rec (motive := fun _ => Tr MFunc) .nil (fun x _ ih => tset ih x.1 x.2) l
theorem trOf_get : ∀ (l : List (FuncId × MFunc)) (f : FuncId) (m : MFunc), (trOf l).get f = some m → (f, m) ∈ l
  | [], f, m, h => by cases h
  | (g, k) :: l, f, m, h => by
    change (tset (trOf l) g k).get f = some m at h
    rw [tset_eq, Tr.get_set] at h
    split at h
    · rename_i e; subst e; cases h; simp
    · exact List.mem_cons_of_mem _ (trOf_get l f m h)
noncomputable def intrK (I : List (FuncId × Intr)) (f : FuncId) : Option Intr := List.rec (motive := fun _ => Option Intr) none (fun x _ ih => bK (Nat.beq x.1 f) (some x.2) ih) I
theorem intrK_mem : ∀ (I : List (FuncId × Intr)) (f : FuncId) (g : Intr), intrK I f = some g → (f, g) ∈ I
  | [], f, g, h => by cases h
  | (a, k) :: I, f, g, h => by
    change bK (Nat.beq a f) (some k) (intrK I f) = some g at h
    rw [bK_eq] at h
    cases hb : Nat.beq a f with
    | true => rw [hb] at h; cases h; have := ofBeq hb; subst this; simp
    | false => rw [hb] at h; exact List.mem_cons_of_mem _ (intrK_mem I f g h)
noncomputable def tabK (t : Tr MFunc) (I : List (FuncId × Intr)) (f : FuncId) : Option Ent :=
  Option.rec (Option.rec none (fun m => some (.fn m)) (tget t f)) (fun g => some (.intr g)) (intrK I f)
theorem tabK_sound {P : Program} {l : List (FuncId × MFunc)} (hl : GoodL P l) {I : List (FuncId × Intr)} (hI : ∀ x ∈ I, SoundI P x.1 x.2) : SoundT P (tabK (trOf l) I) := by
  have key : ∀ f, (∃ g, intrK I f = some g ∧ tabK (trOf l) I f = some (.intr g)) ∨ (intrK I f = none ∧ tabK (trOf l) I f = match (trOf l).get f with | some m => some (.fn m) | none => none) := by
    intro f
    unfold tabK
    rw [tget_eq]
    cases hi : intrK I f with
    | some g => exact .inl ⟨g, rfl, rfl⟩
    | none => refine .inr ⟨rfl, ?_⟩; cases (trOf l).get f <;> rfl
  refine ⟨fun f m h => ?_, fun f g h => ?_⟩
  · rcases key f with ⟨g, _, h2⟩ | ⟨_, h2⟩
    · rw [h2] at h; cases h
    · rw [h2] at h
      cases hg : (trOf l).get f with
      | none => rw [hg] at h; cases h
      | some m' => rw [hg] at h; cases h; exact hl.get (trOf_get l f m hg)
  · rcases key f with ⟨g', h1, h2⟩ | ⟨_, h2⟩
    · rw [h2] at h; cases h; exact hI _ (intrK_mem I f g h1)
    · rw [h2] at h
      cases hg : (trOf l).get f with
      | none => rw [hg] at h; cases h
      | some m' => rw [hg] at h; cases h
theorem tabK_fn {t : Tr MFunc} {I : List (FuncId × Intr)} {f : FuncId} {m : MFunc} (h1 : intrK I f = none) (h2 : t.get f = some m) : tabK t I f = some (.fn m) := by
  unfold tabK; rw [h1, tget_eq, h2]
theorem tabK_intr {t : Tr MFunc} {I : List (FuncId × Intr)} {f : FuncId} {g : Intr} (h1 : intrK I f = some g) : tabK t I f = some (.intr g) := by
  unfold tabK; rw [h1]
theorem CallOK.of {P : Program} {f : FuncId} {m : MFunc} (h : GoodM P f m) : CallOK P f := by
  obtain ⟨fn, h1, h2, h3⟩ := h
  refine ⟨fn, h1, h3, ?_⟩
  unfold compF at h2
  split at h2
  · rename_i hb _; simp [hb]
  · cases h2
/-- a closed run that the kernel made, of a function without arguments -/
theorem SoundI.closed {P : Program} (hd : DrawSound P) {T : FuncId → Option Ent} (hT : SoundT P T) {f : FuncId} (hok : CallOK P f) {lf n : Nat} {ags : List AV} {eq : List AV → Bool} {v : AV} {p : AV → Bool} (heq : ∀ l, eq l = true → l = ags) (hcl : v.cl = true) (hcs : AV.cls ags = true)
    (hp : ∀ u, p u = true → u = v) (e : (callK T lf n f ags ⟨0, .nil⟩ fun v h' => bK (p v) (some (v, h')) none).isSome = true) : SoundI P f (Ab.memo eq v) := by
  obtain ⟨u, h', hr, hu⟩ := callK_run (p := fun v _ => p v) e
  have := hp u hu
  subst this
  exact SoundI.memo hd hT hok heq hcl hcs ⟨lf, n, h', hr⟩
def isTrue : AV → Bool
  | .bool b => b
  | _ => false
theorem isTrue_spec (u : AV) (h : isTrue u = true) : u = .bool true := by
  cases u <;> simp_all [isTrue]
def isNil : List AV → Bool
  | [] => true
  | _ => false
theorem isNil_spec (l : List AV) (h : isNil l = true) : l = [] := by
  cases l <;> simp_all [isNil]
def isInt (k : Int) : List AV → Bool
  | [.int .i64 n] => eqI n k
  | _ => false
theorem isInt_spec (k : Int) (l : List AV) (h : isInt k l = true) : l = [.int .i64 k] := by
  unfold isInt at h
  split at h
  · rw [eqI_eq, beq_iff_eq] at h; rw [h]
  · cases h
def isStr (s : List UInt8) : AV → Bool
  | .str l => eqBB l s
  | _ => false
where eqBB : List UInt8 → List UInt8 → Bool
  | [], [] => true
  | a :: as, b :: bs => Nat.beq a.toNat b.toNat && eqBB as bs
  | _, _ => false
theorem eqBB_spec : ∀ (a b : List UInt8), isStr.eqBB a b = true → a = b
  | [], [], _ => rfl
  | [], _ :: _, h => by cases h
  | _ :: _, [], h => by cases h
  | a :: as, b :: bs, h => by
    simp only [isStr.eqBB, Bool.and_eq_true] at h
    rw [UInt8.toNat_inj.1 (ofBeq h.1), eqBB_spec as bs h.2]
theorem isStr_spec (s : List UInt8) (u : AV) (h : isStr s u = true) : u = .str s := by
  cases u <;> simp_all [isStr]
  exact eqBB_spec _ _ h
end Go.Ab
