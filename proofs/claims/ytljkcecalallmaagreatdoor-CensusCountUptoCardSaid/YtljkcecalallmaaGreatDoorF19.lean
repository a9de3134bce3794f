/- CensusCount, for every input of bulk at most 1048576: true; the input reads as it did. The card of the second form, tied as given. -/
import Derived.Test.YtljkcecalallmaaGreatDoorX19
import Derived.Test.YtljkcecalallmaaGreatDoorK19
import Derived.Test.YtljkcecalallmaaGreatDoorCards
import Derived.Test.YtljkcecalallmaaGreatDoorTie
import Derived.WalkKit
import Derived.ProofKit
import Derived.OpenShut
import Derived.Deep.DeepHandedRow
import Derived.Lib.LaidTab
import Derived.JoinedCond
namespace Go.Proofs.YtljkcecalallmaaGreatDoor.censusCount
open Go.ChangeShapes Go.WideShapes Go.ChangeAt Go.RowKit
open Go.Ab Go.Ab.S19

theorem own : ownKnob Tryz.prog.godebug = none := by kernel_rfl
set_option maxRecDepth 100000 in
theorem contract (H : Type) (enc : TypeId × Value → H) (W : World) (base : Nat) (args : Array Value) (ds gs : List (DataW H)) (before : List MemPlace)
    (hval : ∀ (j : Nat) t v, Tryz.f3.params[j]? = some t → args[j]? = some v → Value.okWide Tryz.prog W .any base t v)
    (hW : DataW.Whole enc Tryz.prog Tryz.f3.params.toList Rows.censusCountSpec.vars false W args.toList ds gs before) (hk : Rows.uptoSmall H (ds ++ gs) = true) :
    Calls Tryz.prog 3 args W fun e W' => ∃ v, e = .returned v ∧ Rows.censusCountSpec.post enc Tryz.prog Tryz.f3 false true false false W args v W' := by
  have hW' := hW
  obtain ⟨p, q, hA0, hV, rfl, hfz, hnd⟩ := hW
  have hA : DataW.TrodAll enc Tryz.prog W 0 (fun _ => true) true Tryz.f3.params.toList args.toList ds p := hA0
  rw [Tryz.params3] at hA hval
  obtain ⟨v0, vs0, d0, ds0, p0, q0, hargs, rfl, rfl, h0, r0⟩ := trodAll_cons hA
  obtain ⟨v1, vs1, d1, ds1, p1, q1, rfl, rfl, rfl, h1, r1⟩ := trodAll_cons r0
  obtain ⟨rfl, rfl, rfl⟩ := trodAll_nil r1
  obtain rfl : args = #[v0, v1] := by cases args; simp_all
  obtain ⟨rfl, rfl⟩ := trodVars_none hV
  have hb := of_decide_eq_true hk
  simp only [Rows.uptoBulkAll, List.cons_append, List.nil_append] at hb
  obtain ⟨x0, r0', a0, l0, i0, j0, o0, k0, g0, b0, c0⟩ := arg_open 0 (hval 0 22 v0 rfl rfl) h0
  obtain ⟨x1, r1', a1, l1, i1, j1, o1, k1, g1, b1, c1⟩ := arg_open 1 (hval 1 22 v1 rfl rfl) h1
  obtain ⟨mt, fr, nw⟩ := match2 (w := W) (a := ⟨a0, x0, r0'⟩) (b := ⟨a1, x1, r1'⟩) (fun k o n e => ⟨(i0 k o n e).1, (i0 k o n e).2 _⟩) (fun k o n e => ⟨(i1 k o n e).1, (i1 k o n e).2 _⟩) j0 j1
  have run := law_w (h0 := hp2 ⟨a0, x0, r0'⟩ ⟨a1, x1, r1'⟩) T2_3 T2_5 T2_4 mt.fresh (g0 _ (by rw [hp2_get, if_neg (by decide), if_pos rfl])) (g1 _ (by rw [hp2_get, if_pos rfl])) o0 o1 (by omega) (by omega) (by omega) (by omega)
  refine (Calls.of_run drawS T2_sound (run.mono fun r h x => x.1) mt fr (args := #[v0, v1]) (VRs.cons (k0 _ rfl) (VRs.cons (k1 _ rfl) VRs.nil)) nw fun ρ' u hu => VR.bool_inv hu).mono fun e W' ⟨he, hg⟩ => ?_
  subst he
  exact ⟨_, rfl, post_below (tb := 4) hW' rfl rfl rfl rfl hg (by kernel_rfl) (by rw [Tryz.params3]; intro t ht; simp at ht; subst ht; exact ⟨by kernel_rfl, of_decide_eq_true (by kernel_rfl)⟩) (by kernel_rfl) Tryz.underlying4⟩

def litV : Lit → Value
  | .int k n => .int k n
  | .bool b => .bool b
  | .string l => .string ⟨⟨l⟩⟩
  | _ => .bool false
mutual
def valsOf {H : Type} : DataW H → List Value
  | .lit l => [litV l]
  | .agg ps => valsAll ps
  | _ => []
def valsAll {H : Type} : List (DataW H) → List Value
  | [] => []
  | d :: ds => valsOf d ++ valsAll ds
end
def lay (h : Array Obj) (b : Nat) (vs : List Value) : Array Obj := h.modify b fun
  | .cells _ t frozen => .cells vs.toArray t frozen
  | o => o
noncomputable def gA : Nat := (Tryz.prog.globalNamed "unicode/utf8.acceptRanges").getD 0
noncomputable def gF : Nat := (Tryz.prog.globalNamed "unicode/utf8.first").getD 0
/-- A world for the witness: the settled one, with the two tables. -/
noncomputable def laidWorld (os : Os) : World :=
  { World.holding Tryz.prog os ⟨#[], #[], []⟩ with heap := lay (lay (World.holding Tryz.prog os ⟨#[], #[], []⟩).heap gA (valsOf (H := Unit) Rows.laid_unicode_utf8_acceptRanges)) gF (valsOf Rows.laid_unicode_utf8_first) }
theorem laid_met (os : Os) : laidMet Tryz.prog Rows.censusCountUptoRow.laid ((laidWorld os).forCall (fun _ _ => 0) ⟨#[], #[.slice none 0 0, .slice none 0 0], []⟩).memory :=
  laidMet_of_run' 8 (by kernel_rfl) (by kernel_rfl)
theorem reads (os : Os) {H : Type} (enc : TypeId × Value → H) : ∃ places, DataW.whole enc Tryz.prog ((laidWorld os).forCall (fun _ _ => 0) ⟨#[], #[.slice none 0 0, .slice none 0 0], []⟩).memory Tryz.f3.params.toList Rows.censusCountSpec.vars false #[Value.slice none 0 0, Value.slice none 0 0].toList 8 = some ([.nil, .nil], [], places) :=
  ⟨[], by kernel_rfl⟩

set_option maxRecDepth 100000 in
theorem liftedUpto (os : Os) (started : os.Started) (H : Type) (enc : TypeId × Value → H) (F : Stop.Interp) :
    ReturnsInHanded {} Tryz.checked os 3 .any ((Rows.OpenSpec.upto Rows.censusCountSpec).preRow enc Tryz.prog Tryz.f3 Rows.censusCountUptoRow.domain false Rows.censusCountUptoRow.laid) (((Rows.OpenSpec.upto Rows.censusCountSpec).at F).post enc Tryz.prog Tryz.f3 false true false false) := by
  obtain ⟨places, hx⟩ := reads os enc
  refine returnsInHanded_of_row (C := Tryz.checked) (s := Rows.OpenSpec.upto Rows.censusCountSpec) own started (by kernel_rfl) Tryz.func3
    (witness_row_at (enc := enc) (C := Tryz.checked) false (laidWorld os) #[.slice none 0 0, .slice none 0 0] rfl (by kernel_rfl) (by kernel_rfl) (by kernel_rfl)
      (OpenSpec.preRow_of_cond 8 hx (by kernel_rfl) (fun k hk => by cases hk; kernel_rfl) (by kernel_rfl) (laid_met os))) ?_
  intro W base args ds gs before hval hW _ hcond _ _ _ _
  exact contract H enc W base args ds gs before hval hW (hcond _ rfl)

set_option maxRecDepth 100000 in
theorem closed : joinedFacts Tryz.prog 3 Tryz.f3 ((Rows.OpenSpec.upto Rows.censusCountSpec).bare) Rows.censusCountUptoRow = true := both (both (both (both (both (both (both (both (both (both (both (both (both (both (both (both (both (both (both (both (both (both (both (both (both (both (both (both (both (both (both k0 k1) k2) k3) k4) k5) k6) k7) k8) k9) k10) k11) k12) k13) k14) k15) k16) k17) k18) k19) k20) k21) k22) k23) k24) k25) k26) k27) k28) k29) k30) k31
theorem named3 : Tryz.prog.funcNamed "wainwright/wainwrightlaw19.CensusCount" = some 3 := by kernel_rfl
theorem inst3 : Tryz.f3.isInstance Tryz.prog Rows.censusCountUptoRow.origin Rows.censusCountUptoRow.targs := of_decide_eq_true (by kernel_rfl)
theorem wrap3 : Tryz.f3.isWrapper Tryz.prog Rows.censusCountUptoRow.wrapper Rows.censusCountUptoRow.mainSum := by
  unfold Func.isWrapper; first | (rw [if_pos (by decide +kernel)]; kernel_rfl) | (rw [if_neg (by decide +kernel)]; exact ⟨rfl, rfl⟩)
theorem saidUpto : Rows.CensusCountUptoSaid :=
  OpenClaim.holds_of_cond 3 Tryz.f3 rfl rfl rfl rfl rfl rfl rfl ⟨rfl, rfl, rfl, rfl, rfl⟩ rfl rfl rfl rfl rfl named3 Tryz.func3 closed inst3 wrap3
    (fun os started H enc _ F => by rw [OpenClaim.pre_eq_preRow]; exact liftedUpto os started H enc F)

theorem plain (f : FuncId) (fn : Func) (hf : Tryz.pinned.checked.prog.funcNamed "wainwright/wainwrightlaw19.CensusCount" = some f) (hfn : Tryz.pinned.checked.prog.funcs[f]? = some fn) :
    false = Tryz.pinned.checked.prog.looks [] ∧ ∀ (j : Nat) t, fn.params[j]? = some t → Tryz.pinned.checked.prog.wantsStandIn t = false := by
  obtain rfl : f = 3 := Option.some.inj (named3.symm.trans hf) |>.symm
  obtain rfl : fn = Tryz.f3 := (Option.some.inj (Tryz.func3.symm.trans hfn)).symm
  refine ⟨by kernel_rfl, fun j t ht => ?_⟩
  rw [Tryz.params3] at ht
  obtain rfl : t = 22 := by simpa using Array.mem_of_getElem? ht
  exact (show Tryz.prog.wantsStandIn 22 = false by kernel_rfl)

theorem cardUpto : Rows.CensusCountUptoCardSaid :=
  Claim7.holds_tied_plain_at .later [] _ _ _ _ saidUpto (fun _ h => by cases h) (by kernel_rfl) (fun _ h => by cases h) censusCountUpto_row_tie rfl ⟨rfl, rfl⟩ (by kernel_rfl) rfl plain (by kernel_rfl)
end Go.Proofs.YtljkcecalallmaaGreatDoor.censusCount
