/- Out of a run to a row's step. -/
import Derived.Test.YtljkcecalallmaaGreatDoorAb32
import Derived.RowKit
import Derived.ProofKit
import Derived.OpenShut
import Derived.WideKeyArgs
import Derived.Deep.Slices
namespace Go.Ab
open Go Go.RowKit Go.ChangeShapes
section
variable {H : Type} {enc : TypeId × Value → H} {P : Program}

theorem trodAll_stays {W W' : World} (hl : laidOutB P = true) : ∀ {ts : List TypeId} {vs : List Value} {ds : List (DataW H)} {ps : List MemPlace}, (∀ t ∈ ts, P.readableRec t = true ∧ t < P.types.size) →
    DataW.TrodAll enc P W 0 (fun _ => true) true ts vs ds ps → (∀ p ∈ ps, W.sameAt W' p) → ∀ sp : Nat → Bool, (∀ p ∈ ps, sp p.block = true) → DataW.TrodAll enc P W' 0 sp true ts vs ds ps
  | [], _, _, _, _, h, _, _, _ => by
    obtain ⟨rfl, rfl, rfl⟩ := trodAll_nil h
    exact trodAll_mk0
  | t :: ts, _, _, _, hr, h, hs, sp, hsp => by
    obtain ⟨v, vs, d, ds, p, q, rfl, rfl, rfl, h1, h2⟩ := trodAll_cons h
    exact trodAll_cons_mk (WideElems.Trod_stays hl (hr t (by simp)).1 (hr t (by simp)).2 h1 (fun x hx => hs x (by simp [hx])) (fun x hx => hsp x (by simp [hx])))
      (trodAll_stays hl (fun u hu => hr u (by simp [hu])) h2 (fun x hx => hs x (by simp [hx])) sp (fun x hx => hsp x (by simp [hx])))

/-- WHAT A LAW's STEP ASKS: it answered true, and nothing old has turned. -/
theorem post_below {f : Func} {s : ChangeSpec} {apart fresh handsOn again : Bool} {W W' : World} {args : Array Value} {ds gs : List (DataW H)} {before : List MemPlace} {tb : TypeId}
    (hW : DataW.Whole enc P f.params.toList s.vars apart W args.toList ds gs before) (hv : s.vars = []) (hs1 : (s.fn H ds).results = [.lit (.bool true)]) (hs2 : (s.fn H ds).args = ds) (hs3 : (s.fn H ds).vars = [])
    (hb : Below W.heap.size W W') (hl : laidOutB P = true) (hr : ∀ t ∈ f.params.toList, P.readableRec t = true ∧ t < P.types.size) (ht : f.resultTypes = #[tb]) (hu : P.underlying tb = some .bool) :
    s.post enc P f apart fresh handsOn again W args (.bool true) W' := by
  have hW' := hW
  obtain ⟨p, q, hA, hV, rfl, hz, hn⟩ := hW
  rw [hv] at hV
  obtain ⟨rfl, rfl⟩ := trodVars_none hV
  have hlt : ∀ x ∈ p ++ [], x.block < W.heap.size := hW'.lt
  have hsame : ∀ x ∈ p, W.sameAt W' x := fun x hx => hb.same (hlt x (by simp [hx]))
  have hres : ∀ (b : Nat) (sp : Nat → Bool) (hd : Bool), DataW.TrodAll enc P W' b sp hd f.resultTypes.toList ((Value.bool true).resultList f.resultTypes.size) [.lit (.bool true)] [] := by
    intro b sp hd
    rw [ht]
    exact trodAll_cons_mk (shut_bool hu true) trodAll_mk0
  have hargs : ∀ sp : Nat → Bool, (∀ x ∈ p, sp x.block = true) → DataW.TrodAll enc P W' 0 sp true f.params.toList args.toList ds p := fun sp hsp => trodAll_stays hl hr hA hsame sp hsp
  have hvars : ∀ sp : Nat → Bool, DataW.TrodVars (H := H) enc P W' sp s.vars [] [] := by intro sp; rw [hv]; rfl
  have e : ds ++ ([] : List (DataW H)) = ds := List.append_nil ds
  refine ⟨ds, [], p ++ [], [], p, [], hW', ?_, ?_, ?_, World.keptBut_mono (fun x hx => ⟨hx, ?_⟩) (hb.frame (· ∈ p ++ [])), fun _ => ?_⟩
  · rw [e, hs1]; exact hres _ _ _
  · rw [e, hs2]; exact hargs _ fun x hx => by simpa using hlt x (by simp [hx])
  · rw [e, hs3]; exact hvars _
  · exact .inr (.inl (by simpa using hx))
  · refine ⟨ok_one ht rfl (okWide_bool_mk hu true), _, _, ([] ++ p) ++ [], ⟨[] ++ p, [], trodAll_append (hargs _ (fun _ _ => rfl)) (hres _ _ _), hvars _, rfl, ?_, ?_⟩, ?_⟩
    · intro b off hp
      have hp' : MemPlace.cell b off ∈ p ++ [] := by simpa using hp
      have := hz b off hp'
      have hb2 := hb.block b (hlt _ hp')
      simp only [World.frozen?] at this ⊢
      rw [hb2]
      exact this
    · intro ha
      simpa using hn ha
    · intro x hx _
      simpa using hx
end

/-- a call's answer, no address in it, out of a run that found nothing to write -/
theorem Calls.of_run {P : Program} (hd : DrawSound P) {T : FuncId → Option Ent} (hT : SoundT P T) {f : FuncId} {ags : List AV} {h : Heap} {v : AV} {vb : Value} {ρ : Rn} {w : World} {args : Array Value}
    (hr : WR T f ags h fun r _ => r = v) (mt : Match ρ h w) (fr : ∀ i, h.sz ≤ i → ρ i = none) (ha : VRs ρ ags args.toList) (hw : ∀ i, ¬ Wr (h.get i)) (hv : ∀ ρ' u, VR ρ' v u → u = vb) :
    Calls P f args w fun e w' => e = .returned vb ∧ Below w.heap.size w w' := by
  obtain ⟨lf, n, r, h', hc, rfl⟩ := hr
  refine ((callA_sound hd hT lf n).sound f ags h r h' hc ρ w args mt (fun i hi _ => fr i hi) ha).mono ?_
  rintro e w' ⟨u, ρ', rfl, hu, s⟩
  refine ⟨by rw [hv _ _ hu], s.os, s.tape, s.output, s.size, fun k hk => s.frame k hk fun j o n _ => hw j⟩
theorem VR.bool_inv {ρ : Rn} {b : Bool} {u : Value} (h : VR ρ (.bool b) u) : u = .bool b := by simpa [VR] using h

/-- what stands for an argument: its value, an object to look at, where that lies -/
structure Arg where
  v : AV
  x : AObj
  r : Option (Nat × Nat × Nat)
def rn2 (a b : Arg) : Rn := fun i => if i = 0 then a.r else if i = 1 then b.r else none
def hp2 (a b : Arg) : Heap := ⟨2, ((Tr.nil : Tr AObj).set 0 a.x).set 1 b.x⟩
theorem hp2_get (a b : Arg) (i : Nat) : (hp2 a b).get i = if i = 1 then some b.x else if i = 0 then some a.x else none := by
  show ((((Tr.nil : Tr AObj).set 0 a.x).set 1 b.x).get i) = _
  rw [Tr.get_set, Tr.get_set, Tr.get_nil]
theorem match2 {w : World} {a b : Arg} (ha : ∀ k o n, a.r = some (k, o, n) → k < w.heap.size ∧ ObjOK (rn2 a b) w k o n a.x) (hb : ∀ k o n, b.r = some (k, o, n) → k < w.heap.size ∧ ObjOK (rn2 a b) w k o n b.x)
    (na : ¬ Wr (some a.x)) (nb : ¬ Wr (some b.x)) : Match (rn2 a b) (hp2 a b) w ∧ (∀ i, (hp2 a b).sz ≤ i → rn2 a b i = none) ∧ ∀ i, ¬ Wr ((hp2 a b).get i) := by
  have nw : ∀ i, ¬ Wr ((hp2 a b).get i) := by
    intro i
    rw [hp2_get]
    split
    · exact nb
    · split
      · exact na
      · exact id
  refine ⟨⟨?_, ?_, fun i j _ _ _ _ _ _ _ _ hw _ => nw i hw, ?_⟩, ?_, nw⟩
  · intro i k o n hi x hx
    rw [hp2_get] at hx
    unfold rn2 at hi
    by_cases h0 : i = 0
    · subst h0
      simp at hi hx
      subst hx
      exact (ha k o n hi).2
    · by_cases h1 : i = 1
      · subst h1
        simp at hi hx
        subst hx
        exact (hb k o n hi).2
      · simp [h0, h1] at hi
  · intro i k o n hi
    unfold rn2 at hi
    by_cases h0 : i = 0
    · subst h0; simp at hi; exact (ha k o n hi).1
    · by_cases h1 : i = 1
      · subst h1; simp at hi; exact (hb k o n hi).1
      · simp [h0, h1] at hi
  · intro i hi
    have hi' : 2 ≤ i := hi
    rw [hp2_get, if_neg (by omega), if_neg (by omega)]
  · intro i hi
    have hi' : 2 ≤ i := hi
    unfold rn2
    rw [if_neg (by omega), if_neg (by omega)]
theorem mapM_get {α β : Type} {f : α → Option β} : ∀ {l : List α} {r : List β}, l.mapM f = some r → ∀ (i : Nat) (x : α), l[i]? = some x → ∃ y, r[i]? = some y ∧ f x = some y
  | [], r, _, i, x, h => by simp at h
  | a :: l, r, h, i, x, hx => by
    rw [List.mapM_cons] at h
    simp only [Option.bind_eq_bind, Option.bind_eq_some_iff] at h
    obtain ⟨b, hb, bs, hbs, e⟩ := h
    cases e
    cases i with
    | zero => simp at hx; subst hx; exact ⟨b, rfl, hb⟩
    | succ i => exact mapM_get hbs i x (by simpa using hx)
end Go.Ab
