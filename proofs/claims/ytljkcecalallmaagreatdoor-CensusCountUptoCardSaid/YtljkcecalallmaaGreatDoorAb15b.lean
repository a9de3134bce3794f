/- The code, ranges over functions, functions. -/
import Derived.Test.YtljkcecalallmaaGreatDoorAb15
namespace Go.Ab
open Go
section
variable {P : Program} {nt : Nat}

/-- what holds among the rounds of a range over a function: its record stands as it was laid -/
def RangeI (ρ1 : Rn) (l : Nat) (r0 : Loop) : Rn → Heap → World → Prop := fun ρ h w => ρ1.le ρ ∧ w.heap[l]? = some (.loop r0) ∧ ∀ j o n, ρ j = some (l, o, n) → ¬ Wr (h.get j)
theorem rangeI_stable (ρ1 : Rn) (l : Nat) (r0 : Loop) : Stable (RangeI ρ1 l r0) := by
  rintro ρ h w ρ' h' w' ⟨i1, i2, i3⟩ s
  have hlt := lt_of_some i2
  refine ⟨Rn.le_trans i1 s.le, by rw [s.frame l hlt i3]; exact i2, fun j o n hj hw => ?_⟩
  cases e : ρ j with
  | some x =>
    have h2 := s.le j x e
    rw [hj] at h2
    cases h2
    exact i3 j o n e (s.keep j _ e hw)
  | none =>
    rcases s.rng j l o n hj e with h1 | ⟨j', o', n', h1, h2⟩
    · omega
    · exact i3 _ _ _ h1 h2

theorem code_sound (hd : DrawSound P) {cy : YF → CallF} (hcy : SoundF P cy) (lf : Nat) : ∀ (c : Code) (F : Fence) (n : Nat) (inr : Bool), Wd F → (inr = false → F.round = none) →
    ∀ (I : Rn → Heap → World → Prop) (yl : YF), Stable I → SoundY P I yl →
    ∀ (env : Env) (h : Heap) (o : Out) (env' : Env) (h' : Heap), codeA cy lf yl (compC P nt inr c) env h = some (o, env', h') →
    ∀ ρ a w, EnvR ρ env a nt → Match ρ h w → I ρ h w → Free ρ h.sz h'.sz →
      ∀ Q : Exit → Act → World → Prop, (∀ a' w' ρ', EnvR ρ' env' a' nt → Sim ρ h w ρ' h' w' → DX w.heap.size a.defers ρ' w' a'.defers → Q o.toExit a' w') → c.wpIn F n P Q a w
  | .skip, F, n, inr, hF, hro, I, yl, hI, hyl, env, h, o, env', h', hs, ρ, a, w, he, mt, hi, fr, Q, hQ => by
    simp only [compC, codeA] at hs
    cases hs
    exact wpIn_skip (hQ a w ρ he (Sim.refl mt) (DX.refl _ _ _ _))
  | .region id ops draw, F, n, inr, hF, hro, I, yl, hI, hyl, env, h, o, env', h', hs, ρ, a, w, he, mt, hi, fr, Q, hQ => by
    simp only [compC] at hs
    split at hs
    · simp [codeA] at hs
    · rename_i ms hms
      cases draw with
      | false =>
        simp only [cond_false, codeA] at hs
        split at hs
        · rename_i e1 h1 hseq
          cases hs
          refine wpIn_region ?_
          rw [List.range_eq_range', ← Array.length_toList]
          exact seq_sound hF hcy.c hI hyl ops.toList 0 ms rfl hms hseq he mt hi fr fun a' w' ρ' e1 s1 d1 => hQ a' w' ρ' e1 s1 (DX.eq d1)
        · cases hs
      | true =>
        simp only [cond_true] at hs
        cases hb : (tmpsOk ms (predsAll ops.toList []) && (ops.toList.zipIdx.all fun (o, j) => (directs o).all fun i => Nat.blt i j)) with
        | false => rw [hb] at hs; simp [codeA] at hs
        | true =>
          rw [hb] at hs
          rw [Bool.and_eq_true] at hb
          simp only [cond_true, codeA] at hs
          split at hs
          · rename_i e1 h1 hseq
            cases hs
            exact hd F hF n nt (cy noY) hcy.c id ops ms _ hms rfl hb.1 hb.2 env env' h h' hseq ρ a w he mt fr Q fun a' w' ρ' e1 s1 d1 => hQ a' w' ρ' e1 s1 (DX.eq d1)
          · cases hs
  | .seq x y, F, n, inr, hF, hro, I, yl, hI, hyl, env, h, o, env', h', hs, ρ, a, w, he, mt, hi, fr, Q, hQ => by
    simp only [compC, codeA] at hs
    split at hs
    · rename_i e1 h1 h2
      have m1 := codeA_mono hcy lf _ yl hyl.mono _ _ _ _ _ h2
      have m2 := codeA_mono hcy lf _ yl hyl.mono _ _ _ _ _ hs
      refine wpIn_seq (code_sound hd hcy lf x F n inr hF hro I yl hI hyl env h .nrm e1 h1 h2 ρ a w he mt hi (fr.mono (Nat.le_refl _) m2.1) _ ?_)
      intro a1 w1 ρ1 e1' s1 d1
      exact code_sound hd hcy lf y F n inr hF hro I yl hI hyl e1 h1 o env' h' hs ρ1 a1 w1 e1' s1.mt (hI _ _ _ _ _ _ hi s1) (s1.free fr) Q fun a2 w2 ρ2 e2 s2 d2 =>
        hQ a2 w2 ρ2 e2 (s1.trans s2) (DX.trans s2 s1.size d1 d2)
    · rename_i hne
      refine wpIn_seq (code_sound hd hcy lf x F n inr hF hro I yl hI hyl env h o env' h' hs ρ a w he mt hi fr _ ?_)
      intro a1 w1 ρ1 e1' s1 d1
      have := hQ a1 w1 ρ1 e1' s1 d1
      cases o with
      | nrm => exact (hne _ _ hs).elim
      | ex i => exact this
      | ret => exact this
  | .cond c x y, F, n, inr, hF, hro, I, yl, hI, hyl, env, h, o, env', h', hs, ρ, a, w, he, mt, hi, fr, Q, hQ => by
    simp only [compC] at hs
    split at hs
    · rename_i c' hc
      have rc := opd_rel he hc
      simp only [codeA] at hs
      split at hs
      · rename_i hb
        rw [hb] at rc
        simp only [VR] at rc
        exact wpIn_cond_true rc (code_sound hd hcy lf x F n inr hF hro I yl hI hyl env h o env' h' hs ρ a w he mt hi fr Q hQ)
      · rename_i hb
        rw [hb] at rc
        simp only [VR] at rc
        exact wpIn_cond_false rc (code_sound hd hcy lf y F n inr hF hro I yl hI hyl env h o env' h' hs ρ a w he mt hi fr Q hQ)
      · cases hs
    · simp [codeA] at hs
  | .block id x, F, n, inr, hF, hro, I, yl, hI, hyl, env, h, o, env', h', hs, ρ, a, w, he, mt, hi, fr, Q, hQ => by
    simp only [compC, codeA] at hs
    refine wpIn_block ?_
    split at hs
    · rename_i i e1 h1 hx
      cases hb : i.beq id with
      | true =>
        rw [hb] at hs
        cases hs
        have := ofBeq hb
        subst this
        refine code_sound hd hcy lf x F n inr hF hro I yl hI hyl env h (.ex i) env' h' hx ρ a w he mt hi fr _ ?_
        intro a1 w1 ρ1 e1' s1 d1
        show Exit.inBlock i Q (.exit i) a1 w1
        simp only [Exit.inBlock, if_true]
        exact hQ a1 w1 ρ1 e1' s1 d1
      | false =>
        rw [hb] at hs
        cases hs
        have hne : i ≠ id := by intro e; subst e; simp at hb
        refine code_sound hd hcy lf x F n inr hF hro I yl hI hyl env h (.ex i) env' h' hx ρ a w he mt hi fr _ ?_
        intro a1 w1 ρ1 e1' s1 d1
        show Exit.inBlock id Q (.exit i) a1 w1
        simp only [Exit.inBlock, if_neg hne]
        exact hQ a1 w1 ρ1 e1' s1 d1
    · rename_i hne
      refine code_sound hd hcy lf x F n inr hF hro I yl hI hyl env h o env' h' hs ρ a w he mt hi fr _ ?_
      intro a1 w1 ρ1 e1' s1 d1
      have := hQ a1 w1 ρ1 e1' s1 d1
      cases o with
      | nrm => exact this
      | ex i => exact (hne _ _ _ hs).elim
      | ret => exact this
  | .loop x, F, n, inr, hF, hro, I, yl, hI, hyl, env, h, o, env', h', hs, ρ, a, w, he, mt, hi, fr, Q, hQ => by
    simp only [compC, codeA] at hs
    exact iterA_sound hF x (fun env h o env' h' => codeA_mono hcy lf _ yl hyl.mono env h o env' h') hI
      (fun env h o env' h' hb ρ a w he mt hi fr Q hQ => code_sound hd hcy lf x F n inr hF hro I yl hI hyl env h o env' h' hb ρ a w he mt hi fr Q hQ)
      lf env h o env' h' hs ρ a w he mt hi fr Q hQ
  | .exit id, F, n, inr, hF, hro, I, yl, hI, hyl, env, h, o, env', h', hs, ρ, a, w, he, mt, hi, fr, Q, hQ => by
    simp only [compC, codeA] at hs
    cases hs
    exact wpIn_exit (hQ a w ρ he (Sim.refl mt) (DX.refl _ _ _ _))
  | .ret, F, n, inr, hF, hro, I, yl, hI, hyl, env, h, o, env', h', hs, ρ, a, w, he, mt, hi, fr, Q, hQ => by
    simp only [compC, codeA] at hs
    cases hs
    exact wpIn_ret (hQ a w ρ he (Sim.refl mt) (DX.refl _ _ _ _))
  | .rangeFunc f ps as body, F, n, inr, hF, hro, I, yl, hI, hyl, env, h, o, env', h', hs, ρ, a, w, he, mt, hi, fr, Q, hQ => by
    simp only [compC] at hs
    split at hs
    · rename_i f' p hf hps
      cases hb : (!inr && Nat.blt p nt) with
      | false => rw [hb] at hs; simp [codeA] at hs
      | true =>
        rw [hb] at hs
        rw [Bool.and_eq_true, Bool.not_eq_true'] at hb
        have hrn := hro hb.1
        have hpn : p < nt := Nat.le_of_ble_eq_true hb.2
        have hps' : ps = #[p] := by cases ps; simp_all
        subst hps'
        simp only [cond_true, codeA] at hs
        have rf := opd_rel he hf
        split at hs
        · rename_i g first cap hg
          rw [hg] at rf
          simp only [VR] at rf
          obtain ⟨fi, ca, ef, r1, r2⟩ := rf
          split at hs
          · rename_i v h2 hcall
            cases hs
            -- the record
            obtain ⟨fn, q1, q2, q3⟩ := hcy.ok _ _ _ _ _ _ hcall
            have hmono := hcy.mono (roundA cy lf p (compC P nt true as) (compC P nt true body) env h.sz) (by
              intro i args hx v' hx' hr
              obtain ⟨_, x, e1, h3, e2, _, h1, h2', _⟩ := roundA_spec hr
              exact (codeA_mono hcy lf _ noY noY_mono _ _ _ _ _ h1).trans (codeA_mono hcy lf _ noY noY_mono _ _ _ _ _ h2')) _ _ _ _ _ hcall
            have hsz : h.sz + 1 ≤ h'.sz := hmono.1
            have sJ := Sim.junk mt (.deferred (some []))
            have fr1 : Free ρ h.sz (h.sz + 1) := fr.mono (Nat.le_refl _) hsz
            have f0 : ρ h.sz = none := fr _ (Nat.le_refl _) (by omega)
            refine wpIn_rangeFunc ?_
            intro fnb _
            let r0 : Loop := { state := .ready, pending := none, fn := fnb, tmps := a.tmps, params := #[p], assign := as, body := body, defers := w.heap.size }
            have hjs : (w.alloc (.deferred (some []))).heap.size = w.heap.size + 1 := by show (w.heap.push _).size = _; rw [Array.size_push]
            have sA := Sim.alloc sJ.mt fr1 .dead (.loop r0) 0 (fun _ _ => trivial)
            have s1 := sJ.trans sA
            rw [hjs] at s1
            let l := w.heap.size + 1
            let ρ1 : Rn := upd ρ h.sz (l, 0, 0)
            let w1 : World := (w.alloc (.deferred (some []))).alloc (.loop r0)
            have s1' : Sim ρ h w ρ1 (h.alloc .dead) w1 := s1
            have hl1 : w1.heap[l]? = some (.loop r0) := by
              have := World.alloc_heap_new (w.alloc (.deferred (some []))) (.loop r0)
              rw [hjs] at this
              exact this
            have hD1 : w1.heap[w.heap.size]? = some (.deferred (some [])) := by
              show (((w.heap.push _)).push _)[w.heap.size]? = _
              rw [Array.getElem?_push, if_neg (by simp), Array.getElem?_push, if_pos rfl]
            have hw1 : w1.heap.size = w.heap.size + 2 := by show ((w.heap.push _).push _).size = _; rw [Array.size_push, Array.size_push]
            have inv1 : ∀ j b o k, ρ1 j = some (b, o, k) → (j = h.sz ∧ b = l) ∨ (ρ j = some (b, o, k) ∧ b < w.heap.size) := by
              intro j b o k e
              by_cases hj : j = h.sz
              · subst hj
                have e' : ρ1 h.sz = some (l, 0, 0) := upd_self ..
                rw [e'] at e
                cases e
                exact .inl ⟨rfl, rfl⟩
              · have e' : ρ1 j = ρ j := upd_ne hj
                rw [e'] at e
                exact .inr ⟨e, mt.blk j b o k e⟩
            have hi1 : RangeI ρ1 l r0 ρ1 (h.alloc .dead) w1 := by
              refine ⟨Rn.le_refl _, hl1, fun j o k hj hw => ?_⟩
              rcases inv1 j l o k hj with ⟨rfl, _⟩ | ⟨_, hlt⟩
              · rw [Heap.get_alloc, if_pos rfl] at hw; exact hw
              · simp only [l] at hlt; omega
            have hle1 : ρ.le ρ1 := s1'.le
            refine ⟨l, [mkD w.heap.size], w1, { target := .fn (.func g) ca, args := fi ++ #[.func (.yield l) #[] #[]] }, w1, g, fi ++ #[.func (.yield l) #[] #[]] ++ ca, w1, ?_, ?_, fun _ _ => hF.fn _, ?_, fun e => (by rw [hF.dep] at e; cases e), ?_⟩
            · rw [hrn]
              exact run_enterLoop_outer ..
            · simp only [resolve, ef, Deferred.ofValue]
              simp [Act.eval]
            · simp only [invoke, callFunc, Sem.run_bind, run_program, Result.andThen_ok, q1, q2, q3, Bool.false_eq_true, if_false, Sem.run_pure]
            refine (hF.calls (hcy.sound (RangeI ρ1 l r0) _ (rangeI_stable ρ1 l r0) ?_ _ _ _ _ _ hcall ρ1 w1 _ hi1 s1'.mt ?_ ?_)).mono ?_
            · -- the rounds
              refine ⟨?_, ?_⟩
              · intro i args hx v' hx' hr
                obtain ⟨_, x, e1, h3, e2, _, h1, h2', _⟩ := roundA_spec hr
                exact (codeA_mono hcy lf _ noY noY_mono _ _ _ _ _ h1).trans (codeA_mono hcy lf _ noY noY_mono _ _ _ _ _ h2')
              · intro i args hx v' hx' hr ρ2 w2 args' ⟨k1, k2, k3⟩ mt2 fr2 ha b o k hρ
                obtain ⟨rfl, x, e1, h3, e2, rfl, c1, c2, rfl⟩ := roundA_spec hr
                have hbl : b = l := by
                  have := k1 h.sz (l, 0, 0) (upd_self ..)
                  rw [hρ] at this
                  cases this
                  rfl
                subst hbl
                obtain ⟨u, us, eu, ru, rus⟩ := ha
                have hus : us = [] := rus
                subst hus
                have hargs : args' = #[u] := by cases args'; simp_all
                subst hargs
                refine ⟨_, _, _, _, run_yield k2 rfl, ?_⟩
                have m1 := codeA_mono hcy lf _ noY noY_mono _ _ _ _ _ c1
                have m2 := codeA_mono hcy lf _ noY noY_mono _ _ _ _ _ c2
                have hpre := (he.mono (Rn.le_trans hle1 k1)).put (Rn.le_refl ρ2) ru (some p)
                have henv : EnvR ρ2 (env.set p x) { tmps := (r0.params.zip #[u]).foldl (fun tmps (t, a) => tmps.setIfInBounds t a) r0.tmps, defers := [] } nt := ⟨by simpa [r0, Act.put] using hpre.size, by simpa [r0, Act.put, putA] using hpre.rel⟩
                refine roundIn_of_wpIn (F := Fence.wide) trivial ?_
                refine code_sound hd hcy lf as (Fence.wide.inRound l) 0 true (Wd.wide.round l) (fun e => by cases e) AnyI noY anyI (noY_sound _) _ _ _ _ _ c1 ρ2 _ w2 henv mt2 trivial (fr2.mono (Nat.le_refl _) m2.1) _ ?_
                intro a3 w3 ρ3 e3 s3 _
                obtain ⟨j1, j2, j3⟩ := rangeI_stable ρ1 l r0 _ _ _ _ _ _ ⟨k1, k2, k3⟩ s3
                show ∃ _, _
                refine ⟨_, run_beginRound j2 rfl, ?_⟩
                have un3 := unread_loop s3.mt j2
                refine code_sound hd hcy lf body (Fence.wide.inRound l) 0 true (Wd.wide.round l) (fun e => by cases e) AnyI noY anyI (noY_sound _) _ _ _ _ _ c2 ρ3 a3 _ e3 (s3.mt.poke un3 _) trivial (s3.free fr2) _ ?_
                intro a4 w4 ρ4 e4 s4 _
                have hlt3 := lt_of_some j2
                have hw4 : w4.heap[l]? = some (.loop { r0 with state := .busy }) := by
                  rw [s4.frame l (by simpa using hlt3) j3]
                  exact World.putObj_heap_same hlt3
                refine ⟨_, _, run_endRound none hw4, ⟨.bool true, ρ4, rfl, rfl, s3.trans ?_⟩⟩
                have un4 := unread_loop s4.mt hw4
                have := s4.pokes un4 (.loop r0)
                rw [putObj_back _ j2] at this
                exact this
            · intro j h1 h2
              have hj : j ≠ h.sz := by simp at h1; omega
              have : ρ1 j = ρ j := upd_ne hj
              rw [this]
              exact fr j (by simp at h1; omega) h2
            · have ry : VR ρ1 (.yd h.sz) (.func (.yield l) #[] #[]) := ⟨l, 0, 0, upd_self .., rfl⟩
              simpa using ((r1.mono hle1).append (VRs.cons ry VRs.nil)).append (r2.mono hle1)
            · rintro e w3 ⟨u, ρ3, rfl, _, s3⟩
              obtain ⟨j1, j2, j3⟩ := rangeI_stable ρ1 l r0 _ _ _ _ _ _ hi1 s3
              have un3 := unread_loop s3.mt j2
              refine ⟨none, _, run_endLoop j2 (by simp [r0]), ?_⟩
              have s13 := s1'.trans s3
              have s4 := s13.poke (l := l) (by simp only [l]; omega) un3 (.loop { r0 with state := .exhausted })
              refine hQ _ _ ρ3 ⟨he.size, fun t v ht => (he.rel t v ht).mono s13.le⟩ s4 ⟨[w.heap.size], rfl, by simp, ?_⟩
              intro D hD
              rw [List.mem_singleton] at hD
              subst hD
              have nD1 : ∀ j o k, ρ1 j ≠ some (w.heap.size, o, k) := by
                intro j o k e
                rcases inv1 j _ o k e with ⟨_, h1⟩ | ⟨_, h1⟩
                · simp only [l] at h1; omega
                · omega
              refine ⟨Nat.le_refl _, ?_, ?_⟩
              · rw [World.putObj_heap_other (by simp only [l]; omega), s3.frame _ (by omega) fun j o k e => (nD1 j o k e).elim]
                exact hD1
              · intro j o k e
                cases e1 : ρ1 j with
                | some x =>
                  have := s3.le j x e1
                  rw [e] at this
                  cases this
                  exact nD1 j o k e1
                | none =>
                  rcases s3.rng j _ o k e e1 with h1 | ⟨j', o', k', h1, _⟩
                  · omega
                  · exact nD1 _ _ _ h1
          · cases hs
        · cases hs
    · simp [codeA] at hs
  | .scope _, F, n, inr, hF, hro, I, yl, hI, hyl, env, h, o, env', h', hs, ρ, a, w, he, mt, hi, fr, Q, hQ => by simp [compC, codeA] at hs
  | .label _, F, n, inr, hF, hro, I, yl, hI, hyl, env, h, o, env', h', hs, ρ, a, w, he, mt, hi, fr, Q, hQ => by simp [compC, codeA] at hs
  | .goto _, F, n, inr, hF, hro, I, yl, hI, hyl, env, h, o, env', h', hs, ρ, a, w, he, mt, hi, fr, Q, hQ => by simp [compC, codeA] at hs
  | .refuse _, F, n, inr, hF, hro, I, yl, hI, hyl, env, h, o, env', h', hs, ρ, a, w, he, mt, hi, fr, Q, hQ => by simp [compC, codeA] at hs

theorem setAll_get : ∀ (vs : List AV) (env : Env) (k t : Nat), (setAll env k vs).get t = if k ≤ t ∧ t < k + vs.length then vs[t - k]? else env.get t
  | [], env, k, t => by rw [if_neg (by simp only [List.length_nil]; omega)]; rfl
  | v :: vs, env, k, t => by
    rw [setAll, setAll_get vs, Tr.get_set]
    simp only [List.length_cons]
    by_cases h1 : k + 1 ≤ t ∧ t < k + 1 + vs.length
    · rw [if_pos h1, if_pos (by omega), show t - k = (t - (k + 1)) + 1 by omega]
      simp
    · rw [if_neg h1]
      by_cases h2 : t = k
      · subst h2; rw [if_pos rfl, if_pos (by omega)]; simp
      · rw [if_neg h2, if_neg (by omega)]

theorem env0 {ρ : Rn} {args : List AV} {args' : Array Value} (h : VRs ρ args args'.toList) (hle : args.length ≤ nt) :
    EnvR ρ (setAll .nil 0 args) { tmps := args' ++ Array.replicate (nt - args'.size) undef, defers := [] } nt := by
  have hl : args.length = args'.size := by rw [h.length]; simp
  refine ⟨by simp; omega, fun t v ht => ?_⟩
  simp only [Opd.ev, setAll_get, Nat.zero_le, true_and, Nat.zero_add, Nat.sub_zero]
  by_cases hlt : t < args.length
  · rw [if_pos hlt]
    rw [Array.getElem?_append_left (by omega)] at ht
    obtain ⟨u, hu, hr⟩ := h.get (List.getElem?_eq_getElem hlt)
    rw [Array.getElem?_toList, ht] at hu
    cases hu
    rw [List.getElem?_eq_getElem hlt]
    exact hr
  · rw [if_neg hlt]
    rw [Array.getElem?_append_right (by omega), Array.getElem?_replicate] at ht
    split at ht
    · cases ht; exact VR.undef ρ
    · cases ht

theorem res_sound {ρ : Rn} {env : Env} {h : Heap} {a : Act} {w : World} (he : EnvR ρ env a nt) (mt : Match ρ h w) {F : ResultVar → Sem Value} (hF1 : ∀ t, F (.tmp t) = pure (a.tmps.getD t undef))
    (hF2 : ∀ x t, F (.cell x t) = (do loadVar t (← asAddr (a.tmps.getD x undef)))) : ∀ {rs : List ResultVar} {ms : List MRes} {vs : List AV}, compR P nt rs = some ms → resA env h ms = some vs →
    ∃ us : List Value, VRs ρ vs us ∧ (rs.mapM F).run P w = .ok us w
  | [], ms, vs, hc, hr => by
    simp only [compR, Option.some.injEq] at hc
    subst hc
    simp only [resA, Option.some.injEq] at hr
    subst hr
    exact ⟨[], VRs.nil, by simp⟩
  | .tmp t :: rs, ms, vs, hc, hr => by
    simp only [compR] at hc
    split at hc
    · rename_i ms' hms
      cases hb : Nat.blt t nt with
      | false => rw [hb] at hc; cases hc
      | true =>
        rw [hb] at hc
        cases hc
        simp only [resA] at hr
        split at hr
        · rename_i vs' hvs
          cases hr
          obtain ⟨us, h1, h2⟩ := res_sound he mt hF1 hF2 hms hvs
          obtain ⟨u, hu, ru⟩ := ev_tmp he (Nat.le_of_ble_eq_true hb)
          refine ⟨u :: us, VRs.cons ru h1, ?_⟩
          simp only [List.mapM_cons, hF1, Sem.run_bind, Sem.run_pure, Result.andThen_ok, h2]
          simp [Array.getD_eq_getD_getElem?, hu]
        · cases hr
    · cases hc
  | .cell t ty :: rs, ms, vs, hc, hr => by
    simp only [compR] at hc
    split at hc
    · rename_i n ms' hn hms
      cases hb : Nat.blt t nt with
      | false => rw [hb] at hc; cases hc
      | true =>
        rw [hb] at hc
        cases hc
        simp only [resA] at hr
        split at hr
        · rename_i i k hik
          split at hr
          · rename_i v vs' hv hvs
            cases hr
            obtain ⟨us, h1, h2⟩ := res_sound he mt hF1 hF2 hms hvs
            obtain ⟨u, hu, ru⟩ := ev_tmp he (Nat.le_of_ble_eq_true hb)
            rw [hik] at ru
            simp only [VR] at ru
            obtain ⟨b, o, sz, g1, rfl⟩ := ru
            obtain ⟨x, g2, g3⟩ := run_loadVar_rel (P := P) mt hn g1 hv
            refine ⟨x :: us, VRs.cons g3 h1, ?_⟩
            have : a.tmps.getD t undef = .pointer (some ⟨b, o + k, none⟩) := by simp [Array.getD_eq_getD_getElem?, hu]
            have hA : (asAddr (a.tmps.getD t undef)).run P w = .ok ⟨b, o + k, none⟩ w := by rw [this]; rfl
            simp only [List.mapM_cons, hF2, Sem.run_bind, hA, Sem.run_pure, Result.andThen_ok, g2, h2]
          · cases hr
        · cases hr
    · cases hc

theorem leaves_marks {fn : Func} {tmps : Array Value} {R : Ending → World → Prop} : ∀ (Ds : List Nat) (w : World), Ds.Nodup → (∀ D ∈ Ds, w.heap[D]? = some (.deferred (some []))) →
    (∃ v, (results fn tmps).run P (Ds.foldl (fun w D => w.putObj D (.deferred none)) w) = .ok v (Ds.foldl (fun w D => w.putObj D (.deferred none)) w) ∧ R (.returned v) (Ds.foldl (fun w D => w.putObj D (.deferred none)) w)) →
    LeavesInM Fence.wide 0 P fn tmps R (Ds.map mkD ++ []) .returning w
  | [], w, _, _, h => h
  | D :: Ds, w, hn, hD, h => by
    rw [List.nodup_cons] at hn
    refine ⟨by simp, .inl ⟨D, _, rfl, run_takeDeferred (hD D (by simp)), ?_⟩⟩
    refine leaves_marks Ds _ hn.2 (fun E hE => ?_) h
    rw [World.putObj_heap_other (fun e => hn.1 (by rw [← e]; exact hE))]
    exact hD E (by simp [hE])
theorem Sim.marks {ρ ρ' : Rn} {h h' : Heap} {w : World} : ∀ (Ds : List Nat) (w' : World), Sim ρ h w ρ' h' w' → (∀ D ∈ Ds, w.heap.size ≤ D ∧ ∀ j o n, ρ' j ≠ some (D, o, n)) →
    Sim ρ h w ρ' h' (Ds.foldl (fun w D => w.putObj D (.deferred none)) w')
  | [], _, s, _ => s
  | D :: Ds, w', s, k => Sim.marks Ds _ (s.poke (k D (by simp)).1 (fun j o n e => ((k D (by simp)).2 j o n e).elim) _) fun E hE => k E (by simp [hE])

theorem func_sound (hd : DrawSound P) {cy : YF → CallF} (hcy : SoundF P cy) (lf : Nat) {I : Rn → Heap → World → Prop} {yl : YF} (hI : Stable I) (hyl : SoundY P I yl) {f : FuncId} {fn : Func} (hf : P.funcs[f]? = some fn) {m : MFunc} (hm : compF P fn = some m) {args : List AV} {h h' : Heap} {v : AV}
    (hs : funcA cy lf yl m args h = some (v, h')) {ρ : Rn} {w : World} {args' : Array Value} (hi : I ρ h w) (mt : Match ρ h w) (fr : Free ρ h.sz h'.sz) (ha : VRs ρ args args'.toList) : Calls P f args' w (Lands ρ h w v h') := by
  unfold compF at hm
  split at hm
  · rename_i c res hb hres
    cases hm
    unfold funcA at hs
    cases hle : Nat.ble args.length fn.ntmps with
    | false => simp only [hle] at hs; cases hs
    | true =>
      simp only [hle, cond_true] at hs
      refine (callsIn_wide (n := 0)).1 (callsIn_of_wp_marks (F := Fence.wide) hf hb trivial ?_)
      have he := env0 (nt := fn.ntmps) ha (Nat.le_of_ble_eq_true hle)
      split at hs
      · cases hs
      · cases hs
      · rename_i out env h2 hne hcode
        have hh : h2 = h' := by
          split at hs
          · cases hs; rfl
          · cases hs; rfl
          · cases hs
        subst hh
        refine code_sound (nt := fn.ntmps) hd hcy lf c Fence.wide 0 false Wd.wide (fun _ => rfl) I yl hI hyl _ h out env h2 hcode ρ _ w he mt hi fr _ ?_
        rintro a1 w1 ρ1 e1 s1 ⟨Ds, d1, d2, d3⟩
        have s2 := Sim.marks Ds w1 s1 fun D hD => ⟨(d3 D hD).1, (d3 D hD).2.2⟩
        have hfin : bodyPostM Fence.wide 0 P fn (Lands ρ h w v h2) .ret a1 w1 := by
          show LeavesInM Fence.wide 0 P fn a1.tmps (Lands ρ h w v h2) a1.defers .returning w1
          rw [d1]
          refine leaves_marks Ds w1 d2 (fun D hD => (d3 D hD).2.1) ?_
          generalize Ds.foldl (fun w D => w.putObj D (.deferred none)) w1 = w2 at s2 ⊢
          have e1' : EnvR ρ1 env a1 fn.ntmps := e1
          split at hs
          · rename_i v' hv'
            cases hs
            obtain ⟨us, g1, g2⟩ := res_sound (P := P) e1' s2.mt (F := fun | .tmp t => pure (a1.tmps.getD t undef) | .cell x t => do loadVar t (← asAddr (a1.tmps.getD x undef))) (fun _ => rfl) (fun _ _ => rfl) hres hv'
            have hl := g1.length
            obtain ⟨u, rfl⟩ : ∃ u, us = [u] := by
              cases us with
              | nil => simp at hl
              | cons u us => cases us with
                | nil => exact ⟨u, rfl⟩
                | cons _ _ => simp at hl
            obtain ⟨_, _, e, r1, _⟩ := g1
            cases e
            refine ⟨u, ?_, u, ρ1, rfl, r1, s2⟩
            unfold results
            rw [Array.mapM_eq_mapM_toList]
            simp only [Sem.run_bind, Sem.run_map]
            refine (congrArg (fun r => (Result.andThen r _).andThen _) g2).trans ?_
            simp
          · rename_i vs hn1 hv'
            cases hs
            obtain ⟨us, g1, g2⟩ := res_sound (P := P) e1' s2.mt (F := fun | .tmp t => pure (a1.tmps.getD t undef) | .cell x t => do loadVar t (← asAddr (a1.tmps.getD x undef))) (fun _ => rfl) (fun _ _ => rfl) hres hv'
            have hl := g1.length
            have hne1 : us.length ≠ 1 := by
              intro e
              rw [e] at hl
              match vs, hl with
              | [x], _ => exact hn1 x rfl
            refine ⟨.tuple us.toArray, ?_, _, ρ1, rfl, ⟨us.toArray, rfl, by simpa using g1⟩, s2⟩
            unfold results
            rw [Array.mapM_eq_mapM_toList]
            simp only [Sem.run_bind, Sem.run_map]
            refine (congrArg (fun r => (Result.andThen r _).andThen _) g2).trans ?_
            simp only [Result.andThen_ok, Sem.run_pure]
            rw [dif_neg (by simpa using hne1)]
          · cases hs
        cases out with
        | nrm => exact hfin
        | ret => exact hfin
        | ex i => exact (hne _ rfl).elim
  · cases hm

/-- the table of functions -/
structure SoundT (P : Program) (T : FuncId → Option Ent) : Prop where
  fn : ∀ f m, T f = some (.fn m) → ∃ fn, P.funcs[f]? = some fn ∧ compF P fn = some m ∧ (fn.name == "runtime.NumGoroutine") = false
  intr : ∀ f g, T f = some (.intr g) → CallOK P f ∧ (∀ args h v h', g args h = some (v, h') → HMono h h') ∧
    ∀ args h v h', g args h = some (v, h') → ∀ ρ w (args' : Array Value), Match ρ h w → Free ρ h.sz h'.sz → VRs ρ args args'.toList → Calls P f args' w (Lands ρ h w v h')

theorem funcA_mono {cy : YF → CallF} (hc : SoundF P cy) (lf : Nat) {yl : YF} (hy : YMono yl) {m : MFunc} {args : List AV} {h h' : Heap} {v : AV} (hs : funcA cy lf yl m args h = some (v, h')) : HMono h h' := by
  unfold funcA at hs
  cases hle : Nat.ble args.length m.nt with
  | false => rw [hle] at hs; cases hs
  | true =>
    rw [hle] at hs
    simp only [cond_true] at hs
    split at hs
    · cases hs
    · cases hs
    · rename_i out env h2 hne hcode
      have hh : h2 = h' := by
        split at hs
        · cases hs; rfl
        · cases hs; rfl
        · cases hs
      subst hh
      exact codeA_mono hc lf _ yl hy _ _ _ _ _ hcode

theorem call_sound (hd : DrawSound P) {T : FuncId → Option Ent} (hT : SoundT P T) (lf : Nat) : ∀ n, SoundF P (callY T lf n)
  | 0 => ⟨(fun yl hy f args h v h' hs => by cases hs), (fun yl f args h v h' hs => by cases hs), (fun I yl hI hyl f args h v h' hs => by cases hs)⟩
  | n + 1 => by
    have ih := call_sound hd hT lf n
    refine ⟨fun yl hy f args h v h' hs => ?_, fun yl f args h v h' hs => ?_, fun I yl hI hyl f args h v h' hs ρ w args' hi mt fr ha => ?_⟩
    · simp only [callY] at hs
      split at hs
      · exact funcA_mono ih lf hy hs
      · rename_i g hg; exact (hT.intr f g hg).2.1 _ _ _ _ hs
      · cases hs
    · simp only [callY] at hs
      split at hs
      · rename_i m hm
        obtain ⟨fn, h1, h2, h3⟩ := hT.fn f m hm
        refine ⟨fn, h1, h3, ?_⟩
        unfold compF at h2
        split at h2
        · rename_i hb _; simp [hb]
        · cases h2
      · rename_i g hg; exact (hT.intr f g hg).1
      · cases hs
    · simp only [callY] at hs
      split at hs
      · rename_i m hm
        obtain ⟨fn, h1, h2, h3⟩ := hT.fn f m hm
        exact func_sound hd ih lf hI hyl h1 h2 hs hi mt fr ha
      · rename_i g hg; exact (hT.intr f g hg).2.2 _ _ _ _ hs ρ w args' mt fr ha
      · cases hs
theorem callA_sound (hd : DrawSound P) {T : FuncId → Option Ent} (hT : SoundT P T) (lf n : Nat) : SoundC P (callA T lf n) := (call_sound hd hT lf n).c
end
end Go.Ab
