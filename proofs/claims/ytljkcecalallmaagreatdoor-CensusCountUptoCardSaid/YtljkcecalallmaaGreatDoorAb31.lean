/- slices.Sorted(maps.Keys(m)), of numbers, as an intrinsic. -/
import Derived.Test.YtljkcecalallmaaGreatDoorAb30
import Derived.Laws.AppendOwn
import Derived.Lib.SlKeysI
import Derived.Below
namespace Go.Ab
open Go Go.RowKit

def insI (x : Int) : List Int → List Int
  | [] => [x]
  | y :: ys => bif leI x y then x :: y :: ys else y :: insI x ys
def isortI : List Int → List Int
  | [] => []
  | x :: xs => insI x (isortI xs)
theorem insI_perm (x : Int) : ∀ l, (insI x l).Perm (x :: l)
  | [] => .refl _
  | y :: ys => by
    simp only [insI]
    cases leI x y with
    | true => exact .refl _
    | false => exact ((insI_perm x ys).cons y).trans (.swap x y ys)
theorem isortI_perm : ∀ l, (isortI l).Perm l
  | [] => .refl _
  | x :: xs => (insI_perm x (isortI xs)).trans ((isortI_perm xs).cons x)
theorem insI_sorted (x : Int) : ∀ l : List Int, l.Pairwise (· ≤ ·) → (insI x l).Pairwise (· ≤ ·)
  | [], _ => by simp [insI]
  | y :: ys, h => by
    simp only [insI]
    rw [List.pairwise_cons] at h
    cases hb : leI x y with
    | true =>
      rw [leI_eq, decide_eq_true_iff] at hb
      refine List.pairwise_cons.2 ⟨fun z hz => ?_, List.pairwise_cons.2 h⟩
      rcases List.mem_cons.1 hz with rfl | hz
      · exact hb
      · exact Int.le_trans hb (h.1 z hz)
    | false =>
      rw [leI_eq, decide_eq_false_iff_not] at hb
      refine List.pairwise_cons.2 ⟨fun z hz => ?_, insI_sorted x ys h.2⟩
      rcases List.mem_cons.1 ((insI_perm x ys).mem_iff.1 hz) with rfl | hz
      · omega
      · exact h.1 z hz
theorem isortI_sorted : ∀ l : List Int, (isortI l).Pairwise (· ≤ ·)
  | [] => .nil
  | x :: xs => insI_sorted x _ (isortI_sorted xs)
theorem mergeSort_is {l m : List Int} (h : l.Perm m) : (l.mergeSort fun x y => decide (x ≤ y)) = isortI m := by
  refine List.Perm.eq_of_pairwise (le := fun x y => x ≤ y) (fun a b _ _ h1 h2 => Int.le_antisymm h1 h2) ?_ (isortI_sorted m) (((List.mergeSort_perm l _).trans h).trans (isortI_perm m).symm)
  have := List.pairwise_mergeSort (le := fun x y : Int => decide (x ≤ y)) (fun a b c h1 h2 => by simp only [decide_eq_true_eq] at *; omega) (fun a b => by simp only [Bool.or_eq_true, decide_eq_true_eq]; omega) l
  exact this.imp fun h => by simpa using h

def keyI : List (AV × AV × Nat) → Option (List Int)
  | [] => some []
  | (.int .i64 n, _, _) :: es => match keyI es with | some ks => some (n :: ks) | none => none
  | _ => none
def incr : Nat → List (AV × AV × Nat) → Bool
  | _, [] => true
  | lo, (_, _, b) :: es => Nat.ble lo b && incr (b + 1) es
def lastB : Nat → List (AV × AV × Nat) → Nat
  | d, [] => d
  | _, (_, _, b) :: es => lastB (b + 1) es
def memI (x : Int) : List Int → Bool
  | [] => false
  | y :: ys => eqI x y || memI x ys
def nodupI : List Int → Bool
  | [] => true
  | x :: xs => !memI x xs && nodupI xs
def inR : List Int → Bool
  | [] => true
  | x :: xs => leI (-9223372036854775808) x && leI x 9223372036854775807 && inR xs
def goodM (es : List (AV × AV × Nat)) (ks : List Int) (clock : Nat) : Bool := incr 0 es && Nat.ble (lastB 0 es) clock && nodupI ks && inR ks && Nat.ble es.length 1000000

structure GoodMap (es : Array MapEntry) (clock : Nat) (ks : List Int) : Prop where
  keys : es.toList.map (·.key) = ks.map (Value.int .i64)
  born : ∀ x ∈ es.toList, x.born < clock
  nodB : (es.toList.map (·.born)).Nodup
  nodK : (es.toList.map (·.key)).Nodup
  rng : ∀ n ∈ ks, (Lit.int .i64 n).wf = true
  size : es.size ≤ 1000000
theorem keyI_spec {ρ : Rn} : ∀ {es : List (AV × AV × Nat)} {ks : List Int}, keyI es = some ks → ∀ {es' : List MapEntry}, MRs ρ es es' → es'.map (·.key) = ks.map (Value.int .i64)
  | [], ks, h, es', m => by
    simp only [keyI, Option.some.injEq] at h
    subst h
    have := m.1
    simp at this
    cases es' with
    | nil => rfl
    | cons _ _ => simp at this
  | (k, v, b) :: es, ks, h, es', m => by
    cases es' with
    | nil => have := m.1; simp at this
    | cons y ys =>
      have m' : MRs ρ es ys := ⟨by have := m.1; simpa using this, fun i x z h1 h2 => m.2 (i + 1) x z (by simpa using h1) (by simpa using h2)⟩
      have h0 := (m.2 0 (k, v, b) y rfl rfl).1
      unfold keyI at h
      split at h
      · rename_i heq; cases heq
      · rename_i n _ _ es2 heq
        cases heq
        split at h
        · rename_i ks' hk
          cases h
          simp only [VR] at h0
          simp only [List.map_cons, h0, keyI_spec hk m']
        · cases h
      · cases h
theorem incr_spec {ρ : Rn} : ∀ {es : List (AV × AV × Nat)} {lo : Nat}, incr lo es = true → ∀ {es' : List MapEntry}, MRs ρ es es' → (es'.map (·.born)).Nodup ∧ ∀ x ∈ es', lo ≤ x.born ∧ x.born < lastB lo es
  | [], lo, h, es', m => by
    have := m.1
    cases es' with
    | nil => exact ⟨by simp, fun x hx => by simp at hx⟩
    | cons _ _ => simp at this
  | (k, v, b) :: es, lo, h, es', m => by
    cases es' with
    | nil => have := m.1; simp at this
    | cons y ys =>
      have m' : MRs ρ es ys := ⟨by have := m.1; simpa using this, fun i x z h1 h2 => m.2 (i + 1) x z (by simpa using h1) (by simpa using h2)⟩
      have h0 : y.born = b := (m.2 0 (k, v, b) y rfl rfl).2.2
      simp only [incr, Bool.and_eq_true] at h
      have hb := Nat.le_of_ble_eq_true h.1
      obtain ⟨i1, i2⟩ := incr_spec h.2 m'
      have hl : ∀ (es : List (AV × AV × Nat)) (d : Nat), incr d es = true → d ≤ lastB d es := by
        intro es
        induction es with
        | nil => intro d _; exact Nat.le_refl _
        | cons e es ih =>
          intro d hd
          obtain ⟨_, _, b⟩ := e
          simp only [incr, Bool.and_eq_true] at hd
          have := ih _ hd.2
          have := Nat.le_of_ble_eq_true hd.1
          simp only [lastB]
          omega
      have := hl es (b + 1) h.2
      refine ⟨?_, fun x hx => ?_⟩
      · rw [List.map_cons, List.nodup_cons]
        refine ⟨fun hm => ?_, i1⟩
        obtain ⟨z, hz, e⟩ := List.mem_map.1 hm
        have := (i2 z hz).1
        omega
      · simp only [lastB]
        rcases List.mem_cons.1 hx with rfl | hx
        · omega
        · have := i2 x hx; omega
theorem memI_eq (x : Int) : ∀ l, memI x l = true ↔ x ∈ l
  | [] => by simp [memI]
  | y :: ys => by simp [memI, eqI_eq, memI_eq x ys]
theorem nodupI_spec : ∀ {l : List Int}, nodupI l = true → l.Nodup
  | [], _ => by simp
  | x :: xs, h => by
    simp only [nodupI, Bool.and_eq_true, Bool.not_eq_true'] at h
    rw [List.nodup_cons]
    refine ⟨fun hm => ?_, nodupI_spec h.2⟩
    rw [(memI_eq x xs).2 hm] at h
    cases h.1
theorem inR_spec : ∀ {l : List Int}, inR l = true → ∀ n ∈ l, (Lit.int .i64 n).wf = true
  | [], _, _, hn => by simp at hn
  | x :: xs, h, n, hn => by
    simp only [inR, Bool.and_eq_true, leI_eq, decide_eq_true_eq] at h
    rcases List.mem_cons.1 hn with rfl | hn
    · simp [Lit.wf, IntKind.min, IntKind.max, IntKind.signed, IntKind.bits]; omega
    · exact inR_spec h.2 n hn
theorem goodM_spec {ρ : Rn} {es : List (AV × AV × Nat)} {ks : List Int} {clock : Nat} (hk : keyI es = some ks) (h : goodM es ks clock = true) {es' : Array MapEntry} (m : MRs ρ es es'.toList) : GoodMap es' clock ks := by
  simp only [goodM, Bool.and_eq_true] at h
  obtain ⟨⟨⟨⟨h1, h2⟩, h3⟩, h4⟩, h5⟩ := h
  obtain ⟨i1, i2⟩ := incr_spec h1 m
  have hkey := keyI_spec hk m
  have := Nat.le_of_ble_eq_true h2
  refine ⟨hkey, fun x hx => by have := (i2 x hx).2; omega, i1, ?_, inR_spec h4, ?_⟩
  · rw [hkey]
    exact List.Pairwise.map _ (fun a b hab e => hab (by cases e; rfl)) (nodupI_spec h3)
  · have := Nat.le_of_ble_eq_true h5
    have e := m.1
    simp at e
    omega

/-- what is known of it -/
def SortedSpec (P : Program) (f kf : FuncId) (t : TypeId) : Prop := ∀ (w : World) (Bm b : Nat) (es : Array MapEntry) (clock : Nat) (E : TypeId) (fz : Nat × Nat) (ks : List Int),
  w.heap[Bm]? = some (.cells #[.map (some b)] E fz) → w.heap[b]? = some (.map es clock) → GoodMap es clock ks →
  Calls P f #[.func (.func kf) #[] #[.pointer (some ⟨Bm, 0, none⟩)]] w fun e w' => ∃ (v : Value) (ss : List Int), e = .returned v ∧ ss.Perm ks ∧ w'.ownsRow w.heap.size t 1 v ss.length ((ss.mergeSort fun x y => decide (x ≤ y)).map (Value.int .i64)) ∧
    (v = .slice none 0 0 ↔ ss = []) ∧ Below w.heap.size w w'
def iSortedK (kf : FuncId) : Intr
  | [.fn f [] [.ptr i 0]], h => bif Nat.beq f kf then (match h.get i with
    | some (.mbox m) => match h.get m with
      | some (.map es clock) => match keyI es with
        | some ks => bif goodM es ks clock then (match isortI ks with
          | [] => some (.sc (.slice none 0 0), h)
          | s :: ss => some (.sl h.sz 0 (s :: ss).length (s :: ss).length false 1, h.alloc (.cells ((s :: ss).map (AV.int .i64)) 0 false))) else none
        | none => none
      | _ => none
    | _ => none) else none
  | _, _ => none

/-- one new object, in a world in which nothing old has turned -/
theorem Sim.belowAlloc {ρ : Rn} {h : Heap} {w w' : World} (m : Match ρ h w) (f : Free ρ h.sz (h.sz + 1)) (bl : Below w.heap.size w w') {g n : Nat} (hg : w.heap.size ≤ g) (hlt : g < w'.heap.size) (x : AObj)
    (ok : ObjOK (upd ρ h.sz (g, 0, n)) w' g 0 n x) : Sim ρ h w (upd ρ h.sz (g, 0, n)) (h.alloc x) w' := by
  have f0 : ρ h.sz = none := f _ (Nat.le_refl _) (Nat.lt_succ_self _)
  have le := upd_le (x := (g, 0, n)) f0
  have inv : ∀ i b o k, upd ρ h.sz (g, 0, n) i = some (b, o, k) → (i = h.sz ∧ b = g) ∨ (i ≠ h.sz ∧ ρ i = some (b, o, k) ∧ b < w.heap.size) := by
    intro i b o k e
    by_cases hi : i = h.sz
    · subst hi; rw [upd_self] at e; cases e; exact .inl ⟨rfl, rfl⟩
    · rw [upd_ne hi] at e; exact .inr ⟨hi, e, m.blk i b o k e⟩
  refine ⟨le, ?_, ?_, ⟨?_, ?_, ?_, ?_⟩, fun b h1 _ => bl.block b h1, bl.size, by simp, ?_, bl.os, bl.tape, bl.output⟩
  · intro i y e e0
    by_cases hi : i = h.sz
    · subst hi; simp
    · rw [upd_ne hi, e0] at e; cases e
  · intro i b o k e e0
    rcases inv i b o k e with ⟨_, h2⟩ | ⟨_, h2, _⟩
    · exact .inl (by omega)
    · rw [e0] at h2; cases h2
  · intro i b o k e y hy
    rw [Heap.get_alloc] at hy
    by_cases hi : i = h.sz
    · subst hi
      rw [upd_self] at e
      simp only [if_true] at hy
      cases e
      cases hy
      exact ok
    · rw [if_neg hi] at hy
      rw [upd_ne hi] at e
      exact ((m.objs i b o k e y hy).mono le).block (bl.block b (m.blk i b o k e))
  · intro i b o k e
    have := bl.size
    rcases inv i b o k e with ⟨_, h2⟩ | ⟨_, _, h2⟩ <;> omega
  · intro i j b o k o' k' hij e e' hw ha
    rcases inv i b o k e with ⟨h1, h2⟩ | ⟨h1, h2, h3⟩ <;> rcases inv j b o' k' e' with ⟨h4, h5⟩ | ⟨h4, h5, h6⟩
    · omega
    · omega
    · omega
    · rw [Heap.get_alloc, if_neg h1] at hw
      rw [Heap.get_alloc, if_neg h4] at ha
      exact m.inj i j b o k o' k' hij h2 h5 hw ha
  · intro i hi
    rw [Heap.get_alloc, if_neg (by simp at hi; omega)]
    exact m.fresh i (by simp at hi; omega)
  · intro i y e hw
    have : i ≠ h.sz := by intro e'; subst e'; rw [f0] at e; cases e
    rwa [Heap.get_alloc, if_neg this] at hw

theorem sorted_sound {P : Program} {f kf : FuncId} {t : TypeId} (hok : CallOK P f) (hc : SortedSpec P f kf t) : SoundI P f (iSortedK kf) := by
  have inv : ∀ args h v h', iSortedK kf args h = some (v, h') → ∃ i m es clock ks, args = [.fn kf [] [.ptr i 0]] ∧ h.get i = some (.mbox m) ∧ h.get m = some (.map es clock) ∧ keyI es = some ks ∧ goodM es ks clock = true ∧
      ((isortI ks = [] ∧ v = .sc (.slice none 0 0) ∧ h' = h) ∨ (isortI ks ≠ [] ∧ v = .sl h.sz 0 (isortI ks).length (isortI ks).length false 1 ∧ h' = h.alloc (.cells ((isortI ks).map (AV.int .i64)) 0 false))) := by
    intro args h v h' e
    unfold iSortedK at e
    split at e
    · rename_i f' i
      cases hb : Nat.beq f' kf with
      | false => rw [hb] at e; cases e
      | true =>
        rw [hb] at e
        simp only [cond_true] at e
        have := ofBeq hb
        subst this
        split at e
        · rename_i m hm
          split at e
          · rename_i es clock hes
            split at e
            · rename_i ks hk
              cases hg : goodM es ks clock with
              | false => rw [hg] at e; cases e
              | true =>
                rw [hg] at e
                simp only [cond_true] at e
                refine ⟨i, m, es, clock, ks, rfl, hm, hes, hk, hg, ?_⟩
                split at e
                · rename_i hs; cases e; exact .inl ⟨hs, rfl, rfl⟩
                · rename_i s ss hs; cases e; rw [hs]; exact .inr ⟨by simp, rfl, rfl⟩
            · cases e
          · cases e
        · cases e
    · cases e
  refine ⟨hok, fun args h v h' e => ?_, fun args h v h' e ρ w args' mt fr ha => ?_⟩
  · obtain ⟨i, m, es, clock, ks, _, _, _, _, _, ⟨_, _, rfl⟩ | ⟨_, _, rfl⟩⟩ := inv args h v h' e
    · exact .refl _
    · exact .alloc _ _
  · obtain ⟨i, m, es, clock, ks, rfl, hm, hes, hk, hg, hr⟩ := inv args h v h' e
    obtain ⟨u, us, e1, r1, r2⟩ := ha
    simp only [VRs] at r2
    subst r2
    simp only [VR] at r1
    obtain ⟨a1, b1, rfl, q1, q2⟩ := r1
    simp only [VRs] at q1
    obtain ⟨u2, us2, e2, ⟨b, o, n, p1, rfl⟩, q3⟩ := q2
    simp only [VRs] at q3
    subst q3
    obtain ⟨⟨bm, nm, E, fz, g1, g2⟩, rfl⟩ := mt.objs i b o n p1 _ hm
    obtain ⟨es', k1, k2⟩ := map_at mt g1 hes
    have hb1 : b1 = #[.pointer (some ⟨b, 0, none⟩)] := by cases b1; simp_all
    have ha1 : a1 = #[] := by cases a1; simp_all
    subst hb1 ha1
    have hargs : args' = #[.func (.func kf) #[] #[.pointer (some ⟨b, 0, none⟩)]] := by cases args'; simp_all
    subst hargs
    refine (hc w b bm es' clock E fz ks g2 k1 (goodM_spec hk hg k2)).mono ?_
    rintro e3 w' ⟨v3, ss, rfl, hp, hrow, hnil, hbel⟩
    have hsort := mergeSort_is hp
    have hlen : ss.length = (isortI ks).length := (hp.trans (isortI_perm ks).symm).length_eq
    rcases hr with ⟨h0, rfl, rfl⟩ | ⟨h0, rfl, rfl⟩
    · have hss : ss = [] := by
        rw [h0] at hlen
        exact List.eq_nil_of_length_eq_zero hlen
      have := hnil.2 hss
      subst this
      exact ⟨_, ρ, rfl, ⟨rfl, rfl⟩, Sim.below mt hbel⟩
    · rcases hrow.2 with ⟨rfl, h1⟩ | ⟨g, cap, cur, rfl, hg1, hg2, c1, c2, c3, c4⟩
      · have := hnil.1 rfl
        subst this
        simp only [List.length_nil] at hlen
        exact (h0 (List.eq_nil_of_length_eq_zero hlen.symm)).elim
      · rw [hsort] at c4
        have c3' : cur.size = cap := by simpa using c3
        refine ⟨_, upd ρ h.sz (g, 0, cap), rfl, ?_, Sim.belowAlloc mt fr hbel hg1 (lt_of_some hg2) _ ⟨cur, t, (0, 0), hg2, c3', ?_, fun _ p _ => ?_, fun k a ha => ?_⟩⟩
        · simp only [VR]
          refine ⟨g, 0, cap, ⟨g, 0, none⟩, cap, upd_self _ _ _, by rw [hlen], Nat.le_refl _, by rw [← hlen]; exact c1, fun e => (by cases e), by omega, .inl rfl⟩
        · simp only [List.length_map]; omega
        · simp
        · rw [List.getElem?_map] at ha
          cases hx : (isortI ks)[k]? with
          | none => rw [hx] at ha; cases ha
          | some x =>
            rw [hx] at ha
            cases ha
            refine ⟨.int .i64 x, ?_, rfl⟩
            have hk := (List.getElem?_eq_some_iff.1 hx).1
            have : (cur.toList.take (ss.length * 1))[k]? = some (.int .i64 x) := by rw [c4, List.getElem?_map, hx]; rfl
            rw [List.getElem?_take_of_lt (by omega)] at this
            simpa using this
end Go.Ab
