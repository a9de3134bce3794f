/- CensusCount: from the arguments' reading to the run's heap. -/
import Derived.Test.YtljkcecalallmaaGreatDoorAb33
import Derived.Test.YtljkcecalallmaaGreatDoorL19
import Derived.Test.YtljkcecalallmaaGreatDoorV19
import Derived.Test.YtljkcecalallmaaGreatDoorCards
namespace Go.Ab.S19
open Go Go.Ab Go.Proofs Go.RowKit Go.ChangeShapes Go.Proofs.YtljkcecalallmaaGreatDoor

noncomputable def T2 : FuncId → Option Ent := tabK (trOf prog) [(4, memo isNil (.bool true))]
theorem T2_sound : SoundT Tryz.prog T2 := tabK_sound good fun x hx => by
  rcases List.mem_cons.1 hx with rfl | hx
  · exact sLives
  · simp at hx
theorem T2_3 : T2 3 = some (.fn m3) := tabK_fn (by kernel_rfl) (by kernel_rfl)
theorem T2_5 : T2 5 = some (.fn m5) := tabK_fn (by kernel_rfl) (by kernel_rfl)
theorem T2_4 : T2 4 = some (.intr (memo isNil (.bool true))) := tabK_intr (by kernel_rfl)

section
variable {H : Type} {enc : TypeId × Value → H} {W : World} {base : Nat} {sp : Nat → Bool} {held : Bool} {P : Program}
theorem trod_int {fuel : Nat} {t : TypeId} {k : IntKind} (ht : P.underlying t = some (.int k)) {x : Value} {y : DataW H × List MemPlace} (h : DataW.trod enc P W base sp held fuel t [x] = some y) : ∃ n, x = .int k n ∧ y.1 = .lit (.int k n) := by
  cases fuel with
  | zero => cases h
  | succ fuel =>
    cases x <;> simp only [DataW.trod, ht] at h <;> try cases h
    split at h
    · rename_i hk; cases h; rw [hk.1]; exact ⟨_, rfl, rfl⟩
    · cases h
theorem trod_str {fuel : Nat} {t : TypeId} (ht : P.underlying t = some .string) {x : Value} {y : DataW H × List MemPlace} (h : DataW.trod enc P W base sp held fuel t [x] = some y) : ∃ s, x = .string s ∧ y.1 = .lit (.string s.data.toList) := by
  cases fuel with
  | zero => cases h
  | succ fuel =>
    cases x <;> simp only [DataW.trod, ht] at h <;> try cases h
    split at h
    · cases h; exact ⟨_, rfl, rfl⟩
    · cases h
theorem trod_sl {fuel : Nat} {t e : TypeId} (ht : P.underlying t = some (.slice e)) {x : Value} {y : DataW H × List MemPlace} (h : DataW.trod enc P W base sp held fuel t [x] = some y) : x.oneCell' = true := by
  cases fuel with
  | zero => cases h
  | succ fuel => cases x <;> simp only [DataW.trod, ht] at h <;> first | rfl | cases h
end

/-- a node's cells are as they read -/
def NodeAt (cs : List Value) (n : Nd) : Prop := VRs (fun _ => none) (row n) cs ∧ n.1.cl = true ∧ n.2.2.1.cl = true ∧ n.2.2.2.2.cl = true ∧ n.1.one = true ∧ n.2.2.1.one = true ∧ n.2.2.2.2.one = true
set_option maxRecDepth 100000 in
theorem node_open {H : Type} {enc : TypeId × Value → H} {W : World} {base : Nat} {sp : Nat → Bool} {held : Bool} {fuel : Nat} {cs : List Value} {y : DataW H × List MemPlace} (h : DataW.trod enc Tryz.prog W base sp held fuel 28 cs = some y) :
    ∃ n, NodeAt cs n ∧ n.2.2.2.1.length + 1 ≤ Rows.uptoBulk y.1 := by
  cases fuel with
  | zero => cases h
  | succ fuel =>
    have hc : Tryz.prog.cellsOf 28 = 5 := by kernel_rfl
    have c3 : Tryz.prog.cellsOf 3 = 1 := by kernel_rfl
    have c9 : Tryz.prog.cellsOf 9 = 1 := by kernel_rfl
    have c26 : Tryz.prog.cellsOf 26 = 1 := by kernel_rfl
    simp only [DataW.trod, Tryz.underlying28, hc] at h
    split at h
    · rename_i hlen
      match cs, hlen with
      | [a, b, c, d, e], _ =>
        simp only [Option.map_eq_some_iff] at h
        obtain ⟨xs, hxs, rfl⟩ := h
        simp only [List.mapM_cons, List.mapM_nil, c3, c9, c26, List.drop_zero, List.drop_succ_cons, List.take_succ_cons, List.take_zero, Option.bind_eq_bind, Option.bind_eq_some_iff, Option.pure_def, Option.some.injEq] at hxs
        obtain ⟨x0, h0, _, ⟨x1, h1, _, ⟨x2, h2, _, ⟨x3, h3, _, ⟨x4, h4, _, rfl, rfl⟩, rfl⟩, rfl⟩, rfl⟩, rfl⟩ := hxs
        obtain ⟨n0, rfl, e0⟩ := trod_int Tryz.underlying3 h0
        obtain ⟨n1, rfl, e1⟩ := trod_int Tryz.underlying3 h1
        obtain ⟨n2, rfl, e2⟩ := trod_int Tryz.underlying3 h2
        obtain ⟨s, rfl, e3⟩ := trod_str Tryz.underlying9 h3
        have o4 := trod_sl Tryz.underlying26 h4
        refine ⟨(.int .i64 n0, n1, .int .i64 n2, s.data.toList, .sc e), ⟨?_, rfl, rfl, rfl, rfl, rfl, o4⟩, ?_⟩
        · exact VRs.cons rfl (VRs.cons rfl (VRs.cons rfl (VRs.cons (by simp [VR]) (VRs.cons ⟨rfl, o4⟩ VRs.nil))))
        · simp only [List.map_cons, List.map_nil, Rows.uptoBulk, Rows.uptoBulkAll, e3]
          omega
    · cases h
end Go.Ab.S19
namespace Go.Ab.S19
open Go Go.Ab Go.Proofs Go.RowKit Go.ChangeShapes Go.Proofs.YtljkcecalallmaaGreatDoor
theorem addr_add (b o k : Nat) : (⟨b, o, none⟩ : Addr).add k = ⟨b, o + k, none⟩ := by
  unfold Addr.add
  split
  · rename_i h; subst h; rfl
  · rfl
theorem rows_get : ∀ (l : List Nd) (k : Nat) (a : AV), (rows l)[k]? = some a → ∃ n, l[k / 5]? = some n ∧ (row n)[k % 5]? = some a
  | [], k, a, h => by simp [rows] at h
  | n :: l, k, a, h => by
    rw [rows] at h
    by_cases hk : k < 5
    · rw [List.getElem?_append_left (by simpa [row] using hk)] at h
      refine ⟨n, ?_, ?_⟩
      · rw [show k / 5 = 0 by omega]; rfl
      · rw [show k % 5 = k by omega]; exact h
    · rw [List.getElem?_append_right (by simp [row]; omega)] at h
      obtain ⟨n', h1, h2⟩ := rows_get l (k - (row n).length) a h
      have hl : (row n).length = 5 := rfl
      rw [hl] at h1 h2
      refine ⟨n', ?_, ?_⟩
      · rw [show k / 5 = (k - 5) / 5 + 1 by omega]; simpa using h1
      · rw [show k % 5 = (k - 5) % 5 by omega]; exact h2
theorem nAll_map (N : Nat → Nd) : ∀ (len : Nat) (D : Nat → Nat), (∀ i, i < len → (N i).2.2.2.1.length + 1 ≤ D i) → nAll ((List.range len).map N) + len ≤ ((List.range len).map D).sum
  | 0, _, _ => by simp [nAll]
  | len + 1, D, h => by
    have := nAll_map N len D fun i hi => h i (by omega)
    have h1 := h len (by omega)
    rw [List.range_succ, List.map_append, List.map_append, nAll_append, List.sum_append]
    simp only [List.map_cons, List.map_nil, nAll, List.sum_cons, List.sum_nil]
    omega
theorem bulkAll_sum {H : Type} : ∀ l : List (DataW H), Rows.uptoBulkAll l = (l.map Rows.uptoBulk).sum
  | [] => rfl
  | d :: l => by simp [Rows.uptoBulkAll, bulkAll_sum l]

set_option maxRecDepth 100000 in
theorem arg_open {H : Type} {enc : TypeId × Value → H} {W : World} {b0 : Nat} {v : Value} {d : DataW H} {p : List MemPlace} (id : Nat) (hval : Value.okWide Tryz.prog W .any b0 22 v) (h : DataW.Trod enc Tryz.prog W 0 (fun _ => true) true 22 v d p) :
    ∃ (x : AObj) (r : Option (Nat × Nat × Nat)) (av : AV) (l : List Nd), (∀ k o n, r = some (k, o, n) → k < W.heap.size ∧ ∀ ρ, ObjOK ρ W k o n x) ∧ ¬ Wr (some x) ∧ OneAll l ∧ (∀ ρ : Rn, ρ id = r → VR ρ av v) ∧ (∀ h : Heap, h.get id = some x → Holds h av l) ∧
      l.length ≤ Rows.uptoBulk d ∧ nAll l ≤ Rows.uptoBulk d := by
  have hc : Tryz.prog.cellsOf 28 = 5 := by kernel_rfl
  have hu : Tryz.prog.underlying 22 = some (.slice 28) := by kernel_rfl
  unfold Value.okWide at hval
  simp only [hu] at hval
  obtain ⟨fuel, h⟩ := h
  have hnil : ∃ (x : AObj) (r : Option (Nat × Nat × Nat)) (av : AV) (l : List Nd), (∀ k o n, r = some (k, o, n) → k < W.heap.size ∧ ∀ ρ, ObjOK ρ W k o n x) ∧ ¬ Wr (some x) ∧ OneAll l ∧ (∀ ρ : Rn, ρ id = r → VR ρ av (.slice none 0 0)) ∧ (∀ h : Heap, h.get id = some x → Holds h av l) ∧
      l.length ≤ Rows.uptoBulk d ∧ nAll l ≤ Rows.uptoBulk d :=
    ⟨.dead, none, .sc (.slice none 0 0), [], (fun _ _ _ e => by cases e), (fun hw => hw), (fun _ hn => by simp at hn), (fun _ _ => ⟨rfl, rfl⟩), (fun _ _ => .inl ⟨rfl, rfl⟩), Nat.zero_le _, Nat.zero_le _⟩
  cases v <;> simp only [Cell.okWide, Cell.ok, hu] at hval
  case slice a len cap =>
    cases a with
    | none =>
      rcases Go.Deep.open_slice hu h with ⟨e, _⟩ | ⟨a, len', cap', m, n, D, Pl, e, _⟩
      · have e' : Value.slice none len cap = .slice none 0 0 := by simpa [Value.cells] using e
        rw [e']; exact hnil
      · have e' : Value.slice none len cap = .slice (some a) len' cap' := by simp [Value.cells] at e
        cases e'
    | some a =>
      rcases Go.Deep.open_slice hu h with ⟨e, _⟩ | ⟨a', len', cap', m, n, D, Pl, e, _, hlc, hcm, hm, hd, hx⟩
      · have e' : Value.slice (some a) len cap = .slice none 0 0 := by simp [Value.cells] at e
        cases e'
      · have e' : Value.slice (some a) len cap = .slice (some a') len' cap' := by simpa [Value.cells] using e
        cases e'
        obtain ⟨_, _, _, hspot, row0, cells0, hshape, _⟩ := hval
        obtain ⟨b, off, spot⟩ := a
        simp only at hspot
        subst hspot
        simp only [if_true] at hm
        subst hm
        have hheap : ∃ C E fz, W.heap[b]? = some (.cells C E fz) := by
          unfold World.shape? at hshape
          split at hshape
          · rename_i C E fz hb; exact ⟨C, E, fz, hb⟩
          · cases hshape
        obtain ⟨C, E, fz, hb⟩ := hheap
        have hcell : ∀ i, i < m → ∃ cs' : List Value, cs'.length = 5 ∧ (∀ j, j < 5 → C[off + i * 5 + j]? = cs'[j]?) ∧ DataW.trod enc Tryz.prog W 0 (fun _ => true) true n 28 cs' = some (D i, Pl i) := by
          intro i hi
          obtain ⟨cs', h1, h2⟩ := hx i hi
          rw [hc, addr_add] at h1
          obtain ⟨_, hl, hg⟩ := World.cells?_some h1
          refine ⟨cs', hl, fun j hj => ?_, h2⟩
          have := hg j hj
          rw [addr_add] at this
          simpa [World.cell?, hb] using this
        obtain ⟨N, hN⟩ := Go.Deep.choose_lt (α := Nd) (n := m) (p := fun i nd => (nd.2.2.2.1.length + 1 ≤ Rows.uptoBulk (D i)) ∧ ∀ j, j < 5 → ∃ a v, (row nd)[j]? = some a ∧ C[off + i * 5 + j]? = some v ∧ VR (fun _ => none) a v ∧ a.cl = true ∧ a.one = true) (fun i hi => by
          obtain ⟨cs', hl, hg, ht⟩ := hcell i hi
          obtain ⟨nd, ⟨q1, q2, q3, q4, q5, q6, q7⟩, hbk⟩ := node_open ht
          refine ⟨nd, hbk, fun j hj => ?_⟩
          have hj' : j < (row nd).length := hj
          obtain ⟨v, hv, hr⟩ := q1.get (List.getElem?_eq_getElem hj')
          refine ⟨_, v, List.getElem?_eq_getElem hj', by rw [hg j hj, hv], hr, ?_⟩
          match j, hj with
          | 0, _ => exact ⟨q2, q5⟩
          | 1, _ => exact ⟨rfl, rfl⟩
          | 2, _ => exact ⟨q3, q6⟩
          | 3, _ => exact ⟨rfl, rfl⟩
          | 4, _ => exact ⟨q4, q7⟩)
        have hsize : 0 < m → off + m * 5 ≤ C.size := by
          intro h0
          obtain ⟨_, hq⟩ := hN (m - 1) (by omega)
          obtain ⟨_, v, _, hv, _⟩ := hq 4 (by omega)
          have := (Array.getElem?_eq_some_iff.1 hv).1
          omega
        have hblt : b < W.heap.size := lt_of_some hb
        have hone : OneAll ((List.range len).map N) := by
          intro nd hn
          obtain ⟨i, hi, rfl⟩ := List.mem_map.1 hn
          have hi' : i < m := by have := List.mem_range.1 hi; omega
          obtain ⟨_, hq⟩ := hN i hi'
          obtain ⟨a0, _, e0, _, _, _, o0⟩ := hq 0 (by omega)
          obtain ⟨a2, _, e2, _, _, _, o2⟩ := hq 2 (by omega)
          obtain ⟨a4, _, e4, _, _, _, o4⟩ := hq 4 (by omega)
          cases e0; cases e2; cases e4
          exact ⟨o0, o2, o4⟩
        have hbulk : nAll ((List.range len).map N) + len ≤ Rows.uptoBulk d := by
          have h1 := nAll_map N len (fun i => Rows.uptoBulk (D i)) fun i hi => (hN i (by omega)).1
          have hd1 : d = .slice ((List.range len).map D) ((List.range (m - len)).map fun j => D (len + j)) := (Prod.ext_iff.1 hd).1
          rw [hd1]
          simp only [Rows.uptoBulk, bulkAll_sum, List.map_map]
          have : ((List.range len).map (Rows.uptoBulk ∘ D)).sum = ((List.range len).map fun i => Rows.uptoBulk (D i)).sum := rfl
          omega
        refine ⟨.cells (rows ((List.range len).map N)) 28 true, some (b, (if m = 0 then 0 else off), C.size), .sl id 0 len m true 5, (List.range len).map N, ?_, (fun hw => hw), hone, ?_, ?_, by simp; omega, by omega⟩
        · rintro k o q e
          cases e
          refine ⟨hblt, fun ρ => ⟨C, E, fz, hb, rfl, ?_, (fun e => by cases e), fun k a ha => ?_⟩⟩
          · rw [rows_length]
            simp only [List.length_map, List.length_range]
            by_cases h0 : m = 0
            · rw [if_pos h0]; omega
            · rw [if_neg h0]; have := hsize (by omega); omega
          · obtain ⟨nd, hnd, hr⟩ := rows_get _ k a ha
            rw [List.getElem?_map] at hnd
            simp only [Option.map_eq_some_iff] at hnd
            obtain ⟨i, hi, rfl⟩ := hnd
            have hi2 := List.getElem?_eq_some_iff.1 hi
            obtain ⟨hi3, hi4⟩ := hi2
            simp only [List.length_range] at hi3
            simp only [List.getElem_range] at hi4
            subst hi4
            obtain ⟨_, hq⟩ := hN (k / 5) (by omega)
            obtain ⟨a', v, e1, e2, e3, e4, _⟩ := hq (k % 5) (by omega)
            rw [hr] at e1
            cases e1
            rw [if_neg (by omega)]
            refine ⟨v, ?_, VR.closed e4 e3⟩
            rw [← e2]
            congr 1
            omega
        · intro ρ hρ
          simp only [VR]
          refine ⟨b, _, _, ⟨b, off, none⟩, m, hρ, rfl, hlc, Nat.le_refl _, fun _ => rfl, ?_, ?_⟩
          · by_cases h0 : m = 0
            · rw [if_pos h0, h0]; omega
            · rw [if_neg h0]; have := hsize (by omega); omega
          · by_cases h0 : m = 0
            · exact .inr h0
            · rw [if_neg h0]; exact .inl rfl
        · intro h hg
          refine .inr ⟨id, 0, m, true, _, 28, true, by simp, hg, by rw [rows_length]; omega, ?_⟩
          rw [List.drop_zero, ← rows_length, List.take_length]
end Go.Ab.S19
