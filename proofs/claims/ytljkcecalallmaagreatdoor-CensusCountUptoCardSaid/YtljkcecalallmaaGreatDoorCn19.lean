/- The count of a list of nodes. -/
import Derived.Test.YtljkcecalallmaaGreatDoorAb31
import Derived.Test.YtljkcecalallmaaGreatDoorM19
namespace Go.Ab.S19
open Go Go.Ab

/-- a node, as far as it is counted: number, kind, links, bytes, names -/
abbrev Nd := AV × Int × AV × List UInt8 × AV
def row (n : Nd) : List AV := [n.1, .int .i64 n.2.1, n.2.2.1, .str n.2.2.2.1, n.2.2.2.2]
def rows : List Nd → List AV
  | [] => []
  | n :: l => row n ++ rows l
theorem rows_length : ∀ l, (rows l).length = l.length * 5
  | [] => rfl
  | n :: l => by simp [rows, row, rows_length l]; omega
theorem rows_append : ∀ l m, rows (l ++ m) = rows l ++ rows m
  | [], m => rfl
  | n :: l, m => by simp [rows, rows_append l m]
theorem rows_drop : ∀ (l : List Nd) (j : Nat), (rows l).drop (j * 5) = rows (l.drop j)
  | l, 0 => by simp
  | [], j + 1 => by simp [rows]
  | n :: l, j + 1 => by
    rw [List.drop_succ_cons, ← rows_drop l j]
    have : (j + 1) * 5 = 5 + j * 5 := by omega
    rw [this, ← List.drop_drop]
    simp [rows, row]
/-- what holds the nodes l -/
def Holds (h : Heap) (v : AV) (l : List Nd) : Prop :=
  (v = .sc (.slice none 0 0) ∧ l = []) ∨ ∃ i k cap ex c e ro, v = .sl i k l.length cap ex 5 ∧ h.get i = some (.cells c e ro) ∧ k + l.length * 5 ≤ c.length ∧ (c.drop k).take (l.length * 5) = rows l
theorem Holds.ext {h h' : Heap} {v : AV} {l : List Nd} (x : Ext h h') (k : Holds h v l) : Holds h' v l := by
  rcases k with k | ⟨i, k, cap, ex, c, e, ro, h1, h2, h3⟩
  · exact .inl k
  · exact .inr ⟨i, k, cap, ex, c, e, ro, h1, x.get _ _ h2, h3⟩
theorem holds_at {c : List AV} {k j : Nat} {l : List Nd} (h2 : (c.drop k).take (l.length * 5) = rows l) (hj : j < l.length) :
    (c.drop (k + j * 5)).take 5 = row (l[j]'hj) := by
  have h3 : ((c.drop k).take (l.length * 5)).drop (j * 5) = rows (l.drop j) := by rw [h2, rows_drop]
  rw [List.drop_take, List.drop_drop] at h3
  have h4 : l.drop j = l[j] :: l.drop (j + 1) := by simp
  rw [h4] at h3
  have h5 : ((c.drop (k + j * 5)).take (l.length * 5 - j * 5)).take 5 = (rows (l[j] :: l.drop (j + 1))).take 5 := by rw [h3]
  rw [List.take_take] at h5
  rw [show min 5 (l.length * 5 - j * 5) = 5 by omega] at h5
  rw [h5]
  simp [rows, row]
theorem loadN_at {h : Heap} {i k j : Nat} {c : List AV} {e ro} {l : List Nd} (hg : h.get i = some (.cells c e ro)) (h1 : k + l.length * 5 ≤ c.length) (h2 : (c.drop k).take (l.length * 5) = rows l) (hj : j < l.length) :
    h.loadN i (k + j * 5) 5 = some (row (l[j]'hj)) := by
  unfold Heap.loadN
  rw [hg]
  simp only
  rw [show Nat.ble (k + j * 5 + 5) c.length = true from Nat.ble_eq_true_of_le (by omega), cond_true, holds_at h2 hj]
theorem load1_at {h : Heap} {i k j m : Nat} {c : List AV} {e ro} {l : List Nd} (hg : h.get i = some (.cells c e ro)) (_ : k + l.length * 5 ≤ c.length) (h2 : (c.drop k).take (l.length * 5) = rows l) (hj : j < l.length) (hm : m < 5) :
    h.load1 i (k + j * 5 + m) = (row (l[j]'hj))[m]? := by
  unfold Heap.load1
  rw [hg, ← holds_at h2 hj, List.getElem?_take_of_lt hm, List.getElem?_drop]

def nDir : List Nd → Int
  | [] => 0
  | n :: l => (if n.2.1 = 2 then 1 else 0) + nDir l
def nFile : List Nd → Int
  | [] => 0
  | n :: l => (if n.2.1 = 1 then 1 else 0) + nFile l
def nSize : List Nd → Int
  | [] => 0
  | n :: l => (if n.2.1 = 1 then (n.2.2.2.1.length : Int) else 0) + nSize l
def nAll : List Nd → Nat
  | [] => 0
  | n :: l => n.2.2.2.1.length + nAll l
theorem take_succ {α : Type} {l : List α} {j : Nat} (h : j < l.length) : l.take (j + 1) = l.take j ++ [l[j]] := by simp
theorem nDir_append : ∀ l m, nDir (l ++ m) = nDir l + nDir m
  | [], m => by simp [nDir]
  | n :: l, m => by simp only [List.cons_append, nDir, nDir_append l m]; omega
theorem nFile_append : ∀ l m, nFile (l ++ m) = nFile l + nFile m
  | [], m => by simp [nFile]
  | n :: l, m => by simp only [List.cons_append, nFile, nFile_append l m]; omega
theorem nSize_append : ∀ l m, nSize (l ++ m) = nSize l + nSize m
  | [], m => by simp [nSize]
  | n :: l, m => by simp only [List.cons_append, nSize, nSize_append l m]; omega
theorem nDir_rng : ∀ l, 0 ≤ nDir l ∧ nDir l ≤ l.length
  | [] => by simp [nDir]
  | n :: l => by have := nDir_rng l; simp only [nDir, List.length_cons]; split <;> omega
theorem nFile_rng : ∀ l, 0 ≤ nFile l ∧ nFile l ≤ l.length
  | [] => by simp [nFile]
  | n :: l => by have := nFile_rng l; simp only [nFile, List.length_cons]; split <;> omega
theorem nSize_rng : ∀ l, 0 ≤ nSize l ∧ nSize l ≤ nAll l
  | [] => by simp [nSize, nAll]
  | n :: l => by have := nSize_rng l; simp only [nSize, nAll]; split <;> omega
theorem nAll_append : ∀ l m, nAll (l ++ m) = nAll l + nAll m
  | [], m => by simp [nAll]
  | n :: l, m => by simp only [List.cons_append, nAll, nAll_append l m]; omega
theorem nAll_take (l : List Nd) (j : Nat) : nAll (l.take j) ≤ nAll l := by
  have := nAll_append (l.take j) (l.drop j)
  rw [List.take_append_drop] at this
  omega
theorem bounds (l : List Nd) (j : Nat) (h1 : l.length ≤ 1099511627776) (h2 : nAll l ≤ 1099511627776) :
    0 ≤ nDir (l.take j) ∧ nDir (l.take j) ≤ 1099511627776 ∧ 0 ≤ nFile (l.take j) ∧ nFile (l.take j) ≤ 1099511627776 ∧ 0 ≤ nSize (l.take j) ∧ nSize (l.take j) ≤ 1099511627776 := by
  have a := nDir_rng (l.take j)
  have b := nFile_rng (l.take j)
  have c := nSize_rng (l.take j)
  have d := nAll_take l j
  have e : (l.take j).length ≤ l.length := by simp; omega
  omega
theorem step_eq {l : List Nd} {j : Nat} (hj : j < l.length) : nDir (l.take (j + 1)) = nDir (l.take j) + (if (l[j]).2.1 = 2 then 1 else 0) ∧ nFile (l.take (j + 1)) = nFile (l.take j) + (if (l[j]).2.1 = 1 then 1 else 0) ∧
    nSize (l.take (j + 1)) = nSize (l.take j) + (if (l[j]).2.1 = 1 then ((l[j]).2.2.2.1.length : Int) else 0) := by
  rw [take_succ hj, nDir_append, nFile_append, nSize_append]
  simp [nDir, nFile, nSize]
theorem HF.set {h : Heap} (f : HF h) {i : Nat} {x o : AObj} (e : h.get i = some x) : HF (h.set i o) := (HMono.set e).2 f
theorem Ext.set_new {h0 h : Heap} (e : Ext h0 h) {i : Nat} (hi : h0.sz ≤ i) (f0 : HF h0) {x o : AObj} (hx : h.get i = some x) : Ext h0 (h.set i o) :=
  ⟨e.sz, HF.set e.hf hx, fun j y hy => by
    rw [Heap.get_set, if_neg]
    · exact e.get j y hy
    · have := f0.lt hy; omega⟩
theorem store_new {h : Heap} {e : TypeId} {z vs : List AV} (hl : vs.length = z.length) (ho : vs.all AV.one = true) : (h.alloc (.cells z e false)).storeN h.sz 0 vs = some ((h.alloc (.cells z e false)).set h.sz (.cells vs e false)) := by
  unfold Heap.storeN
  rw [Heap.get_alloc, if_pos rfl]
  simp only
  rw [show Nat.ble (0 + vs.length) z.length = true from Nat.ble_eq_true_of_le (by omega), ho]
  simp [hl]
theorem row_one {n : Nd} (h1 : n.1.one = true) (h2 : n.2.2.1.one = true) (h3 : n.2.2.2.2.one = true) : (row n).all AV.one = true := by
  simp only [row, List.all_cons, List.all_nil, h1, h2, h3, Bool.and_true]
  rfl
def OneAll (l : List Nd) : Prop := ∀ n ∈ l, n.1.one = true ∧ n.2.2.1.one = true ∧ n.2.2.2.2.one = true

variable {T : FuncId → Option Ent}
set_option maxHeartbeats 2000000 in
theorem count_w (hT : T 5 = some (.fn m5)) {h0 : Heap} {v : AV} {l : List Nd} (f0 : HF h0) (hv : Holds h0 v l) (ho : OneAll l) (b1 : l.length ≤ 1099511627776) (b2 : nAll l ≤ 1099511627776) :
    WR T 5 [v] h0 fun r h1 => r = .tup [.int .i64 (nDir l), .int .i64 (nFile l), .int .i64 (nSize l)] ∧ Ext h0 h1 := by
  have hlen : ∀ {E h} {K : AV → Heap → Prop} {x dst}, evE E x = some v → K (.int .i64 l.length) h → XO T ⟨dst, .lenL x, none⟩ E h K := by
    intro E h K x dst hx q
    rcases hv with ⟨rfl, rfl⟩ | ⟨i, k, cap, ex, c, e, ro, rfl, _⟩
    · exact XO.lenL0 hx q
    · exact XO.lenL hx q
  refine XF hT rfl ?_
  refine XC.seq ?_
  refine XC.reg ?_
  refine XS.cons (XO.mv rfl ?_) -- t2 := 0
  refine XS.cons (XO.mv rfl ?_) -- t3 := 0
  refine XS.cons (XO.mv rfl ?_) -- t4 := 0
  refine XS.nil ?_
  refine XC.seq ?_
  refine XC.reg ?_
  refine XS.cons (XO.mv rfl ?_) -- t5 := 0
  refine XS.cons (XO.mv rfl ?_) -- t6 := 0
  refine XS.cons (XO.mv rfl ?_) -- t7 := 0
  refine XS.nil ?_
  refine XC.seq ?_
  refine XC.seq ?_
  refine XC.reg ?_
  refine XS.cons (XO.mv rfl ?_) -- t10 := t0
  refine XS.cons (hlen rfl ?_) -- t11 := lenL t10
  refine XS.cons (XO.mv rfl ?_) -- t12 := 0
  refine XS.nil ?_
  refine XC.block ?_ -- 0
  refine XC.loop (k := l.length) (fun n E h => ∃ j, n + j = l.length ∧ E = [(5, .int .i64 (nDir (l.take j))), (6, .int .i64 (nFile (l.take j))), (7, .int .i64 (nSize (l.take j))), (10, v), (11, .int .i64 l.length), (12, .int .i64 j)] ∧ Ext h0 h)
    ⟨_, Sub.cons rfl (Sub.cons rfl (Sub.cons rfl (Sub.cons rfl (Sub.cons rfl (Sub.cons rfl (Sub.nil _)))))), 0, by omega, rfl, Ext.refl f0⟩ (fun n E h ⟨j, hn, hE, hx⟩ => ?_)
  · subst hE
    have hb := bounds l j b1 b2
    refine XC.seq ?_
    refine XC.reg ?_
    refine XS.cons (XO.lss rfl rfl ?_) -- t13 := t12 .lss t11
    refine XS.nil ?_
    refine XC.seq ?_
    refine XC.condP rfl (fun hc => ?_) (fun hc => ?_) -- if t13
    · have hj : j < l.length := by omega
      obtain ⟨s1, s2, s3⟩ := step_eq hj
      have hb' := bounds l (j + 1) b1 b2
      rcases hv with ⟨_, rfl⟩ | ⟨i, k, cap, ex, c, e, ro, rfl, hg0, hk1, hk2⟩
      · simp at hj
      have hg := hx.get _ _ hg0
      have hone := ho (l[j]) (List.getElem_mem hj)
      refine XC.skip ?_
      refine XC.seq ?_
      refine XC.block ?_ -- 1
      refine XC.seq ?_
      refine XC.reg ?_
      refine XS.cons (XO.iaddrS rfl rfl ⟨by omega, by omega⟩ ?_) -- t14 := iaddrS 5 t10 t12
      refine XS.cons (XO.loadN rfl (loadN_at hg hk1 hk2 hj) ?_) -- t15 := load 5 *t14
      refine XS.cons (XO.alloc ?_) -- t9 := alloc
      refine XS.cons (XO.store rfl rfl rfl (store_new rfl (row_one hone.1 hone.2.1 hone.2.2)) ?_) -- store#5 *t9 := t15
      have hx2 : Ext h0 ((h.alloc (.cells [.int .i64 0, .int .i64 0, .int .i64 0, .str [], .sc (.slice none 0 0)] 28 false)).set h.sz (.cells (row l[j]) 28 false)) :=
        Ext.set_new (hx.trans (Ext.alloc hx.hf _)) hx.sz f0 (by rw [Heap.get_alloc, if_pos rfl])
      have hld : ∀ m, ((h.alloc (.cells [.int .i64 0, .int .i64 0, .int .i64 0, .str [], .sc (.slice none 0 0)] 28 false)).set h.sz (.cells (row l[j]) 28 false)).load1 h.sz m = (row l[j])[m]? := by
        intro m
        unfold Heap.load1
        rw [Heap.get_set, if_pos rfl]
      refine XS.nil ?_
      refine XC.seq ?_
      refine XC.reg ?_
      refine XS.cons (XO.faddr rfl ?_) -- t16 := faddr 1 t9
      refine XS.cons (XO.load rfl ((hld 1).trans rfl) ?_) -- t17 := load  *t16
      refine XS.nil ?_
      refine XC.block ?_ -- 2
      refine XC.seq ?_
      refine XC.reg ?_
      refine XS.cons (XO.eql rfl rfl ?_) -- t19 := t17 .eql 2
      refine XS.cons (XO.mv rfl ?_) -- t18 := t19
      refine XS.nil ?_
      refine XC.condP rfl (fun hc2 => ?_) (fun hc2 => ?_) -- if t18
      ·
        refine XC.reg ?_
        refine XS.cons (XO.mv rfl ?_) -- t20 := t5
        refine XS.cons (XO.add rfl rfl ⟨by omega, by omega⟩ ?_) -- t21 := t20 .add 1
        refine XS.cons (XO.mv rfl ?_) -- t5 := t21
        refine XS.nil ?_
        refine XC.reg ?_
        refine XS.cons (XO.add rfl rfl ⟨by omega, by omega⟩ ?_) -- t31 := t12 .add 1
        refine XS.cons (XO.mv rfl ?_) -- t12 := t31
        refine XS.nil ?_
        refine ⟨n - 1, [(5, _), (6, _), (7, _), (10, _), (11, _), (12, _)], by omega, Sub.cons rfl (Sub.cons rfl (Sub.cons rfl (Sub.cons rfl (Sub.cons rfl (Sub.cons rfl (Sub.nil _)))))), j + 1, by omega, ?_, hx2⟩
        rw [s1, s2, s3, if_pos hc2, if_neg (by omega), if_neg (by omega)]
        simp
      ·
        refine XC.seq ?_
        refine XC.reg ?_
        refine XS.cons (XO.eql rfl rfl ?_) -- t23 := t17 .eql 1
        refine XS.cons (XO.mv rfl ?_) -- t22 := t23
        refine XS.nil ?_
        refine XC.condP rfl (fun hc3 => ?_) (fun hc3 => ?_) -- if t22
        ·
          rw [if_pos hc3] at s2 s3
          refine XC.seq ?_
          refine XC.reg ?_
          refine XS.cons (XO.mv rfl ?_) -- t24 := t6
          refine XS.cons (XO.add rfl rfl ⟨by omega, by omega⟩ ?_) -- t25 := t24 .add 1
          refine XS.cons (XO.mv rfl ?_) -- t6 := t25
          refine XS.nil ?_
          refine XC.reg ?_
          refine XS.cons (XO.mv rfl ?_) -- t26 := t7
          refine XS.cons (XO.faddr rfl ?_) -- t27 := faddr 3 t9
          refine XS.cons (XO.load rfl ((hld 3).trans rfl) ?_) -- t28 := load  *t27
          refine XS.cons (XO.lenS rfl ?_) -- t29 := lenS t28
          refine XS.cons (XO.add rfl rfl ⟨by omega, by omega⟩ ?_) -- t30 := t26 .add t29
          refine XS.cons (XO.mv rfl ?_) -- t7 := t30
          refine XS.nil ?_
          refine XC.reg ?_
          refine XS.cons (XO.add rfl rfl ⟨by omega, by omega⟩ ?_) -- t31 := t12 .add 1
          refine XS.cons (XO.mv rfl ?_) -- t12 := t31
          refine XS.nil ?_
          refine ⟨n - 1, [(5, _), (6, _), (7, _), (10, _), (11, _), (12, _)], by omega, Sub.cons rfl (Sub.cons rfl (Sub.cons rfl (Sub.cons rfl (Sub.cons rfl (Sub.cons rfl (Sub.nil _)))))), j + 1, by omega, ?_, hx2⟩
          rw [s1, s2, s3, if_neg hc2]
          simp
        ·
          refine XC.skip ?_
          refine XC.reg ?_
          refine XS.cons (XO.add rfl rfl ⟨by omega, by omega⟩ ?_) -- t31 := t12 .add 1
          refine XS.cons (XO.mv rfl ?_) -- t12 := t31
          refine XS.nil ?_
          refine ⟨n - 1, [(5, _), (6, _), (7, _), (10, _), (11, _), (12, _)], by omega, Sub.cons rfl (Sub.cons rfl (Sub.cons rfl (Sub.cons rfl (Sub.cons rfl (Sub.cons rfl (Sub.nil _)))))), j + 1, by omega, ?_, hx2⟩
          rw [s1, s2, s3, if_neg hc2, if_neg hc3, if_neg hc3]
          simp
    · have hj : j = l.length := by omega
      refine XC.exit ?_; refine xblk_same ?_ -- exit 0
      refine XC.seq ?_
      refine XC.reg ?_
      refine XS.cons (XO.mv rfl ?_) -- t32 := t5
      refine XS.cons (XO.mv rfl ?_) -- t33 := t6
      refine XS.cons (XO.mv rfl ?_) -- t34 := t7
      refine XS.cons (XO.mv rfl ?_) -- t2 := t32
      refine XS.cons (XO.mv rfl ?_) -- t3 := t33
      refine XS.cons (XO.mv rfl ?_) -- t4 := t34
      refine XS.nil ?_
      refine XC.ret ?_
      refine Fin.mk rfl ?_
      subst hj
      rw [List.take_length]
      exact ⟨rfl, hx⟩
end Go.Ab.S19
