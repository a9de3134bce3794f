/- CensusCount: the run of the law, at every input. -/
import Derived.Test.YtljkcecalallmaaGreatDoorCn19
namespace Go.Ab.S19
open Go Go.Ab

theorem XO.eqlT {T : FuncId → Option Ent} {E : EL} {h : Heap} {K : AV → Heap → Prop} {dst : Option Nat} {ek x y k a b} (hx : evE E x = some (.int k a)) (hy : evE E y = some (.int k b)) (e : a = b) (q : K (.bool true) h) : XO T ⟨dst, .bin .eql ek x y, none⟩ E h K :=
  XO.eql hx hy (by rw [decide_eq_true e]; exact q)
theorem XO.guardT {T : FuncId → Option Ent} {E : EL} {h : Heap} {K : AV → Heap → Prop} {dst : Option Nat} {m : MOp} {t : Nat} {want : Bool} (hg : look E t = some (.bool want)) (w : XO T ⟨dst, m, none⟩ E h K) : XO T ⟨dst, m, some (t, want)⟩ E h K :=
  XO.guard hg (fun _ => w) (fun e => (e rfl).elim)

theorem rows_one : ∀ {l : List Nd}, OneAll l → (rows l).all AV.one = true
  | [], _ => rfl
  | n :: l, h => by
    have h1 := h n (by simp)
    have := rows_one (l := l) (fun x hx => h x (by simp [hx]))
    simp only [rows, List.all_append, row_one h1.1 h1.2.1 h1.2.2, this, Bool.and_self]
theorem src_holds {h : Heap} {v : AV} {l : List Nd} (hv : Holds h v l) : srcA h 5 v = some (rows l, l.length) := by
  rcases hv with ⟨rfl, rfl⟩ | ⟨i, k, cap, ex, c, e, ro, rfl, hg, h1, h2⟩
  · rfl
  · unfold srcA
    simp only [show Nat.beq 5 5 = true from rfl, cond_true]
    unfold Heap.loadN
    rw [hg]
    simp only
    rw [show Nat.ble (k + l.length * 5) c.length = true from Nat.ble_eq_true_of_le h1, cond_true, h2]
/-- a list of the call's own -/
def Own (h0 h : Heap) (v : AV) (l : List Nd) : Prop :=
  (v = .sc (.slice none 0 0) ∧ l = []) ∨ ∃ i e, v = .sl i 0 l.length l.length false 5 ∧ h.get i = some (.cells (rows l) e false) ∧ h0.sz ≤ i
theorem Own.holds {h0 h : Heap} {v : AV} {l : List Nd} (o : Own h0 h v l) : Holds h v l := by
  rcases o with o | ⟨i, e, rfl, hg, _⟩
  · exact .inl o
  · exact .inr ⟨i, 0, _, _, _, e, false, rfl, hg, by rw [rows_length]; omega, by rw [List.drop_zero, ← rows_length, List.take_length]⟩
theorem append_own {h0 h : Heap} {v w : AV} {l m : List Nd} {ty : TypeId} (f0 : HF h0) (x : Ext h0 h) (hv : Own h0 h v l) (hw : Holds h w m) (ho : OneAll m) (hb : (l.length + m.length) * 64 ≤ 4294967296) :
    ∃ u h', appendA h ty 5 64 v w = some (u, h') ∧ Own h0 h' u (l ++ m) ∧ Ext h0 h' := by
  unfold appendA
  rw [src_holds hw]
  simp only
  rcases hv with ⟨rfl, rfl⟩ | ⟨i, e, rfl, hg, hi⟩
  · unfold appendG
    simp only
    cases hm : m.length.beq 0 with
    | true =>
      have : m = [] := List.eq_nil_of_length_eq_zero (ofBeq hm)
      subst this
      exact ⟨_, _, rfl, .inl ⟨rfl, rfl⟩, x⟩
    | false =>
      simp only [cond_false]
      rw [show (Nat.ble (m.length * 64) most && Nat.ble 1 64) = true by
        rw [Bool.and_eq_true]; exact ⟨Nat.ble_eq_true_of_le (by unfold most; simp at hb; omega), rfl⟩, cond_true]
      refine ⟨_, _, rfl, .inr ⟨h.sz, ty, by simp, ?_, x.sz⟩, x.trans (Ext.alloc x.hf _)⟩
      rw [Heap.get_alloc, if_pos rfl, List.nil_append]
  · unfold appendG
    simp only [show Nat.beq 5 5 = true from rfl, cond_true]
    cases hm : (l.length + m.length).ble l.length with
    | true =>
      have : m = [] := List.eq_nil_of_length_eq_zero (by have := Nat.le_of_ble_eq_true hm; omega)
      subst this
      simp only [cond_true]
      have hst : h.storeN i (0 + l.length * 5) (rows []) = some (h.set i (.cells (rows l) e false)) := by
        unfold Heap.storeN
        rw [hg]
        simp only [rows, List.length_nil, List.all_nil, Bool.and_true]
        rw [show Nat.ble (0 + l.length * 5 + 0) (rows l).length = true from Nat.ble_eq_true_of_le (by rw [rows_length]; omega), cond_true]
        simp
      rw [hst]
      refine ⟨_, _, rfl, .inr ⟨i, e, by simp, ?_, hi⟩, Ext.set_new x hi f0 hg⟩
      rw [Heap.get_set, if_pos rfl, List.append_nil]
    | false =>
      simp only [cond_false]
      rw [show (Nat.ble ((l.length + m.length) * 64) most && Nat.ble 1 64) = true by
        rw [Bool.and_eq_true]; exact ⟨Nat.ble_eq_true_of_le (by unfold most; omega), rfl⟩, cond_true]
      have hld : h.loadN i 0 (l.length * 5) = some (rows l) := by
        unfold Heap.loadN
        rw [hg]
        simp only
        rw [show Nat.ble (0 + l.length * 5) (rows l).length = true from Nat.ble_eq_true_of_le (by rw [rows_length]; omega), cond_true, List.drop_zero, ← rows_length, List.take_length]
      rw [hld]
      simp only [hg]
      rw [show (Nat.beq (0 + l.length * 5) (rows l).length && Nat.beq l.length l.length && (rows m).all AV.one) = true by
        rw [Bool.and_eq_true, Bool.and_eq_true]; exact ⟨⟨beqT (by rw [rows_length]; omega), beqT rfl⟩, rows_one ho⟩, cond_true]
      refine ⟨_, _, rfl, .inr ⟨h.sz, ty, by simp, ?_, x.sz⟩, ?_⟩
      · show ((h.set i AObj.dead).alloc _).get h.sz = _
        have : (h.set i AObj.dead).sz = h.sz := rfl
        rw [Heap.get_alloc, this, if_pos rfl, rows_append]
      · exact (Ext.set_new x hi f0 hg).trans (Ext.alloc (HF.set x.hf hg) _)

variable {T : FuncId → Option Ent}
set_option maxHeartbeats 4000000 in
theorem law_w (hL : T 3 = some (.fn m3)) (hT : T 5 = some (.fn m5)) (hl : T 4 = some (.intr (memo isNil (.bool true))))
    {h0 : Heap} {v w : AV} {l m : List Nd} (f0 : HF h0) (hv : Holds h0 v l) (hw : Holds h0 w m) (ol : OneAll l) (om : OneAll m) (bl : l.length ≤ 1048576) (bm : m.length ≤ 1048576) (al : nAll l ≤ 1048576) (am : nAll m ≤ 1048576) :
    WR T 3 [v, w] h0 fun r h1 => r = .bool true ∧ Ext h0 h1 := by
  have hlen : ∀ {E h} {K : AV → Heap → Prop} {x dst}, evE E x = some v → K (.int .i64 l.length) h → XO T ⟨dst, .lenL x, none⟩ E h K := by
    intro E h K x dst hx q
    rcases hv with ⟨rfl, rfl⟩ | ⟨i, k, cap, ex, c, e, ro, rfl, _⟩
    · exact XO.lenL0 hx q
    · exact XO.lenL hx q
  refine XF hL rfl ?_
  refine XC.seq ?_
  refine XC.reg ?_
  refine XS.cons (XO.mv rfl ?_) -- t4 := false
  refine XS.nil ?_
  refine XC.seq ?_
  refine XC.seq ?_
  refine XC.reg ?_
  refine XS.cons (XO.callC rfl (WR.intr hl rfl ?_)) -- t18 := lives()
  refine XS.cons (XO.not rfl ?_) -- t19 := not t18
  refine XS.nil ?_
  refine XC.condF rfl ?_ -- if t19
  refine XC.skip ?_
  refine XC.seq ?_
  refine XC.reg ?_
  refine XS.cons (XO.mv rfl ?_) -- t21 := t0
  refine XS.cons (XO.callC rfl ((count_w hT f0 hv ol (by omega) (by omega)).mono fun r1 h1 ⟨e1, x1⟩ => ?_)) -- t22 := Count(t21)
  subst e1
  refine XS.cons (XO.mv rfl ?_) -- t20 := t22
  refine XS.cons (XO.extract rfl rfl ?_) -- t23 := extract t20 0
  refine XS.cons (XO.extract rfl rfl ?_) -- t24 := extract t20 1
  refine XS.cons (XO.extract rfl rfl ?_) -- t25 := extract t20 2
  refine XS.cons (XO.mv rfl ?_) -- t5 := t23
  refine XS.cons (XO.mv rfl ?_) -- t6 := t24
  refine XS.cons (XO.mv rfl ?_) -- t7 := t25
  refine XS.nil ?_
  refine XC.seq ?_
  refine XC.reg ?_
  refine XS.cons (XO.mv rfl ?_) -- t27 := t1
  refine XS.cons (XO.callC rfl ((count_w hT x1.hf (hw.ext x1) om (by omega) (by omega)).mono fun r2 h2 ⟨e2, x2⟩ => ?_)) -- t28 := Count(t27)
  subst e2
  have x02 := x1.trans x2
  refine XS.cons (XO.mv rfl ?_) -- t26 := t28
  refine XS.cons (XO.extract rfl rfl ?_) -- t29 := extract t26 0
  refine XS.cons (XO.extract rfl rfl ?_) -- t30 := extract t26 1
  refine XS.cons (XO.extract rfl rfl ?_) -- t31 := extract t26 2
  refine XS.cons (XO.mv rfl ?_) -- t8 := t29
  refine XS.cons (XO.mv rfl ?_) -- t9 := t30
  refine XS.cons (XO.mv rfl ?_) -- t10 := t31
  refine XS.nil ?_
  obtain ⟨u1, h3, a1, o1, x03⟩ := append_own (ty := 28) (v := .sc (.slice none 0 0)) (l := []) f0 x02 (.inl ⟨rfl, rfl⟩) (hv.ext x02) ol (by simp; omega)
  obtain ⟨u2, h4, a2, o2, x04⟩ := append_own (ty := 28) f0 x03 o1 (hw.ext x03) om (by simp; omega)
  rw [List.nil_append] at o1 o2
  have olm : OneAll (l ++ m) := fun n hn => by
    rcases List.mem_append.1 hn with h | h
    · exact ol n h
    · exact om n h
  have blm : (l ++ m).length ≤ 1099511627776 := by simp; omega
  have alm : nAll (l ++ m) ≤ 1099511627776 := by rw [nAll_append]; omega
  refine XC.seq ?_
  refine XC.reg ?_
  refine XS.cons (XO.mv rfl ?_) -- t33 := t0
  refine XS.cons (XO.append rfl rfl a1 ?_) -- t34 := append
  refine XS.cons (XO.mv rfl ?_) -- t35 := t1
  refine XS.cons (XO.append rfl rfl a2 ?_) -- t36 := append
  refine XS.cons (XO.callC rfl ((count_w hT x04.hf o2.holds olm blm alm).mono fun r3 h5 ⟨e3, x5⟩ => ?_)) -- t37 := Count(t36)
  subst e3
  have x05 := x04.trans x5
  refine XS.cons (XO.mv rfl ?_) -- t32 := t37
  refine XS.cons (XO.extract rfl rfl ?_) -- t38 := extract t32 0
  refine XS.cons (XO.extract rfl rfl ?_) -- t39 := extract t32 1
  refine XS.cons (XO.extract rfl rfl ?_) -- t40 := extract t32 2
  refine XS.cons (XO.mv rfl ?_) -- t11 := t38
  refine XS.cons (XO.mv rfl ?_) -- t12 := t39
  refine XS.cons (XO.mv rfl ?_) -- t13 := t40
  refine XS.nil ?_
  refine XC.seq ?_
  refine XC.reg ?_
  refine XS.cons (XO.mv rfl ?_) -- t14 := 0
  refine XS.cons (XO.mv rfl ?_) -- t15 := 0
  refine XS.cons (XO.mv rfl ?_) -- t16 := 0
  refine XS.nil ?_
  refine XC.seq ?_
  refine XC.seq ?_
  refine XC.reg ?_
  refine XS.cons (XO.mv rfl ?_) -- t17 := 0
  refine XS.nil ?_
  refine XC.block ?_ -- 0
  refine XC.loop (k := l.length) (fun n E h => ∃ j, n + j = l.length ∧ E = [(0, v), (5, .int .i64 (nDir l)), (6, .int .i64 (nFile l)), (7, .int .i64 (nSize l)), (8, .int .i64 (nDir m)), (9, .int .i64 (nFile m)), (10, .int .i64 (nSize m)),
      (11, .int .i64 (nDir (l ++ m))), (12, .int .i64 (nFile (l ++ m))), (13, .int .i64 (nSize (l ++ m))), (14, .int .i64 (nDir (l.take j))), (15, .int .i64 (nFile (l.take j))), (16, .int .i64 (nSize (l.take j))), (17, .int .i64 j)] ∧ Ext h0 h)
    ⟨[(0, _), (5, _), (6, _), (7, _), (8, _), (9, _), (10, _), (11, _), (12, _), (13, _), (14, _), (15, _), (16, _), (17, _)],
      Sub.cons rfl (Sub.cons rfl (Sub.cons rfl (Sub.cons rfl (Sub.cons rfl (Sub.cons rfl (Sub.cons rfl (Sub.cons rfl (Sub.cons rfl (Sub.cons rfl (Sub.cons rfl (Sub.cons rfl (Sub.cons rfl (Sub.cons rfl (Sub.nil _)))))))))))))), 0, by omega, rfl, x05⟩ (fun n E h ⟨j, hn, hE, hx⟩ => ?_)
  subst hE
  have hb := bounds l j (by omega) (by omega)
  have q1 := nDir_rng l
  have q2 := nDir_rng m
  have q3 := nFile_rng l
  have q4 := nFile_rng m
  have q5 := nSize_rng l
  have q6 := nSize_rng m
  refine XC.seq ?_
  refine XC.seq ?_
  refine XC.reg ?_
  refine XS.cons (XO.mv rfl ?_) -- t41 := t17
  refine XS.cons (XO.mv rfl ?_) -- t42 := t0
  refine XS.cons (hlen rfl ?_) -- t43 := lenL t42
  refine XS.cons (XO.lss rfl rfl ?_) -- t44 := t41 .lss t43
  refine XS.nil ?_
  refine XC.condP rfl (fun hc => ?_) (fun hc => ?_) -- if t44
  ·
    have hj : j < l.length := by omega
    obtain ⟨s1, s2, s3⟩ := step_eq hj
    have hb' := bounds l (j + 1) (by omega) (by omega)
    rcases hv with ⟨_, rfl⟩ | ⟨i, k, cap, ex, c, e, ro, rfl, hg0, hk1, hk2⟩
    · simp at hj
    have hg := hx.get _ _ hg0
    have ld : ∀ q, q < 5 → h.load1 i (k + (j : Int).toNat * 5 + q) = (row (l[j]'hj))[q]? := fun q hq => load1_at hg hk1 hk2 hj hq
    refine XC.skip ?_
    refine XC.seq ?_
    refine XC.block ?_ -- 1
    refine XC.seq ?_
    refine XC.seq ?_
    refine XC.reg ?_
    refine XS.cons (XO.mv rfl ?_) -- t47 := t0
    refine XS.cons (XO.mv rfl ?_) -- t48 := t17
    refine XS.cons (XO.iaddrS rfl rfl ⟨by omega, by omega⟩ ?_) -- t49 := iaddrS 5 t47 t48
    refine XS.cons (XO.faddr rfl ?_) -- t50 := faddr 1 t49
    refine XS.cons (XO.load rfl ((ld 1 (by omega)).trans rfl) ?_) -- t51 := load  *t50
    refine XS.cons (XO.eql rfl rfl ?_) -- t52 := t51 .eql 2
    refine XS.nil ?_
    refine XC.condP rfl (fun hc2 => ?_) (fun hc2 => ?_) -- if t52
    ·
      refine XC.reg ?_
      refine XS.cons (XO.mv rfl ?_) -- t53 := t14
      refine XS.cons (XO.add rfl rfl ⟨by omega, by omega⟩ ?_) -- t54 := t53 .add 1
      refine XS.cons (XO.mv rfl ?_) -- t14 := t54
      refine XS.nil ?_
      refine XC.seq ?_
      refine XC.reg ?_
      refine XS.cons (XO.mv rfl ?_) -- t55 := t0
      refine XS.cons (XO.mv rfl ?_) -- t56 := t17
      refine XS.cons (XO.iaddrS rfl rfl ⟨by omega, by omega⟩ ?_) -- t57 := iaddrS 5 t55 t56
      refine XS.cons (XO.faddr rfl ?_) -- t58 := faddr 1 t57
      refine XS.cons (XO.load rfl ((ld 1 (by omega)).trans rfl) ?_) -- t59 := load  *t58
      refine XS.cons (XO.eql rfl rfl ?_) -- t60 := t59 .eql 1
      refine XS.nil ?_
      refine XC.condP rfl (fun hc3 => ?_) (fun hc3 => ?_) -- if t60
      ·
        exact absurd (hc2.symm.trans hc3) (by decide)
      ·
        refine XC.skip ?_
        refine XC.reg ?_
        refine XS.cons (XO.mv rfl ?_) -- t45 := t17
        refine XS.cons (XO.add rfl rfl ⟨by omega, by omega⟩ ?_) -- t46 := t45 .add 1
        refine XS.cons (XO.mv rfl ?_) -- t17 := t46
        refine XS.nil ?_
        refine ⟨n - 1, [(0, _), (5, _), (6, _), (7, _), (8, _), (9, _), (10, _), (11, _), (12, _), (13, _), (14, _), (15, _), (16, _), (17, _)], by omega, Sub.cons rfl (Sub.cons rfl (Sub.cons rfl (Sub.cons rfl (Sub.cons rfl (Sub.cons rfl (Sub.cons rfl (Sub.cons rfl (Sub.cons rfl (Sub.cons rfl (Sub.cons rfl (Sub.cons rfl (Sub.cons rfl (Sub.cons rfl (Sub.nil _)))))))))))))), j + 1, by omega, ?_, hx⟩
        rw [s1, s2, s3, if_neg hc3, if_neg hc3, if_pos hc2]
        simp
    ·
      refine XC.skip ?_
      refine XC.seq ?_
      refine XC.reg ?_
      refine XS.cons (XO.mv rfl ?_) -- t55 := t0
      refine XS.cons (XO.mv rfl ?_) -- t56 := t17
      refine XS.cons (XO.iaddrS rfl rfl ⟨by omega, by omega⟩ ?_) -- t57 := iaddrS 5 t55 t56
      refine XS.cons (XO.faddr rfl ?_) -- t58 := faddr 1 t57
      refine XS.cons (XO.load rfl ((ld 1 (by omega)).trans rfl) ?_) -- t59 := load  *t58
      refine XS.cons (XO.eql rfl rfl ?_) -- t60 := t59 .eql 1
      refine XS.nil ?_
      refine XC.condP rfl (fun hc3 => ?_) (fun hc3 => ?_) -- if t60
      ·
        rw [if_pos hc3] at s2 s3
        refine XC.seq ?_
        refine XC.reg ?_
        refine XS.cons (XO.mv rfl ?_) -- t61 := t15
        refine XS.cons (XO.add rfl rfl ⟨by omega, by omega⟩ ?_) -- t62 := t61 .add 1
        refine XS.cons (XO.mv rfl ?_) -- t15 := t62
        refine XS.nil ?_
        refine XC.reg ?_
        refine XS.cons (XO.mv rfl ?_) -- t63 := t16
        refine XS.cons (XO.mv rfl ?_) -- t64 := t0
        refine XS.cons (XO.mv rfl ?_) -- t65 := t17
        refine XS.cons (XO.iaddrS rfl rfl ⟨by omega, by omega⟩ ?_) -- t66 := iaddrS 5 t64 t65
        refine XS.cons (XO.faddr rfl ?_) -- t67 := faddr 3 t66
        refine XS.cons (XO.load rfl ((ld 3 (by omega)).trans rfl) ?_) -- t68 := load  *t67
        refine XS.cons (XO.lenS rfl ?_) -- t69 := lenS t68
        refine XS.cons (XO.add rfl rfl ⟨by omega, by omega⟩ ?_) -- t70 := t63 .add t69
        refine XS.cons (XO.mv rfl ?_) -- t16 := t70
        refine XS.nil ?_
        refine XC.reg ?_
        refine XS.cons (XO.mv rfl ?_) -- t45 := t17
        refine XS.cons (XO.add rfl rfl ⟨by omega, by omega⟩ ?_) -- t46 := t45 .add 1
        refine XS.cons (XO.mv rfl ?_) -- t17 := t46
        refine XS.nil ?_
        refine ⟨n - 1, [(0, _), (5, _), (6, _), (7, _), (8, _), (9, _), (10, _), (11, _), (12, _), (13, _), (14, _), (15, _), (16, _), (17, _)], by omega, Sub.cons rfl (Sub.cons rfl (Sub.cons rfl (Sub.cons rfl (Sub.cons rfl (Sub.cons rfl (Sub.cons rfl (Sub.cons rfl (Sub.cons rfl (Sub.cons rfl (Sub.cons rfl (Sub.cons rfl (Sub.cons rfl (Sub.cons rfl (Sub.nil _)))))))))))))), j + 1, by omega, ?_, hx⟩
        rw [s1, s2, s3, if_neg hc2]
        simp
      ·
        refine XC.skip ?_
        refine XC.reg ?_
        refine XS.cons (XO.mv rfl ?_) -- t45 := t17
        refine XS.cons (XO.add rfl rfl ⟨by omega, by omega⟩ ?_) -- t46 := t45 .add 1
        refine XS.cons (XO.mv rfl ?_) -- t17 := t46
        refine XS.nil ?_
        refine ⟨n - 1, [(0, _), (5, _), (6, _), (7, _), (8, _), (9, _), (10, _), (11, _), (12, _), (13, _), (14, _), (15, _), (16, _), (17, _)], by omega, Sub.cons rfl (Sub.cons rfl (Sub.cons rfl (Sub.cons rfl (Sub.cons rfl (Sub.cons rfl (Sub.cons rfl (Sub.cons rfl (Sub.cons rfl (Sub.cons rfl (Sub.cons rfl (Sub.cons rfl (Sub.cons rfl (Sub.cons rfl (Sub.nil _)))))))))))))), j + 1, by omega, ?_, hx⟩
        rw [s1, s2, s3, if_neg hc3, if_neg hc3, if_neg hc2]
        simp
  ·
    have hj : j = l.length := by omega
    subst hj
    rw [List.take_length]
    refine XC.exit ?_; refine xblk_same ?_ -- exit 0
    refine XC.seq ?_
    refine XC.reg ?_
    refine XS.cons (XO.mv rfl ?_) -- t71 := t5
    refine XS.cons (XO.mv rfl ?_) -- t72 := t14
    refine XS.cons (XO.eqlT rfl rfl rfl ?_) -- t73 := t71 .eql t72
    refine XS.cons (XO.mv rfl ?_) -- t74 := t73
    refine XS.cons (XO.guardT rfl (XO.mv rfl ?_)) -- t75
    refine XS.cons (XO.guardT rfl (XO.mv rfl ?_)) -- t76
    refine XS.cons (XO.guardT rfl (XO.eqlT rfl rfl rfl ?_)) -- t77
    refine XS.cons (XO.pickT rfl rfl ?_) -- t78 := if t74 then t77 else false
    refine XS.cons (XO.mv rfl ?_) -- t79 := t78
    refine XS.cons (XO.guardT rfl (XO.mv rfl ?_)) -- t80
    refine XS.cons (XO.guardT rfl (XO.mv rfl ?_)) -- t81
    refine XS.cons (XO.guardT rfl (XO.eqlT rfl rfl rfl ?_)) -- t82
    refine XS.cons (XO.pickT rfl rfl ?_) -- t83 := if t79 then t82 else false
    refine XS.cons (XO.mv rfl ?_) -- t84 := t83
    refine XS.cons (XO.guardT rfl (XO.mv rfl ?_)) -- t85
    refine XS.cons (XO.guardT rfl (XO.mv rfl ?_)) -- t86
    refine XS.cons (XO.guardT rfl (XO.mv rfl ?_)) -- t87
    refine XS.cons (XO.guardT rfl (XO.add rfl rfl ⟨by omega, by omega⟩ ?_)) -- t88
    refine XS.cons (XO.guardT rfl (XO.eqlT rfl rfl (nDir_append l m) ?_)) -- t89
    refine XS.cons (XO.pickT rfl rfl ?_) -- t90 := if t84 then t89 else false
    refine XS.cons (XO.mv rfl ?_) -- t91 := t90
    refine XS.cons (XO.guardT rfl (XO.mv rfl ?_)) -- t92
    refine XS.cons (XO.guardT rfl (XO.mv rfl ?_)) -- t93
    refine XS.cons (XO.guardT rfl (XO.mv rfl ?_)) -- t94
    refine XS.cons (XO.guardT rfl (XO.add rfl rfl ⟨by omega, by omega⟩ ?_)) -- t95
    refine XS.cons (XO.guardT rfl (XO.eqlT rfl rfl (nFile_append l m) ?_)) -- t96
    refine XS.cons (XO.pickT rfl rfl ?_) -- t97 := if t91 then t96 else false
    refine XS.cons (XO.mv rfl ?_) -- t98 := t97
    refine XS.cons (XO.guardT rfl (XO.mv rfl ?_)) -- t99
    refine XS.cons (XO.guardT rfl (XO.mv rfl ?_)) -- t100
    refine XS.cons (XO.guardT rfl (XO.mv rfl ?_)) -- t101
    refine XS.cons (XO.guardT rfl (XO.add rfl rfl ⟨by omega, by omega⟩ ?_)) -- t102
    refine XS.cons (XO.guardT rfl (XO.eqlT rfl rfl (nSize_append l m) ?_)) -- t103
    refine XS.cons (XO.pickT rfl rfl ?_) -- t104 := if t98 then t103 else false
    refine XS.cons (XO.mv rfl ?_) -- t4 := t104
    refine XS.nil ?_
    refine XC.ret ?_
    refine Fin.mk rfl ?_
    exact ⟨rfl, hx⟩
end Go.Ab.S19
