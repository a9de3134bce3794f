/- All operations together. -/
import Derived.Test.YtljkcecalallmaaGreatDoorAb10b
namespace Go.Ab
open Go
section
variable {P : Program} {nt : Nat}

theorem s_bad (op : Op) : OpS P nt op .bad := by
  intro env h v h' ρ a w hm
  simp [opA] at hm
theorem s_callv (op : Op) (f : Opd) (xs : List Opd) : OpS P nt op (.call f xs) := by
  intro env h v h' ρ a w hm
  simp [opA] at hm

theorem compB_sound {b : Builtin} {as : Array TypeId} {args : Array Operand} {ys : List Opd} (hy : copds nt args.toList = some ys) {m : MOp} (h : compB P b as.toList ys = some m) :
    OpS P nt (.call { callee := .builtin b, args, argTypes := as }) m := by
  unfold compB at h
  split at h
  · rename_i t ts y ys' ha
    split at h
    · rename_i hu; cases h; exact b_lenS ha hy hu
    · rename_i hu; cases h; exact b_lenL ha hy hu
    · rename_i hu; cases h; exact b_lenM ha hy hu
    · rename_i hu; cases h; exact b_lenA ha hy hu
    · cases h
  · rename_i t ts y ys' ha
    split at h
    · rename_i hu; cases h; exact b_cap ha hy hu
    · cases h
  · cases h; exact b_min hy
  · cases h; exact b_max hy
  · rename_i s t ts x y ys' ha
    split at h
    · rename_i e d hu ht
      simp only [Option.bind_eq_bind, Option.bind_eq_some_iff] at h
      obtain ⟨i, hi, z, hz, h⟩ := h
      cases hb : (z.cells.length.beq i.size && Nat.blt 0 i.size) with
      | false => rw [hb] at h; cases h
      | true =>
        rw [hb] at h
        simp only [cond_true] at h
        rw [Bool.and_eq_true] at hb
        split at h
        · cases h
          exact b_appendZ ha hy hu ht hi hz (ofBeq hb.1) (Nat.le_of_ble_eq_true hb.2)
        · rename_i hd
          cases h
          exact b_append ha hy hu ht (by cases d <;> first | rfl | exact (hd _ rfl).elim) hi hz (ofBeq hb.1)
    · cases h
  · rename_i s ts x y ys' ha
    split at h
    · rename_i e hu
      simp only [Option.bind_eq_bind, Option.bind_eq_some_iff, Option.some.injEq] at h
      obtain ⟨n, hn, rfl⟩ := h
      exact b_copy ha hy hu hn
    · cases h
  · rename_i t ts x ys' ha
    split at h
    · rename_i hu; cases h; exact b_clearM ha hy hu
    · rename_i e hu
      simp only [Option.bind_eq_bind, Option.bind_eq_some_iff] at h
      obtain ⟨z, hz, n, hn, h⟩ := h
      cases hb : (z.cells.length.beq n && Nat.blt 0 n) with
      | false => rw [hb] at h; cases h
      | true =>
        rw [hb] at h
        cases h
        rw [Bool.and_eq_true] at hb
        exact b_clearL ha hy hu hz (ofBeq hb.1) (Nat.le_of_ble_eq_true hb.2)
    · cases h
  · cases h

theorem compO_sound (op : Op) {m : MOp} (h : compO P nt op = some m) : OpS P nt op m := by
  unfold compO at h
  split at h
  all_goals try simp only [Option.bind_eq_bind, Option.bind_eq_some_iff, Option.some.injEq] at h
  · obtain ⟨x, hx, rfl⟩ := h; exact s_move hx
  · obtain ⟨x, hx, rfl⟩ := h; exact s_assign hx
  · obtain ⟨c, hc, x, hx, y, hy, rfl⟩ := h; exact s_pick hc hx hy
  · obtain ⟨z, hz, rfl⟩ := h; exact s_alloc hz
  · obtain ⟨x, hx, rfl⟩ := h; exact s_box hx
  · obtain ⟨z, hz, h⟩ := h
    split at h
    · rename_i fs hu
      simp only [Option.bind_eq_some_iff, Option.some.injEq] at h
      obtain ⟨pl, hp, qs, hq, rfl⟩ := h
      exact s_buildS hz hu hp hq
    · rename_i n e hu
      simp only [Option.bind_eq_some_iff, Option.some.injEq] at h
      obtain ⟨n, hn, qs, hq, rfl⟩ := h
      exact s_buildA hz hu hn hq
    · cases h
  · split at h
    · rename_i e hu
      simp only [Option.bind_eq_some_iff] at h
      obtain ⟨n, hn, z, hz, qs, hq, h⟩ := h
      cases hb : (z.cells.length.beq n && Nat.blt 0 n && Nat.ble (_ * n) 16777216) with
      | false => rw [hb] at h; cases h
      | true =>
        rw [hb] at h
        cases h
        simp only [Bool.and_eq_true] at hb
        exact s_bslice hu hz hn hq (ofBeq hb.1.1) (Nat.le_of_ble_eq_true hb.1.2) (Nat.le_of_ble_eq_true hb.2)
    · cases h
  · obtain ⟨n, hn, x, hx, rfl⟩ := h; exact s_load hn hx
  · obtain ⟨n, hn, x, hx, y, hy, rfl⟩ := h; exact s_store hn hx hy
  · obtain ⟨x, hx, rfl⟩ := h; exact s_nilck hx
  · obtain ⟨x, hx, y, hy, h⟩ := h
    split at h
    · simp only [Option.bind_eq_some_iff, Option.some.injEq] at h
      obtain ⟨ek, he, rfl⟩ := h
      exact s_bin hx hy fun _ => he
    · simp only [Option.bind_eq_some_iff, Option.some.injEq] at h
      obtain ⟨ek, he, rfl⟩ := h
      exact s_bin hx hy fun _ => he
    · rename_i h1 h2
      cases h
      exact s_bin hx hy fun h => by rcases h with h | h; exact (h1 h).elim; exact (h2 h).elim
  · obtain ⟨x, hx, rfl⟩ := h; exact s_not hx
  · obtain ⟨x, hx, h⟩ := h
    split at h
    · rename_i h1 h2; cases h; exact s_convI h1 h2 hx
    · rename_i h1 h2
      split at h
      · rename_i h3; cases h; exact s_s2b h1 h2 h3 hx
      · cases h
    · rename_i h1 h2
      split at h
      · rename_i h3; cases h; exact s_b2s h1 h2 h3 hx
      · cases h
    · cases h
  · obtain ⟨p, hp, q, hq, rfl⟩ := h; exact s_mkfn hp hq
  · subst h; exact s_mkmap
  · split at h
    · rename_i e hu
      simp only [Option.bind_eq_some_iff] at h
      obtain ⟨i, hi, z, hz, l, hl, c, hc, h⟩ := h
      cases hb : (z.cells.length.beq i.size && Nat.blt 0 i.size) with
      | false => rw [hb] at h; cases h
      | true =>
        rw [hb] at h
        cases h
        rw [Bool.and_eq_true] at hb
        exact s_mkslice hu hi hz hl hc (ofBeq hb.1) (Nat.le_of_ble_eq_true hb.2)
    · cases h
  · obtain ⟨x, hx, lo, hl, hi, hh, mx, hm, h⟩ := h
    split at h
    · rename_i hu
      split at h
      · rename_i mxo _ _
        cases h
        cases hmo : mxo with
        | none => exact s_slstr hx hl hh hu
        | some q =>
          rw [hmo] at hm
          simp only [copdo] at hm
          cases hc : copd nt q <;> rw [hc] at hm <;> cases hm
      · cases h
    · rename_i e hu
      simp only [Option.bind_eq_some_iff] at h
      obtain ⟨n, hn, h⟩ := h
      cases hb : (!mx.isSome || hi.isSome) with
      | false => rw [hb] at h; cases h
      | true =>
        rw [hb] at h
        cases h
        exact s_slice hx hl hh hm hu hn (fun e => by rw [e] at hb; simpa using hb)
    · rename_i l e hu
      simp only [Option.bind_eq_some_iff] at h
      obtain ⟨n, hn, h⟩ := h
      cases hb : (!mx.isSome || hi.isSome) with
      | false => rw [hb] at h; cases h
      | true =>
        rw [hb] at h
        cases h
        exact s_slarr hx hl hh hm hu hn (fun e => by rw [e] at hb; simpa using hb)
    · cases h
  · obtain ⟨x, hx, h⟩ := h
    split at h
    · rename_i fs hu
      simp only [Option.bind_eq_some_iff] at h
      obtain ⟨f, hf, n, hn, h⟩ := h
      cases hb : n.beq 0 with
      | true => rw [hb] at h; cases h
      | false =>
        rw [hb] at h
        cases h
        exact s_faddr hx hu hf hn (by intro e; subst e; simp at hb)
    · cases h
  · obtain ⟨x, hx, h⟩ := h
    split at h
    · rename_i fs hu
      simp only [Option.bind_eq_some_iff, Option.some.injEq] at h
      obtain ⟨f, hf, n, hn, rfl⟩ := h
      exact s_fld hx hu hf hn
    · cases h
  · obtain ⟨x, hx, i, hi, h⟩ := h
    split at h
    · rename_i l e hu
      simp only [Option.bind_eq_some_iff, Option.some.injEq] at h
      obtain ⟨n, hn, rfl⟩ := h
      exact s_iaddrA hx hi hu hn
    · rename_i e hu
      simp only [Option.bind_eq_some_iff, Option.some.injEq] at h
      obtain ⟨n, hn, rfl⟩ := h
      exact s_iaddrS hx hi hu hn
    · cases h
  · obtain ⟨x, hx, i, hi, h⟩ := h
    split at h
    · rename_i l e hu
      simp only [Option.bind_eq_some_iff, Option.some.injEq] at h
      obtain ⟨n, hn, q, hq, rfl⟩ := h
      exact s_idxA hx hi hu hn hq
    · rename_i hu
      cases h
      exact s_idxS hx hi hu
    · cases h
  · obtain ⟨x, hx, i, hi, h⟩ := h
    split at h
    · rename_i k e hu
      simp only [Option.bind_eq_some_iff, Option.some.injEq] at h
      obtain ⟨kk, hk, z, hz, rfl⟩ := h
      exact s_lookup hx hi hu hk hz
    · cases h
  · obtain ⟨m', hm, k', hk', v', hv, h⟩ := h
    split at h
    · rename_i k e hu
      simp only [Option.bind_eq_some_iff, Option.some.injEq] at h
      obtain ⟨kk, hk, rfl⟩ := h
      exact s_mapupd hm hk' hv hu hk
    · cases h
  · obtain ⟨x, hx, rfl⟩ := h; exact s_extract hx
  · obtain ⟨x, hx, h⟩ := h
    split at h
    · rename_i hu; cases h; exact s_rangeS hx hu
    · rename_i hu; cases h; exact s_rangeM hx hu
    · cases h
  · obtain ⟨x, hx, h⟩ := h
    split at h
    · cases h; exact s_nextS hx
    · cases h; exact s_nextM hx
  · obtain ⟨f, hf, xs, hxs, rfl⟩ := h; exact s_callv _ _ _
  · obtain ⟨ys, hy, h⟩ := h; exact compB_sound hy h
  · cases h

theorem comp_sound (op : Op) : OpS P nt op (comp P nt op) := by
  unfold comp
  split
  · rename_i m h; exact compO_sound op h
  · exact s_bad op
end
end Go.Ab
