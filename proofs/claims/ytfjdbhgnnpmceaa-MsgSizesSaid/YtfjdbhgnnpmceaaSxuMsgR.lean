/-
  Walks by Sx; no condition beyond those that stand in each statement.
-/
import Derived.Test.YtfjdbhgnnpmceaaSxuMsgQ
namespace Go.Proofs
open Go Go.Sx
set_option maxRecDepth 100000
theorem rdM_cons {f : Fs} {fs : List Fs} {m : Mg} {n : Int} {b : List UInt8} {q : Mg × Int} (h : rdM (f :: fs) m n b = some q) :
    ∃ c r, b = c ++ r ∧ c.length = f.sz ∧ f.lo ≤ f.num c ∧ f.num c ≤ f.hi ∧ rdM fs (f.setM m (f.num c)) (f.setN n (f.num c)) r = some q := by
  simp only [rdM] at h
  by_cases h1 : b.length < f.sz
  · rw [if_pos h1] at h; cases h
  rw [if_neg h1] at h
  by_cases h2 : f.num (b.take f.sz) < f.lo ∨ f.hi < f.num (b.take f.sz)
  · rw [if_pos h2] at h; cases h
  rw [if_neg h2] at h
  exact ⟨b.take f.sz, b.drop f.sz, (List.take_append_drop _ _).symm, by simp; omega, by omega, by omega, h⟩
theorem rdM_nil {m : Mg} {n : Int} {b : List UInt8} {q : Mg × Int} (h : rdM [] m n b = some q) : b = [] ∧ q = (m, n) := by
  simp only [rdM] at h
  by_cases h1 : b = []
  · rw [if_pos h1] at h; cases h; exact ⟨h1, rfl⟩
  · rw [if_neg h1] at h; cases h
theorem len1 {c : List UInt8} (h : c.length = 1) : ∃ x, c = [x] := by
  match c, h with
  | [x], _ => exact ⟨x, rfl⟩
theorem takeN_lt2 {c : List UInt8} {n : Nat} (h : c.length = n) : takeN c < 256 ^ n := by rw [← h]; exact takeN_lt c
set_option maxHeartbeats 8000000 in
theorem put_take {m : Mg} {b : List UInt8} (h : takeP b = some m) : rPutP m = some b := by
  cases b with
  | nil => cases h
  | cons kb r =>
  rw [takeP_bind] at h
  cases hf : msgFs (kb.toNat : Int) with
  | none => rw [hf] at h; cases h
  | some fs =>
  rw [hf] at h
  simp only [Option.bind_some, Option.map_eq_some_iff] at h
  obtain ⟨⟨q, n⟩, h0, rfl⟩ := h
  have hb8 := b8_toNat kb
  rcases msgFs_cases hf with ⟨e, rfl⟩ | ⟨e, rfl⟩ | ⟨e, rfl⟩ | ⟨e, rfl⟩ | ⟨e, rfl⟩ | ⟨e, rfl⟩ | ⟨e, rfl⟩ | ⟨e, rfl⟩ | ⟨e, rfl⟩ | ⟨e, rfl⟩ | ⟨e, rfl⟩
  · rw [e] at h0 hb8
    obtain ⟨c0, r0, hb0, l0, u0, v0, h1⟩ := rdM_cons h0
    clear h0
    subst hb0
    obtain ⟨x0, rfl⟩ := len1 l0
    have w0 := b8_toNat x0
    have z0 := x0.toNat_lt
    obtain ⟨rfl, hq⟩ := rdM_nil h1
    simp only [Prod.mk.injEq] at hq
    obtain ⟨rfl, rfl⟩ := hq
    rw [rPutP_some]
    simp [Fs.num, takeN_1, Mg.of, Fs.setM, Fs.setN, Mg.put] at u0 v0 ⊢
    simp at *
    simp [fitsP, inP, namedP, bytesP, hb8, w0]
    try omega
    done
  · rw [e] at h0 hb8
    obtain ⟨c0, r0, hb0, l0, u0, v0, h1⟩ := rdM_cons h0
    clear h0
    subst hb0
    obtain ⟨x0, rfl⟩ := len1 l0
    have w0 := b8_toNat x0
    have z0 := x0.toNat_lt
    obtain ⟨rfl, hq⟩ := rdM_nil h1
    simp only [Prod.mk.injEq] at hq
    obtain ⟨rfl, rfl⟩ := hq
    rw [rPutP_some]
    simp [Fs.num, takeN_1, Mg.of, Fs.setM, Fs.setN, Mg.put] at u0 v0 ⊢
    simp at *
    simp [fitsP, inP, namedP, bytesP, hb8, w0]
    try omega
    done
  · rw [e] at h0 hb8
    obtain ⟨c0, r0, hb0, l0, u0, v0, h1⟩ := rdM_cons h0
    clear h0
    subst hb0
    have w0 := be_takeN' l0
    have z0 := takeN_lt2 l0
    obtain ⟨rfl, hq⟩ := rdM_nil h1
    simp only [Prod.mk.injEq] at hq
    obtain ⟨rfl, rfl⟩ := hq
    rw [rPutP_some]
    simp [Fs.num, sF, Mg.of, Fs.setM, Fs.setN, Mg.put] at u0 v0 ⊢
    simp [sF] at *
    simp [fitsP, inP, namedP, bytesP, hb8, w0]
    try omega
    done
  · rw [e] at h0 hb8
    obtain ⟨c0, r0, hb0, l0, u0, v0, h1⟩ := rdM_cons h0
    clear h0
    subst hb0
    have w0 := be_takeN' l0
    have z0 := takeN_lt2 l0
    obtain ⟨rfl, hq⟩ := rdM_nil h1
    simp only [Prod.mk.injEq] at hq
    obtain ⟨rfl, rfl⟩ := hq
    rw [rPutP_some]
    simp [Fs.num, sF, Mg.of, Fs.setM, Fs.setN, Mg.put] at u0 v0 ⊢
    simp [sF] at *
    simp [fitsP, inP, namedP, bytesP, hb8, w0]
    try omega
    done
  · rw [e] at h0 hb8
    obtain ⟨c0, r0, hb0, l0, u0, v0, h1⟩ := rdM_cons h0
    clear h0
    subst hb0
    have w0 := be_takeN' l0
    have z0 := takeN_lt2 l0
    obtain ⟨c1, r1, hb1, l1, u1, v1, h2⟩ := rdM_cons h1
    clear h1
    subst hb1
    obtain ⟨x1, rfl⟩ := len1 l1
    have w1 := b8_toNat x1
    have z1 := x1.toNat_lt
    obtain ⟨rfl, hq⟩ := rdM_nil h2
    simp only [Prod.mk.injEq] at hq
    obtain ⟨rfl, rfl⟩ := hq
    rw [rPutP_some]
    simp [Fs.num, sF, takeN_1, Mg.of, Fs.setM, Fs.setN, Mg.put] at u0 v0 u1 v1 ⊢
    simp [sF] at *
    simp [fitsP, inP, namedP, bytesP, hb8, w0]
    try omega
    refine ⟨by omega, ?_⟩
    apply UInt8.toNat.inj
    split
    · simp; omega
    · simp; omega
  · rw [e] at h0 hb8
    obtain ⟨c0, r0, hb0, l0, u0, v0, h1⟩ := rdM_cons h0
    clear h0
    subst hb0
    have w0 := be_takeN' l0
    have z0 := takeN_lt2 l0
    obtain ⟨c1, r1, hb1, l1, u1, v1, h2⟩ := rdM_cons h1
    clear h1
    subst hb1
    obtain ⟨x1, rfl⟩ := len1 l1
    have w1 := b8_toNat x1
    have z1 := x1.toNat_lt
    obtain ⟨rfl, hq⟩ := rdM_nil h2
    simp only [Prod.mk.injEq] at hq
    obtain ⟨rfl, rfl⟩ := hq
    rw [rPutP_some]
    simp [Fs.num, sF, takeN_1, Mg.of, Fs.setM, Fs.setN, Mg.put] at u0 v0 u1 v1 ⊢
    simp [sF] at *
    simp [fitsP, inP, namedP, bytesP, hb8, w0, w1]
    try omega
    done
  · rw [e] at h0 hb8
    obtain ⟨c0, r0, hb0, l0, u0, v0, h1⟩ := rdM_cons h0
    clear h0
    subst hb0
    have w0 := be_takeN' l0
    have z0 := takeN_lt2 l0
    obtain ⟨c1, r1, hb1, l1, u1, v1, h2⟩ := rdM_cons h1
    clear h1
    subst hb1
    have w1 := be_takeN' l1
    have z1 := takeN_lt2 l1
    obtain ⟨rfl, hq⟩ := rdM_nil h2
    simp only [Prod.mk.injEq] at hq
    obtain ⟨rfl, rfl⟩ := hq
    rw [rPutP_some]
    simp [Fs.num, sF, eF, Mg.of, Fs.setM, Fs.setN, Mg.put] at u0 v0 u1 v1 ⊢
    simp [sF, eF] at *
    simp [fitsP, inP, namedP, bytesP, hb8, w0, w1]
    try omega
    done
  · rw [e] at h0 hb8
    obtain ⟨c0, r0, hb0, l0, u0, v0, h1⟩ := rdM_cons h0
    clear h0
    subst hb0
    have w0 := be_takeN' l0
    have z0 := takeN_lt2 l0
    obtain ⟨rfl, hq⟩ := rdM_nil h1
    simp only [Prod.mk.injEq] at hq
    obtain ⟨rfl, rfl⟩ := hq
    rw [rPutP_some]
    simp [Fs.num, sF, Mg.of, Fs.setM, Fs.setN, Mg.put] at u0 v0 ⊢
    simp [sF] at *
    simp [fitsP, inP, namedP, bytesP, hb8, w0]
    try omega
    done
  · rw [e] at h0 hb8
    obtain ⟨c0, r0, hb0, l0, u0, v0, h1⟩ := rdM_cons h0
    clear h0
    subst hb0
    have w0 := be_takeN' l0
    have z0 := takeN_lt2 l0
    obtain ⟨rfl, hq⟩ := rdM_nil h1
    simp only [Prod.mk.injEq] at hq
    obtain ⟨rfl, rfl⟩ := hq
    rw [rPutP_some]
    simp [Fs.num, sF, Mg.of, Fs.setM, Fs.setN, Mg.put] at u0 v0 ⊢
    simp [sF] at *
    simp [fitsP, inP, namedP, bytesP, hb8, w0]
    try omega
    done
  · rw [e] at h0 hb8
    obtain ⟨c0, r0, hb0, l0, u0, v0, h1⟩ := rdM_cons h0
    clear h0
    subst hb0
    have w0 := be_takeN' l0
    have z0 := takeN_lt2 l0
    obtain ⟨c1, r1, hb1, l1, u1, v1, h2⟩ := rdM_cons h1
    clear h1
    subst hb1
    have w1 := be_takeN' l1
    have z1 := takeN_lt2 l1
    obtain ⟨c2, r2, hb2, l2, u2, v2, h3⟩ := rdM_cons h2
    clear h2
    subst hb2
    obtain ⟨x2, rfl⟩ := len1 l2
    have w2 := b8_toNat x2
    have z2 := x2.toNat_lt
    obtain ⟨rfl, hq⟩ := rdM_nil h3
    simp only [Prod.mk.injEq] at hq
    obtain ⟨rfl, rfl⟩ := hq
    rw [rPutP_some]
    simp [Fs.num, sF, eF, takeN_1, Mg.of, Fs.setM, Fs.setN, Mg.put] at u0 v0 u1 v1 u2 v2 ⊢
    simp [sF, eF] at *
    simp [fitsP, inP, namedP, bytesP, hb8, w0, w1, w2]
    try omega
    done
  · rw [e] at h0 hb8
    obtain ⟨c0, r0, hb0, l0, u0, v0, h1⟩ := rdM_cons h0
    clear h0
    subst hb0
    have w0 := be_takeN' l0
    have z0 := takeN_lt2 l0
    obtain ⟨c1, r1, hb1, l1, u1, v1, h2⟩ := rdM_cons h1
    clear h1
    subst hb1
    have w1 := be_takeN' l1
    have z1 := takeN_lt2 l1
    obtain ⟨c2, r2, hb2, l2, u2, v2, h3⟩ := rdM_cons h2
    clear h2
    subst hb2
    obtain ⟨x2, rfl⟩ := len1 l2
    have w2 := b8_toNat x2
    have z2 := x2.toNat_lt
    obtain ⟨c3, r3, hb3, l3, u3, v3, h4⟩ := rdM_cons h3
    clear h3
    subst hb3
    have w3 := be_sx l3
    obtain ⟨c4, r4, hb4, l4, u4, v4, h5⟩ := rdM_cons h4
    clear h4
    subst hb4
    have w4 := be_sx l4
    obtain ⟨c5, r5, hb5, l5, u5, v5, h6⟩ := rdM_cons h5
    clear h5
    subst hb5
    have w5 := be_sx l5
    obtain ⟨c6, r6, hb6, l6, u6, v6, h7⟩ := rdM_cons h6
    clear h6
    subst hb6
    have w6 := be_sx l6
    obtain ⟨rfl, hq⟩ := rdM_nil h7
    simp only [Prod.mk.injEq] at hq
    obtain ⟨rfl, rfl⟩ := hq
    rw [rPutP_some]
    simp [Fs.num, sF, eF, xF, takeN_1, Mg.of, Fs.setM, Fs.setN, Mg.put] at u0 v0 u1 v1 u2 v2 u3 v3 u4 v4 u5 v5 u6 v6 ⊢
    simp [sF, eF] at *
    simp [fitsP, inP, namedP, bytesP, hb8, w0, w1, w2, w3, w4, w5, w6, xsB, List.range_succ, Mg.get]
    try omega
    done
theorem rPutP_inj {m n : Mg} {b : List UInt8} (h : rPutP m = some b) (g : rPutP n = some b) : m = n := by
  have := take_put h
  rw [take_put g] at this
  exact (Option.some.inj this).symm
theorem be4_ex {v : Int} (h0 : 0 ≤ v) (h1 : v < 4294967296) : ∃ a b c d : UInt8, be 4 v.toNat = [a, b, c, d] ∧ 16777216 * (a.toNat : Int) + 65536 * b.toNat + 256 * c.toNat + d.toNat = v := by
  obtain ⟨l, hl⟩ : ∃ l, l = be 4 v.toNat := ⟨_, rfl⟩
  have h := takeN_be 4 v.toNat (by omega)
  have hn : l.length = 4 := by simp [hl]
  rw [← hl] at h ⊢
  match l, hn with
  | [a, b, c, d], _ =>
    refine ⟨a, b, c, d, rfl, ?_⟩
    simp [takeN] at h
    omega
theorem be2_ex {v : Int} (h0 : 0 ≤ v) (h1 : v < 65536) : ∃ a b : UInt8, be 2 v.toNat = [a, b] ∧ 256 * (a.toNat : Int) + b.toNat = v := by
  obtain ⟨l, hl⟩ : ∃ l, l = be 2 v.toNat := ⟨_, rfl⟩
  have h := takeN_be 2 v.toNat (by omega)
  have hn : l.length = 2 := by simp [hl]
  rw [← hl] at h ⊢
  match l, hn with
  | [a, b], _ =>
    refine ⟨a, b, rfl, ?_⟩
    simp [takeN] at h
    omega
theorem bes_ex {v : Int} (h0 : -32768 ≤ v) (h1 : v ≤ 32767) : ∃ a b : UInt8, be 2 (v % 65536).toNat = [a, b] ∧ sx (takeN [a, b]) = v := by
  obtain ⟨l, hl⟩ : ∃ l, l = be 2 (v % 65536).toNat := ⟨_, rfl⟩
  have h := sx_be h0 h1
  have hn : l.length = 2 := by simp [hl]
  rw [← hl] at h ⊢
  match l, hn with
  | [a, b], _ => exact ⟨a, b, rfl, h⟩
theorem b8_ex {v : Int} (h0 : 0 ≤ v) (h1 : v < 256) : ∃ a : UInt8, b8 v = a ∧ (a.toNat : Int) = v := ⟨_, rfl, by simp [b8]; omega⟩
/-- What may be said by bytes is what they say. -/
theorem may_put {m : Mg} {b : List UInt8} (h : rPutP m = some b) : namedP (mayP b) = m := by
  obtain ⟨hf, hn, rfl⟩ := rPutP_some.1 h
  clear h
  obtain ⟨k0, k1, k2, k3, k4, k5, k6, k7, k8, k9, k10, k11⟩ := m
  have hk := fits_kind hf
  simp only at hk
  simp only [fitsP, inP] at hf
  obtain ⟨s1, s2, s3, s4, es, vs⟩ := be4_ex (v := k1) (by omega) (by omega)
  obtain ⟨e1, e2, ee, ve⟩ := be2_ex (v := k4) (by omega) (by omega)
  obtain ⟨a1, a2, ea, va⟩ := bes_ex (v := k8) (by omega) (by omega)
  obtain ⟨f1, f2, ef, vf⟩ := bes_ex (v := k9) (by omega) (by omega)
  obtain ⟨g1, g2, eg, vg⟩ := bes_ex (v := k10) (by omega) (by omega)
  obtain ⟨i1, i2, ei, vi⟩ := bes_ex (v := k11) (by omega) (by omega)
  obtain ⟨r1, er, vr⟩ := b8_ex (v := k2) (by omega) (by omega)
  obtain ⟨t1, et, vt⟩ := b8_ex (v := k3) (by omega) (by omega)
  obtain ⟨m1, em, vm⟩ := b8_ex (v := k5) (by omega) (by omega)
  obtain ⟨c1, ec, vc⟩ := b8_ex (v := k6) (by have := hf.2.2.2.2.2.2.2.2.2.2; split at this <;> omega) (by omega)
  obtain ⟨q1, eq, vq⟩ := b8_ex (v := k0) (by omega) (by omega)
  by_cases d1 : k0 = 1
  · subst d1
    simp [namedP] at hn
    simp [bytesP, eq, er, mayP, bI, ix, namedP, vq, vr]
    try omega
  by_cases d2 : k0 = 2
  · subst d2
    simp [namedP] at hn
    simp [bytesP, eq, er, mayP, bI, ix, namedP, vq, vr]
    try omega
  by_cases d3 : k0 = 3
  · subst d3
    simp [namedP] at hn
    simp [bytesP, eq, es, mayP, bI, ix, namedP, vq, vs]
    try omega
  by_cases d4 : k0 = 4
  · subst d4
    simp [namedP] at hn
    simp [bytesP, eq, es, mayP, bI, ix, namedP, vq, vs]
    try omega
  by_cases d5 : k0 = 5
  · subst d5
    simp [namedP] at hn
    cases k7
    all_goals
      simp [bytesP, eq, es, mayP, bI, ix, namedP, vq, vs]
      try omega
  by_cases d6 : k0 = 6
  · subst d6
    simp [namedP] at hn
    simp [bytesP, eq, et, es, mayP, bI, ix, namedP, vq, vt, vs]
    try omega
  by_cases d7 : k0 = 7
  · subst d7
    simp [namedP] at hn
    simp [bytesP, eq, es, ee, mayP, bI, ix, namedP, vq, vs, ve]
    try omega
  by_cases d8 : k0 = 8
  · subst d8
    simp [namedP] at hn
    simp [bytesP, eq, es, mayP, bI, ix, namedP, vq, vs]
    try omega
  by_cases d9 : k0 = 9
  · subst d9
    simp [namedP] at hn
    simp [bytesP, eq, es, mayP, bI, ix, namedP, vq, vs]
    try omega
  by_cases d10 : k0 = 10
  · subst d10
    simp [namedP] at hn
    simp [bytesP, eq, em, es, ee, mayP, bI, ix, namedP, vq, vm, vs, ve]
    try omega
  by_cases d11 : k0 = 11
  · subst d11
    simp [namedP] at hn
    simp [bytesP, eq, ec, es, ee, xsB, List.range_succ, Mg.get, ea, ef, eg, ei, mayP, bI, ix, namedP, vq, vc, vs, ve, va, vf, vg, vi]
    try omega
  omega
/-- What the reference takes is what is taken. -/
theorem takeP_eq (b : List UInt8) : takeP b = rTakeP b := by
  unfold rTakeP
  cases h : takeP b with
  | none =>
    split
    · rfl
    · rename_i hl
      split
      · rename_i hp
        rw [take_put hp] at h; cases h
      · rfl
  | some m =>
    have hp := put_take h
    have hl := bytes_size m
    obtain ⟨_, _, rfl⟩ := rPutP_some.1 hp
    have h16 : (bytesP m).length ≤ 16 := by rw [hl]; unfold sizeP; (repeat' split) <;> omega
    rw [if_neg (by omega), may_put hp, if_pos hp]
end Go.Proofs
