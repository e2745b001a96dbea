/-
  Walks by Sx; no condition beyond those that stand in each statement.
-/
import Derived.Test.YtfefdjomenfchaaSxsRefC
namespace Go.Proofs
open Go Go.Sx
set_option maxRecDepth 100000
attribute [local simp] xs setL_all u8_xor u8_or zerosN_3
variable (T : TyOk Try.prog (tyOf Try.prog Try.eqs)) (hm : Try.prog.follows .mixedOrders = true)
include T hm
set_option maxHeartbeats 1000000 in
theorem ref05_Of_fn (k : List UInt8) (n : Nat) (hn : k.length = n) (hnb : n ≤ 1073741824) (b : List UInt8) (m : Nat) (hm' : b.length = m) (hmb : m ≤ 536870912) (H : Heap) (a : Option Addr) (c : Nat) (hr : rowOf 1 H (.slice a n c) = some (u8s k)) (a2 : Option Addr) (d : Nat) (hs : rowOf 1 H (.slice a2 m d) = some (u8s b)) :
    Sx.Fn Try.prog 32 [.slice a n c, .slice a2 m d] H fun r h => r = .agg (u8s (macL k b)).toArray ∧ h = H := by
  refine fn_w T xs Try.func32 rfl (by kernel_rfl) Try.results32 Try.ntmps32 (by simp) fun R hR => ?_
  have hrow : ∀ L, rowOf 1 (H ++ L) (.slice a n c) = some (u8s k) := fun L => Agree.rowOf (fun _ _ q => hget_old q L) hr
  have hrow2 : ∀ L, rowOf 1 (H ++ L) (.slice a2 m d) = some (u8s b) := fun L => Agree.rowOf (fun _ _ q => hget_old q L) hs
  simp [hrow, hn, -W_cond]
  refine ⟨by omega, ?_⟩
  refine W_join (fun s => ∃ tm L p k', s = ⟨tm, H ++ L⟩ ∧ lk tm 1 = some (.v (.slice a2 m d)) ∧ lk tm 4 = some (.v (.pointer (some ⟨H.length, 0, none⟩))) ∧ lk tm 5 = some (.v (.slice (some ⟨H.length + (p + 1), 0, none⟩) k'.length OPEN)) ∧ (∃ M, L = some (.cells (u8s zero32') true 0) :: M ∧ hget M p = some (grown (u8s k') 1)) ∧ k'.length ≤ 64 ∧ k' ++ List.replicate (64 - k'.length) 0 = key64 k) ?_ ?_
  · intro J hJ
    simp
    refine ⟨fun hc => ?_, fun hc => ?_⟩
    · refine CallK.of (ref04_Sum_fn T hm k n hn (by omega) _ _ _ (by simp [hn, List.take_of_length_le (Nat.le_of_eq hn)])) ?_
      rintro _ _ ⟨rfl, rfl⟩
      have hsl : (sumL k).length = 32 := sumL_length _
      have hst : (sumL k).take 32 = sumL k := List.take_of_length_le (by omega)
      simp [hsl, hst]
      exact hJ _ ⟨_, _, 4, sumL k, rfl, by simp, by simp, by simp [hsl], ⟨_, rfl, by simp⟩, by omega, by unfold key64; rw [if_pos (by omega), hsl]⟩
    · exact hJ _ ⟨_, _, 1, k, rfl, by simp, by simp, by simp [hn], ⟨_, rfl, by simp⟩, by omega, by unfold key64; rw [if_neg (by omega), hn]⟩
  rintro _ ⟨tm, L, p, k', rfl, t1, t4, t5, ⟨M, rfl, h1⟩, hk64, hkey⟩
  refine W_forE T xs H (fun i (p : Nat) => [(1, .v (.slice a2 m d)), (4, .v (.pointer (some ⟨H.length, 0, none⟩))), (5, .v (.slice (some ⟨H.length + (p + 1), 0, none⟩) (k'.length + i) OPEN))]) (fun i p L => ∃ M, L = some (.cells (u8s zero32') true 0) :: M ∧ hget M p = some (grown (u8s (k' ++ List.replicate i 0)) 1)) (64 - k'.length) ⟨p, _, ⟨M, rfl, by simpa using h1⟩, by simp [t1, t4, t5], rfl⟩ ?_
  clear h1
  rintro i p _ hi ⟨M, rfl, h1⟩ K Q hK hQ
  have hp : p < M.length := hget_lt h1
  simp [hget_append hp, h1]
  refine ⟨fun hc => ?_, fun hc => ?_⟩
  · refine ⟨by omega, ?_⟩
    exact hK _ _ (M.length + 1) (by omega) ⟨_, rfl, by rw [hget_snoc (by simp)]; simp [u8s, List.replicate_succ']⟩ (by simp; omega) (by simp)
  have hi' : i = 64 - k'.length := by omega
  subst hi'
  rw [hkey] at h1
  have hkl2 := key64_length k
  obtain ⟨k6, hk6⟩ : ∃ k6, k6 = key64 k := ⟨_, rfl⟩
  rw [← hk6] at h1 hkl2 hkey
  refine hQ _ _ ?_
  simp [hget_append hp, h1]
  refine cw_soft 8 1 (by simp; rfl) ?_
  refine cw_soft 7 1 (by simp; rfl) ?_
  simp
  refine W_forE T xs H (fun i (q : Nat × Nat) => [(1, .v (.slice a2 m d)), (4, .v (.pointer (some ⟨H.length, 0, none⟩))), (5, .v (.slice (some ⟨H.length + (p + 1), 0, none⟩) 64 OPEN)), (7, .v (.slice (some ⟨H.length + (q.1 + 1), 0, none⟩) i OPEN)), (8, .v (.slice (some ⟨H.length + (q.2 + 1), 0, none⟩) i OPEN)), (9, .v (.int .i64 i))]) (fun i q L => ∃ M, L = some (.cells (u8s zero32') true 0) :: M ∧ hget M p = some (grown (u8s k6) 1) ∧ hget M q.1 = some (grown (u8s (xorL (k6.take i) 54)) 1) ∧ hget M q.2 = some (grown (u8s (xorL (k6.take i) 92)) 1) ∧ q.1 ≠ p ∧ q.2 ≠ p ∧ q.1 ≠ q.2) 64 ⟨(M.length + 3, M.length + 2), _, ⟨_, rfl, by simp [hget_append hp, h1], by simp [xorL, u8s], by simp [xorL, u8s], by simp; omega, by simp; omega, by simp⟩, by simp; omega, rfl⟩ ?_
  clear hK hQ K Q h1 hp t1 t4 t5 hc hkey M tm
  rintro i ⟨q, r⟩ _ hi ⟨M, rfl, h1, h2, h3, hqp, hrp, hqr⟩ K Q hK hQ
  simp only at h2 h3 hqp hrp hqr
  have hp : ∀ k, p < M.length + k := fun k => Nat.lt_of_lt_of_le (hget_lt h1) (by omega)
  have hq : ∀ k, q < M.length + k := fun k => Nat.lt_of_lt_of_le (hget_lt h2) (by omega)
  have hr : ∀ k, r < M.length + k := fun k => Nat.lt_of_lt_of_le (hget_lt h3) (by omega)
  have hp0 := hp 0
  have hq0 := hq 0
  have hr0 := hr 0
  have hxl : ∀ y, (xorL (k6.take i) y).length = min i 64 := fun y => by simp [xorL, hkl2]
  simp only [Nat.add_zero] at hp0 hq0 hr0
  simp [hget_append, hget_set, hp, hq, hr, hp0, hq0, hr0, h1, h2, h3, hqp, hrp, hqr, hkl2, hxl]
  refine ⟨fun hc => ?_, fun hc => ?_⟩
  · have e1 : Go.bits .xor .u8 ((ix k6 i).toNat : Int) 54 = ((xb (ix k6 i) 54).toNat : Int) := u8_xor _ 54
    have e2 : Go.bits .xor .u8 ((ix k6 i).toNat : Int) 92 = ((xb (ix k6 i) 92).toNat : Int) := u8_xor _ 92
    have e3 : ∀ y, u8s (xorL (k6.take (i + 1)) y) = u8s (xorL (k6.take i) y) ++ [.int .u8 ((xb (ix k6 i) y).toNat : Int)] := by
      intro y
      have e : k6.take (i + 1) = k6.take i ++ [ix k6 i] := by rw [List.take_add_one, List.getElem?_eq_getElem (by omega), ix_eq (by omega)]; rfl
      rw [e]
      simp only [xorL, u8s, List.map_append, List.map_cons, List.map_nil]
    repeat refine ⟨by omega, ?_⟩
    rw [e1, e2]
    exact hK _ _ (M.length + 1, M.length + 3) (by omega) ⟨_, rfl, by simp [hget_append, hget_set, hp0, hqp, hrp, h1], by rw [hget_at 1 (by simp), e3]; simp, by rw [hget_at 3 (by simp), e3]; simp, by simp; omega, by simp; omega, by simp⟩ (by simp) (by simp)
  have hi' : i = 64 := by omega
  subst hi'
  have hxf : ∀ y, xorL (k6.take 64) y = xorL k6 y := fun y => by rw [List.take_of_length_le (by omega)]
  have hxl' : ∀ y, (xorL k6 y).length = 64 := fun y => by simp [xorL, hkl2]
  rw [hxf] at h2 h3
  refine hQ _ _ ?_
  simp [hget_append, hget_set, hp, hq, hr, hp0, hq0, hr0, h1, h2, h3, hqp, hrp, hqr, hkl2, hxl', hrow2, hm']
  repeat refine ⟨by omega, ?_⟩
  have hS : ∀ (X : List Value) (L : Heap), hget (M.set q none ++ some (grown X 1) :: L) M.length = some (grown X 1) := fun X L => (hget_at 0 (by simp)).trans rfl
  obtain ⟨V, hV⟩ : ∃ V, V = sumL (xorL k6 54 ++ b) := ⟨_, rfl⟩
  have hVl : V.length = 32 := by rw [hV]; exact sumL_length _
  have hVt : V.take 32 = V := List.take_of_length_le (by omega)
  have hM : macL k b = sumL (xorL k6 92 ++ V) := by rw [hV, hk6]; rfl
  refine CallK.of (ref04_Sum_fn T hm (xorL k6 54 ++ b) (64 + m) (by simp [hxl', hm']) (by omega) _ _ _ (row_grown (u := 1) (by simp [hS]) (by simp [hxl', hm']))) ?_
  rintro _ _ ⟨rfl, rfl⟩
  rw [← hV]
  simp [hget_append, hget_set, hr0, hqr, h3, hxl', hVl, hVt, hget_at]
  have hml := macL_length k b
  have hmt : (macL k b).take 32 = macL k b := List.take_of_length_le (by omega)
  refine CallK.of (ref04_Sum_fn T hm (xorL k6 92 ++ V) 96 (by simp [hxl', hVl]) (by omega) _ _ _ (row_grown (u := 1) (by simp; exact hget_at 2 (by simp)) (by simp [hxl', hVl]))) ?_
  rintro _ _ ⟨rfl, rfl⟩
  rw [← hM]
  have hz32 : zero32'.length = 32 := rfl
  simp [hml, hmt, hz32]
  exact Ans.plain (plain_u8s _) (hR _ _ ⟨rfl, rfl⟩)
set_option maxHeartbeats 1000000 in
theorem ref05_Tag_fn (k : List UInt8) (n : Nat) (hn : k.length = n) (hnb : n ≤ 1073741824) (b : List UInt8) (m : Nat) (hm' : b.length = m) (hmb : m ≤ 536870912) (H : Heap) (a : Option Addr) (c : Nat) (hr : rowOf 1 H (.slice a n c) = some (u8s k)) (a2 : Option Addr) (d : Nat) (hs : rowOf 1 H (.slice a2 m d) = some (u8s b)) :
    Sx.Fn Try.prog 34 [.slice a n c, .slice a2 m d] H fun r h => r = .agg (u8s ((macL k b).take 8)).toArray ∧ h = H := by
  refine fn_w T xs Try.func34 rfl (by kernel_rfl) Try.results34 Try.ntmps34 (by simp) fun R hR => ?_
  have hrow : ∀ L, rowOf 1 (H ++ L) (.slice a n c) = some (u8s k) := fun L => Agree.rowOf (fun _ _ q => hget_old q L) hr
  have hrow2 : ∀ L, rowOf 1 (H ++ L) (.slice a2 m d) = some (u8s b) := fun L => Agree.rowOf (fun _ _ q => hget_old q L) hs
  simp
  refine CallK.of (ref05_Of_fn T hm k n hn hnb b m hm' hmb _ a c (hrow _) a2 d (hrow2 _)) ?_
  rintro _ _ ⟨rfl, rfl⟩
  have hml := macL_length k b
  generalize macL k b = V at *
  have hVt : V.take 32 = V := List.take_of_length_le (by omega)
  simp [hml, hVt]
  refine W_for T xs (fun i => ⟨[(4, .v (.pointer (some ⟨H.length, 0, none⟩))), (5, .v (.pointer (some ⟨H.length + 1, 0, none⟩))), (6, .v (.pointer (some ⟨H.length + 2, 0, none⟩))), (7, .v (.int .i64 i))], H ++ [some (.cells (u8s (List.replicate 8 0)) true 0), some (.cells (u8s V) true 0), some (.cells (u8s (front (ix V) 8 i)) true 0)]⟩) 8 ⟨by simp, rfl⟩ ?_
  intro i hi K Q hK hQ
  have hfl := front_length (ix V) 8 i (by omega)
  simp [hfl, hml]
  refine ⟨fun hc => ?_, fun hc => ?_⟩
  · repeat refine ⟨by omega, ?_⟩
    rw [u8s_set, front_set (ix V) 8 i (by omega)]
    exact hK _ _ (by omega) (by simp) rfl (by simp)
  · have hi8 : i = 8 := by omega
    subst hi8
    have hft : (front (ix V) 8 8).take 8 = front (ix V) 8 8 := List.take_of_length_le (by omega)
    have hv : front (ix V) 8 8 = V.take 8 := by
      rw [front_full]
      apply List.ext_getElem (by simp [hml])
      intro j h1 h2
      simp at h1 h2 ⊢
      exact ix_eq (by omega)
    refine hQ _ _ ?_
    simp [hfl, hft]
    rw [hv]
    exact Ans.plain (plain_u8s _) (hR _ _ ⟨rfl, rfl⟩)
end Go.Proofs
