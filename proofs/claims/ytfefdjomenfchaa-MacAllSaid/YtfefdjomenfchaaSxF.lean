/-
  Sx, part F: soundness: slicing, building, and the theorem for all operations that leave the heap as it is. Own words; no condition.
-/
import Derived.Test.YtfefdjomenfchaaSxE
namespace Go.Sx
open Go
variable {P : Program} {ty : TypeId → Option TD}

/-- Operands that may be there or not. -/
def VRo (ι : List Place) : Option Value → Option Value → Prop
  | none, none => True
  | some x, some y => VR ι x y
  | _, _ => False
theorem boundC_some {v : Value} {d y n : Nat} (h : boundC (some v) d y = some n) : ∃ k i, v = .int k i ∧ 0 ≤ i ∧ i ≤ y ∧ n = i.toNat := by
  cases v <;> simp [boundC] at h
  rename_i k i
  exact ⟨k, i, rfl, h.1.1, h.1.2, h.2.symm⟩
theorem boundC_le {v : Option Value} {d y n : Nat} (h : boundC v d y = some n) : n ≤ y := by
  cases v with
  | none => simp [boundC] at h; omega
  | some v => obtain ⟨k, i, rfl, h0, h1, rfl⟩ := boundC_some h; omega
theorem bound_run {k : IntKind} {i : Int} {y : Nat} (h0 : 0 ≤ i) (h1 : i ≤ y) (c : BoundsCode) (w : World) : (Instr.sliceBound (.int k i) y c).run P w = .ok i.toNat w := by
  simp [Instr.sliceBound, asIntOf, h0, h1]
theorem bounds_two {ι : List Place} {len cap : Nat} {lo hi lo' hi' : Option Value} (rl : VRo ι lo lo') (rh : VRo ι hi hi') {cap' : Nat} {h l : Nat} (hh : boundC hi len cap = some h) (hl : boundC lo 0 h = some l) (hc : cap ≤ cap') (s : Bool) (w : World) :
    (Instr.sliceBounds s len cap' lo' hi' none).run P w = .ok (l, h, cap') w := by
  cases hi with
  | none =>
    cases hi' with
    | some _ => exact rh.elim
    | none =>
      simp [boundC] at hh
      obtain ⟨_, rfl⟩ := hh
      cases lo with
      | none =>
        cases lo' with
        | some _ => exact rl.elim
        | none => simp [boundC] at hl; subst hl; simp [Instr.sliceBounds]
      | some v =>
        cases lo' with
        | none => exact rl.elim
        | some v' =>
          obtain ⟨k, i, rfl, h0, h1, rfl⟩ := boundC_some hl
          obtain rfl := VR.int_inv rl
          simp [Instr.sliceBounds, bound_run (P := P) (k := k) h0 h1]
  | some v =>
    cases hi' with
    | none => exact rh.elim
    | some v' =>
      obtain ⟨k, i, rfl, h0, h1, rfl⟩ := boundC_some hh
      obtain rfl := VR.int_inv rh
      have e := fun c => bound_run (P := P) (k := k) h0 (show i ≤ (cap' : Int) by omega) c w
      cases lo with
      | none =>
        cases lo' with
        | some _ => exact rl.elim
        | none => simp [boundC] at hl; subst hl; simp [Instr.sliceBounds, e]
      | some v =>
        cases lo' with
        | none => exact rl.elim
        | some v' =>
          obtain ⟨k, i, rfl, h0, h1, rfl⟩ := boundC_some hl
          obtain rfl := VR.int_inv rl
          simp [Instr.sliceBounds, e, bound_run (P := P) (k := k) h0 h1]
theorem bounds_three {ι : List Place} {len cap : Nat} {lo lo' : Option Value} {hi mx hi' mx' : Value} (rl : VRo ι lo lo') (rh : VR ι hi hi') (rm : VR ι mx mx') {cap' d : Nat} {m h l : Nat} (hm : boundC (some mx) d cap = some m) (hh : boundC (some hi) len m = some h) (hl : boundC lo 0 h = some l) (hc : cap ≤ cap') (s : Bool) (w : World) :
    (Instr.sliceBounds s len cap' lo' (some hi') (some mx')).run P w = .ok (l, h, m) w := by
  obtain ⟨km, im, rfl, m0, m1, rfl⟩ := boundC_some hm
  obtain rfl := VR.int_inv rm
  obtain ⟨kh, ih, rfl, h0, h1, rfl⟩ := boundC_some hh
  obtain rfl := VR.int_inv rh
  have e1 := fun c => bound_run (P := P) (k := km) m0 (show im ≤ (cap' : Int) by omega) c w
  have e2 := fun c => bound_run (P := P) (k := kh) h0 h1 c w
  cases lo with
  | none =>
    cases lo' with
    | some _ => exact rl.elim
    | none => simp [boundC] at hl; subst hl; simp [Instr.sliceBounds, e1, e2]
  | some v =>
    cases lo' with
    | none => exact rl.elim
    | some v' =>
      obtain ⟨k, i, rfl, h0, h1, rfl⟩ := boundC_some hl
      obtain rfl := VR.int_inv rl
      simp [Instr.sliceBounds, e1, e2, bound_run (P := P) (k := k) h0 h1]
theorem mkSl_some {a : Option Addr} {l c : Nat} {v : Value} (h : mkSl a l c = some v) : c ≠ OPEN ∧ v = .slice a l c := by
  unfold mkSl at h
  split at h
  · simp at h
  · simp at h; exact ⟨by assumption, h.symm⟩
theorem RelH.unitOf {ι : List Place} {h : Heap} {w : World} (R : RelH ι h w) {i u : Nat} (hu : ownUnit h i = some u) {p : Place} (hp : ι[i]? = some p) : p.unit = u := by
  unfold ownUnit at hu
  split at hu
  · rename_i cs own unit hg
    simp at hu
    obtain ⟨rfl, rfl⟩ := hu
    obtain ⟨q, hq, hb⟩ := R.blk i _ hg
    rw [hp] at hq; simp at hq; subst hq
    exact (hb.2.2 rfl).2.1
  · rename_i unit hg
    simp at hu; subst hu
    obtain ⟨q, hq, hb⟩ := R.blk i _ hg
    rw [hp] at hq; simp at hq; subst hq
    exact hb.2
  · simp at hu
theorem run_slice (T : TyOk P ty) {ι : List Place} {h₀ : Heap} {w : World} (R : RelH ι h₀ w) {t : TypeId} {x v : Value} {lo hi mx : Option Value} (hs : sliceC ty h₀ t x lo hi mx = some v) {x' : Value} (hx : VR ι x x') {lo' hi' mx' : Option Value} (rl : VRo ι lo lo') (rh : VRo ι hi hi') (rm : VRo ι mx mx') :
    ∃ z, (Instr.sliceAt t x' lo' hi' mx').run P w = .ok z w ∧ VR ι v z := by
  simp only [sliceC, Option.bind_eq_some_iff] at hs
  obtain ⟨d, hd, hs⟩ := hs
  have hu := T.underlying hd w
  split at hs
  · -- a slice
    rename_i e hk
    rw [hk] at hu
    simp only [Option.bind_eq_some_iff] at hs
    obtain ⟨d', hd', hs⟩ := hs
    have hsz := T.sizeOf hd' w
    split at hs
    · rename_i a len cap
      split at hs
      · -- open
        rename_i hopen
        subst hopen
        split at hs
        · rename_i mx
          split at hs
          · rename_i hi
            cases hi' with
            | none => exact rh.elim
            | some hi' => cases mx' with
              | none => exact rm.elim
              | some mx' =>
                simp only [Option.bind_eq_some_iff] at hs
                obtain ⟨m, hm, h, hh, l, hl, hs⟩ := hs
                split at hs
                · rename_i b k
                  simp only [Option.ite_none_left_eq_some] at hs
                  obtain ⟨hml, hs⟩ := hs
                  obtain ⟨hc, rfl⟩ := mkSl_some hs
                  have hmle := boundC_le hm
                  have hhle := boundC_le hh
                  have hlle := boundC_le hl
                  rcases hx.slice_inv with ⟨i, k', p, he, hp, hno, rfl⟩ | ⟨i, k', p, c', he, _, hp, hlc, _, rfl⟩ | ⟨b', _, rfl, rfl, ie, ke, pe, he, hpe⟩ | ⟨_, rfl, rfl, _⟩
                  · exact absurd rfl hno
                  · simp at he; obtain ⟨rfl, rfl⟩ := he
                    have hb := bounds_three (P := P) rl rh rm hm hh hl hlc true w
                    refine ⟨.slice (some ⟨p.block, p.off + (k + l * d'.size), none⟩) (h - l) (m - l), ?_, .slice b _ _ _ p hp hc⟩
                    simp [Instr.sliceAt, Instr.slice, hu, hb, hsz, hml, addr_add, Nat.add_assoc]
                  · omega
                  · omega
                · simp at hs
          · simp at hs
        · cases mx' with
          | some _ => exact rm.elim
          | none =>
            simp only [Option.bind_eq_some_iff] at hs
            obtain ⟨h, hh, l, hl, hs⟩ := hs
            have hhle := boundC_le hh
            have hlle := boundC_le hl
            split at hs
            · rename_i b k
              simp only [Option.ite_none_right_eq_some, Option.some.injEq] at hs
              obtain ⟨hun, rfl⟩ := hs
              rcases hx.slice_inv with ⟨i, k', p, he, hp, hno, rfl⟩ | ⟨i, k', p, c', he, _, hp, hlc, hroom, rfl⟩ | ⟨b', _, rfl, rfl, ie, ke, pe, he, hpe⟩ | ⟨_, rfl, rfl, ie, ke, pe, he, hpe⟩
              · exact absurd rfl hno
              · simp at he; obtain ⟨rfl, rfl⟩ := he
                have hb := bounds_two (P := P) rl rh hh hl hlc true w
                have hunit := R.unitOf hun hp
                by_cases hcl : c' = l
                · obtain rfl := hcl
                  have h0 : h - c' = 0 := by omega
                  rw [h0]
                  refine ⟨.slice (some ⟨p.block, p.off + k, none⟩) 0 0, ?_, .sliceE _ _ p _ hp⟩
                  have hhl : h ≤ c' := by omega
                  simp [Instr.sliceAt, Instr.slice, hu, hb, hsz, Nat.sub_eq_zero_of_le hhl]
                · refine ⟨.slice (some ⟨p.block, p.off + (k + l * d'.size), none⟩) (h - l) (c' - l), ?_, .sliceO b _ _ _ p hp (by omega) ?_⟩
                  · simp [Instr.sliceAt, Instr.slice, hu, hb, hsz, hcl, addr_add, Nat.add_assoc]
                  · rw [hunit] at hroom ⊢
                    have : l * d'.size + (c' - l) * d'.size = c' * d'.size := by rw [← Nat.add_mul]; congr 1; omega
                    omega
              · have hl0 : l = 0 := by omega
                have hh0 : h = 0 := by omega
                subst hl0; subst hh0
                have hb := bounds_two (P := P) (cap' := 0) rl rh hh hl (by omega) true w
                refine ⟨.slice (some b') 0 0, ?_, ?_⟩
                · simp [Instr.sliceAt, Instr.slice, hu, hb, hsz]
                · simp at he; obtain ⟨rfl, rfl⟩ := he
                  simpa using VR.sliceE _ _ pe b' hpe
              · have hl0 : l = 0 := by omega
                have hh0 : h = 0 := by omega
                subst hl0; subst hh0
                have hb := bounds_two (P := P) (cap' := 0) rl rh hh hl (by omega) true w
                refine ⟨.slice none 0 0, ?_, ?_⟩
                · simp [Instr.sliceAt, Instr.slice, hu, hb, hsz]
                · simp at he; obtain ⟨rfl, rfl⟩ := he
                  simpa using VR.sliceN _ _ pe hpe
            · simp at hs
      · rename_i hopen
        split at hs
        · rename_i mx
          split at hs
          · rename_i hi
            cases hi' with
            | none => exact rh.elim
            | some hi' => cases mx' with
              | none => exact rm.elim
              | some mx' =>
                simp only [Option.bind_eq_some_iff] at hs
                obtain ⟨m, hm, h, hh, l, hl, hs⟩ := hs
                have hb := bounds_three (P := P) rl rh rm hm hh hl (Nat.le_refl _) true w
                split at hs
                · rename_i b k
                  obtain ⟨hc, rfl⟩ := mkSl_some hs
                  rcases hx.slice_inv with ⟨i, k', p, he, hp, hno, rfl⟩ | ⟨i, k', p, c', he, ho, hp, hlc, _, rfl⟩ | ⟨b', ho, rfl, rfl, ie, ke, pe, he, hpe⟩ | ⟨ho, _⟩
                  · simp at he; obtain ⟨rfl, rfl⟩ := he
                    by_cases hml : m = l
                    · obtain rfl := hml; refine ⟨.slice (some ⟨p.block, p.off + k, none⟩) (h - m) (m - m), ?_, ?_⟩
                      · simp [Instr.sliceAt, Instr.slice, hu, hb, hsz]
                      · rw [if_pos rfl]; exact .slice b _ _ _ p hp hc
                    · refine ⟨.slice (some ⟨p.block, p.off + (k + l * d'.size), none⟩) (h - l) (m - l), ?_, ?_⟩
                      · simp [Instr.sliceAt, Instr.slice, hu, hb, hsz, hml, addr_add, Nat.add_assoc]
                      · rw [if_neg hml]; exact .slice b _ _ _ p hp hc
                  · exact absurd ho hopen
                  · have hc0 : cap = 0 := ho.resolve_left hopen
                    subst hc0
                    have hmle := boundC_le hm
                    have hhle := boundC_le hh
                    have hlle := boundC_le hl
                    have e1 : m = 0 := by omega
                    have e2 : h = 0 := by omega
                    have e3 : l = 0 := by omega
                    subst e1; subst e2; subst e3
                    refine ⟨.slice (some b') 0 0, ?_, ?_⟩
                    · simp [Instr.sliceAt, Instr.slice, hu, hb, hsz]
                    · simp at he; obtain ⟨rfl, rfl⟩ := he
                      rw [if_pos rfl]; exact VR.sliceZ _ _ pe b' hpe
                  · exact absurd ho hopen
                · simp at hs; subst hs
                  obtain rfl := hx.closed_inv rfl
                  refine ⟨_, ?_, .same _ rfl⟩
                  simp [Instr.sliceAt, Instr.slice, hu, hb, hsz]
                · simp at hs
          · simp at hs
        · cases mx' with
          | some _ => exact rm.elim
          | none =>
            simp only [Option.bind_eq_some_iff] at hs
            obtain ⟨h, hh, l, hl, hs⟩ := hs
            have hb := bounds_two (P := P) rl rh hh hl (Nat.le_refl _) true w
            split at hs
            · rename_i b k
              obtain ⟨hc, rfl⟩ := mkSl_some hs
              rcases hx.slice_inv with ⟨i, k', p, he, hp, hno, rfl⟩ | ⟨i, k', p, c', he, ho, hp, hlc, _, rfl⟩ | ⟨b', ho, rfl, rfl, ie, ke, pe, he, hpe⟩ | ⟨ho, _⟩
              · simp at he; obtain ⟨rfl, rfl⟩ := he
                by_cases hml : cap = l
                · obtain rfl := hml; refine ⟨.slice (some ⟨p.block, p.off + k, none⟩) (h - cap) (cap - cap), ?_, ?_⟩
                  · simp [Instr.sliceAt, Instr.slice, hu, hb, hsz]
                  · rw [if_pos rfl]; exact .slice b _ _ _ p hp hc
                · refine ⟨.slice (some ⟨p.block, p.off + (k + l * d'.size), none⟩) (h - l) (cap - l), ?_, ?_⟩
                  · simp [Instr.sliceAt, Instr.slice, hu, hb, hsz, hml, addr_add, Nat.add_assoc]
                  · rw [if_neg hml]; exact .slice b _ _ _ p hp hc
              · exact absurd ho hopen
              · have hc0 : cap = 0 := ho.resolve_left hopen
                subst hc0
                have hhle := boundC_le hh
                have hlle := boundC_le hl
                have e2 : h = 0 := by omega
                have e3 : l = 0 := by omega
                subst e2; subst e3
                refine ⟨.slice (some b') 0 0, ?_, ?_⟩
                · simp [Instr.sliceAt, Instr.slice, hu, hb, hsz]
                · simp at he; obtain ⟨rfl, rfl⟩ := he
                  rw [if_pos rfl]; exact VR.sliceZ _ _ pe b' hpe
              · exact absurd ho hopen
            · simp at hs; subst hs
              obtain rfl := hx.closed_inv rfl
              refine ⟨_, ?_, .same _ rfl⟩
              simp [Instr.sliceAt, Instr.slice, hu, hb, hsz]
            · simp at hs
    · simp at hs
  · -- a string
    rename_i hk
    rw [hk] at hu
    split at hs
    · rename_i s
      obtain rfl := hx.string_inv
      split at hs
      · cases mx' with
        | some _ => exact rm.elim
        | none =>
          simp only [Option.bind_eq_some_iff, Option.map_eq_some_iff] at hs
          obtain ⟨h, hh, l, hl, rfl⟩ := hs
          have hb := bounds_two (P := P) rl rh hh hl (Nat.le_refl _) false w
          refine ⟨_, ?_, .same _ rfl⟩
          simp [Instr.sliceAt, Instr.slice, hu, hb]
      · simp at hs
    · simp at hs
  · -- an array behind a pointer
    rename_i n e hk
    rw [hk] at hu
    simp only [Option.bind_eq_some_iff] at hs
    obtain ⟨d', hd', hs⟩ := hs
    have hsz := T.sizeOf hd' w
    split at hs
    · rename_i b k
      obtain ⟨p, hp, rfl⟩ := hx.ptr_inv
      split at hs
      · rename_i mx
        split at hs
        · rename_i hi
          cases hi' with
          | none => exact rh.elim
          | some hi' => cases mx' with
            | none => exact rm.elim
            | some mx' =>
              simp only [Option.bind_eq_some_iff] at hs
              obtain ⟨m, hm, h, hh, l, hl, hs⟩ := hs
              have hb := bounds_three (P := P) rl rh rm hm hh hl (Nat.le_refl _) false w
              obtain ⟨hc, rfl⟩ := mkSl_some hs
              by_cases hml : m = l
              · obtain rfl := hml; refine ⟨.slice (some ⟨p.block, p.off + k, none⟩) (h - m) (m - m), ?_, ?_⟩
                · simp [Instr.sliceAt, Instr.sureAddr, hu, hb, hsz]
                · rw [if_pos rfl]; exact .slice b _ _ _ p hp hc
              · refine ⟨.slice (some ⟨p.block, p.off + (k + l * d'.size), none⟩) (h - l) (m - l), ?_, ?_⟩
                · simp [Instr.sliceAt, Instr.sureAddr, hu, hb, hsz, hml, addr_add, Nat.add_assoc]
                · rw [if_neg hml]; exact .slice b _ _ _ p hp hc
        · simp at hs
      · cases mx' with
        | some _ => exact rm.elim
        | none =>
          simp only [Option.bind_eq_some_iff] at hs
          obtain ⟨h, hh, l, hl, hs⟩ := hs
          have hb := bounds_two (P := P) rl rh hh hl (Nat.le_refl _) false w
          obtain ⟨hc, rfl⟩ := mkSl_some hs
          by_cases hml : n = l
          · obtain rfl := hml; refine ⟨.slice (some ⟨p.block, p.off + k, none⟩) (h - n) (n - n), ?_, ?_⟩
            · simp [Instr.sliceAt, Instr.sureAddr, hu, hb, hsz]
            · rw [if_pos rfl]; exact .slice b _ _ _ p hp hc
          · refine ⟨.slice (some ⟨p.block, p.off + (k + l * d'.size), none⟩) (h - l) (n - l), ?_, ?_⟩
            · simp [Instr.sliceAt, Instr.sureAddr, hu, hb, hsz, hml, addr_add, Nat.add_assoc]
            · rw [if_neg hml]; exact .slice b _ _ _ p hp hc
    · simp at hs
  · simp at hs
end Go.Sx
