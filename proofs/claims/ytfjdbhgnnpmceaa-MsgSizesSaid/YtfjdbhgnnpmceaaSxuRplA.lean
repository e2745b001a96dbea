/-
  Walks by Sx; no condition beyond those that stand in each statement.
-/
import Derived.Test.YtfjdbhgnnpmceaaSxuMsgR
namespace Go.Proofs
open Go Go.Sx
set_option maxRecDepth 100000
attribute [local simp] xm
def wF : Fs := ⟨false, 3, 0, 4, 1, false⟩
def cF : Fs := ⟨false, 14, 0, 255, 1, false⟩
def nF (i : Nat) : Fs := ⟨false, 15 + i, 0, 255, 1, false⟩
def nFs (i : Nat) : List Fs := (List.range i).map nF
theorem nFs_succ (i : Nat) : nFs (i + 1) = nFs i ++ [nF i] := by simp [nFs, List.range_succ]
/-- The fields of a reply, by its kind. -/
def rpFs (k : Int) : Option (List Fs) :=
  if k = 129 then some (nFs 8) else if k = 130 then some [⟨false, 2, 0, 3, 1, false⟩, wF, eF] else if k = 131 then some [sF] else if k = 132 then some [sF, cF]
  else if k = 133 then some [eF] else if k = 134 then some [wF, eF] else if k = 135 then some [wF, eF] else if k = 136 then some [wF, cF] else none
variable (T : TyOk Try.prog (tyOf Try.prog Try.eqs)) (hm : Try.prog.follows .mixedOrders = true)
include T hm
set_option maxHeartbeats 16000000 in
theorem rfields_fn (kd : Int) (A : List Value) (mi ni ua : Nat) (H : Heap) (hA : hget H mi = some (.cells A true ua)) (hk : A[0]? = some (.int .i64 kd)) (hni : ni < H.length) :
    Sx.Fn Try.prog 54 [.pointer (some ⟨mi, 0, none⟩)] H fun r h => ∃ L, h = H ++ L ∧
      match rpFs kd with
      | some fs => ∃ p c cs, r = .tuple #[.slice (some ⟨H.length + p, 0, none⟩) fs.length c, .bool true] ∧ cellsAt L p = some cs ∧ FR (H ++ L) mi ni cs fs
      | none => r = .tuple #[.slice none 0 0, .bool false] := by
  refine fn_w T xm Try.func54 rfl (by kernel_rfl) Try.results54 Try.ntmps54 (by simp) fun R hR => ?_
  have hml := hget_lt hA
  simp
  refine cw_drawl T hm xm [0, 4, 5, 6] (.soft 0 false <| .soft 1 true <| .soft 2 false <| .soft 3 false <| .soft 5 false <| .soft 6 true <| .soft 7 false <| .soft 8 false <| .soft 10 false <| .soft 11 true <| .soft 12 false <| .alt 4 true (.alt 9 true (.alt 13 true (.alt 14 true (.alt 15 true (.alt 16 true (.alt 17 true (.alt 18 true (.alt 19 false (.stop) (.stop)) (.stop)) (.stop)) (.stop)) (.alt 16 true (.alt 15 true (.alt 17 true (.alt 18 true (.alt 19 false (.stop) (.stop)) (.stop)) (.stop)) (.stop)) (.stop))) (.alt 15 true (.alt 14 true (.alt 16 true (.alt 17 true (.alt 18 true (.alt 19 false (.stop) (.stop)) (.stop)) (.stop)) (.stop)) (.alt 16 true (.alt 14 true (.alt 17 true (.alt 18 true (.alt 19 false (.stop) (.stop)) (.stop)) (.stop)) (.stop)) (.stop))) (.alt 16 true (.alt 14 true (.alt 15 true (.alt 17 true (.alt 18 true (.alt 19 false (.stop) (.stop)) (.stop)) (.stop)) (.stop)) (.alt 15 true (.alt 14 true (.alt 17 true (.alt 18 true (.alt 19 false (.stop) (.stop)) (.stop)) (.stop)) (.stop)) (.stop))) (.stop)))) (.alt 14 true (.alt 13 true (.alt 15 true (.alt 16 true (.alt 17 true (.alt 18 true (.alt 19 false (.stop) (.stop)) (.stop)) (.stop)) (.stop)) (.alt 16 true (.alt 15 true (.alt 17 true (.alt 18 true (.alt 19 false (.stop) (.stop)) (.stop)) (.stop)) (.stop)) (.stop))) (.alt 15 true (.alt 13 true (.alt 16 true (.alt 17 true (.alt 18 true (.alt 19 false (.stop) (.stop)) (.stop)) (.stop)) (.stop)) (.alt 16 true (.alt 13 true (.alt 17 true (.alt 18 true (.alt 19 false (.stop) (.stop)) (.stop)) (.stop)) (.stop)) (.stop))) (.alt 16 true (.alt 13 true (.alt 15 true (.alt 17 true (.alt 18 true (.alt 19 false (.stop) (.stop)) (.stop)) (.stop)) (.stop)) (.alt 15 true (.alt 13 true (.alt 17 true (.alt 18 true (.alt 19 false (.stop) (.stop)) (.stop)) (.stop)) (.stop)) (.stop))) (.stop)))) (.alt 15 true (.alt 13 true (.alt 14 true (.alt 16 true (.alt 17 true (.alt 18 true (.alt 19 false (.stop) (.stop)) (.stop)) (.stop)) (.stop)) (.alt 16 true (.alt 14 true (.alt 17 true (.alt 18 true (.alt 19 false (.stop) (.stop)) (.stop)) (.stop)) (.stop)) (.stop))) (.alt 14 true (.alt 13 true (.alt 16 true (.alt 17 true (.alt 18 true (.alt 19 false (.stop) (.stop)) (.stop)) (.stop)) (.stop)) (.alt 16 true (.alt 13 true (.alt 17 true (.alt 18 true (.alt 19 false (.stop) (.stop)) (.stop)) (.stop)) (.stop)) (.stop))) (.alt 16 true (.alt 13 true (.alt 14 true (.alt 17 true (.alt 18 true (.alt 19 false (.stop) (.stop)) (.stop)) (.stop)) (.stop)) (.alt 14 true (.alt 13 true (.alt 17 true (.alt 18 true (.alt 19 false (.stop) (.stop)) (.stop)) (.stop)) (.stop)) (.stop))) (.stop)))) (.alt 16 true (.alt 13 true (.alt 14 true (.alt 15 true (.alt 17 true (.alt 18 true (.alt 19 false (.stop) (.stop)) (.stop)) (.stop)) (.stop)) (.alt 15 true (.alt 14 true (.alt 17 true (.alt 18 true (.alt 19 false (.stop) (.stop)) (.stop)) (.stop)) (.stop)) (.stop))) (.alt 14 true (.alt 13 true (.alt 15 true (.alt 17 true (.alt 18 true (.alt 19 false (.stop) (.stop)) (.stop)) (.stop)) (.stop)) (.alt 15 true (.alt 13 true (.alt 17 true (.alt 18 true (.alt 19 false (.stop) (.stop)) (.stop)) (.stop)) (.stop)) (.stop))) (.alt 15 true (.alt 13 true (.alt 14 true (.alt 17 true (.alt 18 true (.alt 19 false (.stop) (.stop)) (.stop)) (.stop)) (.stop)) (.alt 14 true (.alt 13 true (.alt 17 true (.alt 18 true (.alt 19 false (.stop) (.stop)) (.stop)) (.stop)) (.stop)) (.stop))) (.stop)))) (.stop))))) (.alt 14 true (.alt 9 true (.alt 13 true (.alt 15 true (.alt 16 true (.alt 17 true (.alt 18 true (.alt 19 false (.stop) (.stop)) (.stop)) (.stop)) (.stop)) (.alt 16 true (.alt 15 true (.alt 17 true (.alt 18 true (.alt 19 false (.stop) (.stop)) (.stop)) (.stop)) (.stop)) (.stop))) (.alt 15 true (.alt 13 true (.alt 16 true (.alt 17 true (.alt 18 true (.alt 19 false (.stop) (.stop)) (.stop)) (.stop)) (.stop)) (.alt 16 true (.alt 13 true (.alt 17 true (.alt 18 true (.alt 19 false (.stop) (.stop)) (.stop)) (.stop)) (.stop)) (.stop))) (.alt 16 true (.alt 13 true (.alt 15 true (.alt 17 true (.alt 18 true (.alt 19 false (.stop) (.stop)) (.stop)) (.stop)) (.stop)) (.alt 15 true (.alt 13 true (.alt 17 true (.alt 18 true (.alt 19 false (.stop) (.stop)) (.stop)) (.stop)) (.stop)) (.stop))) (.stop)))) (.alt 15 true (.alt 9 true (.alt 13 true (.alt 16 true (.alt 17 true (.alt 18 true (.alt 19 false (.stop) (.stop)) (.stop)) (.stop)) (.stop)) (.alt 16 true (.alt 13 true (.alt 17 true (.alt 18 true (.alt 19 false (.stop) (.stop)) (.stop)) (.stop)) (.stop)) (.stop))) (.alt 16 true (.alt 9 true (.alt 13 true (.alt 17 true (.alt 18 true (.alt 19 false (.stop) (.stop)) (.stop)) (.stop)) (.stop)) (.stop)) (.stop))) (.alt 16 true (.alt 9 true (.alt 13 true (.alt 15 true (.alt 17 true (.alt 18 true (.alt 19 false (.stop) (.stop)) (.stop)) (.stop)) (.stop)) (.alt 15 true (.alt 13 true (.alt 17 true (.alt 18 true (.alt 19 false (.stop) (.stop)) (.stop)) (.stop)) (.stop)) (.stop))) (.alt 15 true (.alt 9 true (.alt 13 true (.alt 17 true (.alt 18 true (.alt 19 false (.stop) (.stop)) (.stop)) (.stop)) (.stop)) (.stop)) (.stop))) (.stop)))) (.alt 15 true (.alt 9 true (.alt 13 true (.alt 14 true (.alt 16 true (.alt 17 true (.alt 18 true (.alt 19 false (.stop) (.stop)) (.stop)) (.stop)) (.stop)) (.alt 16 true (.alt 14 true (.alt 17 true (.alt 18 true (.alt 19 false (.stop) (.stop)) (.stop)) (.stop)) (.stop)) (.stop))) (.alt 14 true (.alt 13 true (.alt 16 true (.alt 17 true (.alt 18 true (.alt 19 false (.stop) (.stop)) (.stop)) (.stop)) (.stop)) (.alt 16 true (.alt 13 true (.alt 17 true (.alt 18 true (.alt 19 false (.stop) (.stop)) (.stop)) (.stop)) (.stop)) (.stop))) (.alt 16 true (.alt 13 true (.alt 14 true (.alt 17 true (.alt 18 true (.alt 19 false (.stop) (.stop)) (.stop)) (.stop)) (.stop)) (.alt 14 true (.alt 13 true (.alt 17 true (.alt 18 true (.alt 19 false (.stop) (.stop)) (.stop)) (.stop)) (.stop)) (.stop))) (.stop)))) (.alt 14 true (.alt 9 true (.alt 13 true (.alt 16 true (.alt 17 true (.alt 18 true (.alt 19 false (.stop) (.stop)) (.stop)) (.stop)) (.stop)) (.alt 16 true (.alt 13 true (.alt 17 true (.alt 18 true (.alt 19 false (.stop) (.stop)) (.stop)) (.stop)) (.stop)) (.stop))) (.alt 16 true (.alt 9 true (.alt 13 true (.alt 17 true (.alt 18 true (.alt 19 false (.stop) (.stop)) (.stop)) (.stop)) (.stop)) (.stop)) (.stop))) (.alt 16 true (.alt 9 true (.alt 13 true (.alt 14 true (.alt 17 true (.alt 18 true (.alt 19 false (.stop) (.stop)) (.stop)) (.stop)) (.stop)) (.alt 14 true (.alt 13 true (.alt 17 true (.alt 18 true (.alt 19 false (.stop) (.stop)) (.stop)) (.stop)) (.stop)) (.stop))) (.alt 14 true (.alt 9 true (.alt 13 true (.alt 17 true (.alt 18 true (.alt 19 false (.stop) (.stop)) (.stop)) (.stop)) (.stop)) (.stop)) (.stop))) (.stop)))) (.alt 16 true (.alt 9 true (.alt 13 true (.alt 14 true (.alt 15 true (.alt 17 true (.alt 18 true (.alt 19 false (.stop) (.stop)) (.stop)) (.stop)) (.stop)) (.alt 15 true (.alt 14 true (.alt 17 true (.alt 18 true (.alt 19 false (.stop) (.stop)) (.stop)) (.stop)) (.stop)) (.stop))) (.alt 14 true (.alt 13 true (.alt 15 true (.alt 17 true (.alt 18 true (.alt 19 false (.stop) (.stop)) (.stop)) (.stop)) (.stop)) (.alt 15 true (.alt 13 true (.alt 17 true (.alt 18 true (.alt 19 false (.stop) (.stop)) (.stop)) (.stop)) (.stop)) (.stop))) (.alt 15 true (.alt 13 true (.alt 14 true (.alt 17 true (.alt 18 true (.alt 19 false (.stop) (.stop)) (.stop)) (.stop)) (.stop)) (.alt 14 true (.alt 13 true (.alt 17 true (.alt 18 true (.alt 19 false (.stop) (.stop)) (.stop)) (.stop)) (.stop)) (.stop))) (.stop)))) (.alt 14 true (.alt 9 true (.alt 13 true (.alt 15 true (.alt 17 true (.alt 18 true (.alt 19 false (.stop) (.stop)) (.stop)) (.stop)) (.stop)) (.alt 15 true (.alt 13 true (.alt 17 true (.alt 18 true (.alt 19 false (.stop) (.stop)) (.stop)) (.stop)) (.stop)) (.stop))) (.alt 15 true (.alt 9 true (.alt 13 true (.alt 17 true (.alt 18 true (.alt 19 false (.stop) (.stop)) (.stop)) (.stop)) (.stop)) (.stop)) (.stop))) (.alt 15 true (.alt 9 true (.alt 13 true (.alt 14 true (.alt 17 true (.alt 18 true (.alt 19 false (.stop) (.stop)) (.stop)) (.stop)) (.stop)) (.alt 14 true (.alt 13 true (.alt 17 true (.alt 18 true (.alt 19 false (.stop) (.stop)) (.stop)) (.stop)) (.stop)) (.stop))) (.alt 14 true (.alt 9 true (.alt 13 true (.alt 17 true (.alt 18 true (.alt 19 false (.stop) (.stop)) (.stop)) (.stop)) (.stop)) (.stop)) (.stop))) (.stop)))) (.stop))))) (.alt 14 true (.alt 4 true (.alt 9 true (.alt 13 true (.alt 15 true (.alt 16 true (.alt 17 true (.alt 18 true (.alt 19 false (.stop) (.stop)) (.stop)) (.stop)) (.stop)) (.alt 16 true (.alt 15 true (.alt 17 true (.alt 18 true (.alt 19 false (.stop) (.stop)) (.stop)) (.stop)) (.stop)) (.stop))) (.alt 15 true (.alt 13 true (.alt 16 true (.alt 17 true (.alt 18 true (.alt 19 false (.stop) (.stop)) (.stop)) (.stop)) (.stop)) (.alt 16 true (.alt 13 true (.alt 17 true (.alt 18 true (.alt 19 false (.stop) (.stop)) (.stop)) (.stop)) (.stop)) (.stop))) (.alt 16 true (.alt 13 true (.alt 15 true (.alt 17 true (.alt 18 true (.alt 19 false (.stop) (.stop)) (.stop)) (.stop)) (.stop)) (.alt 15 true (.alt 13 true (.alt 17 true (.alt 18 true (.alt 19 false (.stop) (.stop)) (.stop)) (.stop)) (.stop)) (.stop))) (.stop)))) (.alt 15 true (.alt 9 true (.alt 13 true (.alt 16 true (.alt 17 true (.alt 18 true (.alt 19 false (.stop) (.stop)) (.stop)) (.stop)) (.stop)) (.alt 16 true (.alt 13 true (.alt 17 true (.alt 18 true (.alt 19 false (.stop) (.stop)) (.stop)) (.stop)) (.stop)) (.stop))) (.alt 16 true (.alt 9 true (.alt 13 true (.alt 17 true (.alt 18 true (.alt 19 false (.stop) (.stop)) (.stop)) (.stop)) (.stop)) (.stop)) (.stop))) (.alt 16 true (.alt 9 true (.alt 13 true (.alt 15 true (.alt 17 true (.alt 18 true (.alt 19 false (.stop) (.stop)) (.stop)) (.stop)) (.stop)) (.alt 15 true (.alt 13 true (.alt 17 true (.alt 18 true (.alt 19 false (.stop) (.stop)) (.stop)) (.stop)) (.stop)) (.stop))) (.alt 15 true (.alt 9 true (.alt 13 true (.alt 17 true (.alt 18 true (.alt 19 false (.stop) (.stop)) (.stop)) (.stop)) (.stop)) (.stop)) (.stop))) (.stop)))) (.alt 15 true (.alt 4 true (.alt 9 true (.alt 13 true (.alt 16 true (.alt 17 true (.alt 18 true (.alt 19 false (.stop) (.stop)) (.stop)) (.stop)) (.stop)) (.alt 16 true (.alt 13 true (.alt 17 true (.alt 18 true (.alt 19 false (.stop) (.stop)) (.stop)) (.stop)) (.stop)) (.stop))) (.alt 16 true (.alt 9 true (.alt 13 true (.alt 17 true (.alt 18 true (.alt 19 false (.stop) (.stop)) (.stop)) (.stop)) (.stop)) (.stop)) (.stop))) (.alt 16 true (.alt 4 true (.alt 9 true (.alt 13 true (.alt 17 true (.alt 18 true (.alt 19 false (.stop) (.stop)) (.stop)) (.stop)) (.stop)) (.stop)) (.stop)) (.stop))) (.alt 16 true (.alt 4 true (.alt 9 true (.alt 13 true (.alt 15 true (.alt 17 true (.alt 18 true (.alt 19 false (.stop) (.stop)) (.stop)) (.stop)) (.stop)) (.alt 15 true (.alt 13 true (.alt 17 true (.alt 18 true (.alt 19 false (.stop) (.stop)) (.stop)) (.stop)) (.stop)) (.stop))) (.alt 15 true (.alt 9 true (.alt 13 true (.alt 17 true (.alt 18 true (.alt 19 false (.stop) (.stop)) (.stop)) (.stop)) (.stop)) (.stop)) (.stop))) (.alt 15 true (.alt 4 true (.alt 9 true (.alt 13 true (.alt 17 true (.alt 18 true (.alt 19 false (.stop) (.stop)) (.stop)) (.stop)) (.stop)) (.stop)) (.stop)) (.stop))) (.stop)))) (.alt 15 true (.alt 4 true (.alt 9 true (.alt 13 true (.alt 14 true (.alt 16 true (.alt 17 true (.alt 18 true (.alt 19 false (.stop) (.stop)) (.stop)) (.stop)) (.stop)) (.alt 16 true (.alt 14 true (.alt 17 true (.alt 18 true (.alt 19 false (.stop) (.stop)) (.stop)) (.stop)) (.stop)) (.stop))) (.alt 14 true (.alt 13 true (.alt 16 true (.alt 17 true (.alt 18 true (.alt 19 false (.stop) (.stop)) (.stop)) (.stop)) (.stop)) (.alt 16 true (.alt 13 true (.alt 17 true (.alt 18 true (.alt 19 false (.stop) (.stop)) (.stop)) (.stop)) (.stop)) (.stop))) (.alt 16 true (.alt 13 true (.alt 14 true (.alt 17 true (.alt 18 true (.alt 19 false (.stop) (.stop)) (.stop)) (.stop)) (.stop)) (.alt 14 true (.alt 13 true (.alt 17 true (.alt 18 true (.alt 19 false (.stop) (.stop)) (.stop)) (.stop)) (.stop)) (.stop))) (.stop)))) (.alt 14 true (.alt 9 true (.alt 13 true (.alt 16 true (.alt 17 true (.alt 18 true (.alt 19 false (.stop) (.stop)) (.stop)) (.stop)) (.stop)) (.alt 16 true (.alt 13 true (.alt 17 true (.alt 18 true (.alt 19 false (.stop) (.stop)) (.stop)) (.stop)) (.stop)) (.stop))) (.alt 16 true (.alt 9 true (.alt 13 true (.alt 17 true (.alt 18 true (.alt 19 false (.stop) (.stop)) (.stop)) (.stop)) (.stop)) (.stop)) (.stop))) (.alt 16 true (.alt 9 true (.alt 13 true (.alt 14 true (.alt 17 true (.alt 18 true (.alt 19 false (.stop) (.stop)) (.stop)) (.stop)) (.stop)) (.alt 14 true (.alt 13 true (.alt 17 true (.alt 18 true (.alt 19 false (.stop) (.stop)) (.stop)) (.stop)) (.stop)) (.stop))) (.alt 14 true (.alt 9 true (.alt 13 true (.alt 17 true (.alt 18 true (.alt 19 false (.stop) (.stop)) (.stop)) (.stop)) (.stop)) (.stop)) (.stop))) (.stop)))) (.alt 14 true (.alt 4 true (.alt 9 true (.alt 13 true (.alt 16 true (.alt 17 true (.alt 18 true (.alt 19 false (.stop) (.stop)) (.stop)) (.stop)) (.stop)) (.alt 16 true (.alt 13 true (.alt 17 true (.alt 18 true (.alt 19 false (.stop) (.stop)) (.stop)) (.stop)) (.stop)) (.stop))) (.alt 16 true (.alt 9 true (.alt 13 true (.alt 17 true (.alt 18 true (.alt 19 false (.stop) (.stop)) (.stop)) (.stop)) (.stop)) (.stop)) (.stop))) (.alt 16 true (.alt 4 true (.alt 9 true (.alt 13 true (.alt 17 true (.alt 18 true (.alt 19 false (.stop) (.stop)) (.stop)) (.stop)) (.stop)) (.stop)) (.stop)) (.stop))) (.alt 16 true (.alt 4 true (.alt 9 true (.alt 13 true (.alt 14 true (.alt 17 true (.alt 18 true (.alt 19 false (.stop) (.stop)) (.stop)) (.stop)) (.stop)) (.alt 14 true (.alt 13 true (.alt 17 true (.alt 18 true (.alt 19 false (.stop) (.stop)) (.stop)) (.stop)) (.stop)) (.stop))) (.alt 14 true (.alt 9 true (.alt 13 true (.alt 17 true (.alt 18 true (.alt 19 false (.stop) (.stop)) (.stop)) (.stop)) (.stop)) (.stop)) (.stop))) (.alt 14 true (.alt 4 true (.alt 9 true (.alt 13 true (.alt 17 true (.alt 18 true (.alt 19 false (.stop) (.stop)) (.stop)) (.stop)) (.stop)) (.stop)) (.stop)) (.stop))) (.stop)))) (.alt 16 true (.alt 4 true (.alt 9 true (.alt 13 true (.alt 14 true (.alt 15 true (.alt 17 true (.alt 18 true (.alt 19 false (.stop) (.stop)) (.stop)) (.stop)) (.stop)) (.alt 15 true (.alt 14 true (.alt 17 true (.alt 18 true (.alt 19 false (.stop) (.stop)) (.stop)) (.stop)) (.stop)) (.stop))) (.alt 14 true (.alt 13 true (.alt 15 true (.alt 17 true (.alt 18 true (.alt 19 false (.stop) (.stop)) (.stop)) (.stop)) (.stop)) (.alt 15 true (.alt 13 true (.alt 17 true (.alt 18 true (.alt 19 false (.stop) (.stop)) (.stop)) (.stop)) (.stop)) (.stop))) (.alt 15 true (.alt 13 true (.alt 14 true (.alt 17 true (.alt 18 true (.alt 19 false (.stop) (.stop)) (.stop)) (.stop)) (.stop)) (.alt 14 true (.alt 13 true (.alt 17 true (.alt 18 true (.alt 19 false (.stop) (.stop)) (.stop)) (.stop)) (.stop)) (.stop))) (.stop)))) (.alt 14 true (.alt 9 true (.alt 13 true (.alt 15 true (.alt 17 true (.alt 18 true (.alt 19 false (.stop) (.stop)) (.stop)) (.stop)) (.stop)) (.alt 15 true (.alt 13 true (.alt 17 true (.alt 18 true (.alt 19 false (.stop) (.stop)) (.stop)) (.stop)) (.stop)) (.stop))) (.alt 15 true (.alt 9 true (.alt 13 true (.alt 17 true (.alt 18 true (.alt 19 false (.stop) (.stop)) (.stop)) (.stop)) (.stop)) (.stop)) (.stop))) (.alt 15 true (.alt 9 true (.alt 13 true (.alt 14 true (.alt 17 true (.alt 18 true (.alt 19 false (.stop) (.stop)) (.stop)) (.stop)) (.stop)) (.alt 14 true (.alt 13 true (.alt 17 true (.alt 18 true (.alt 19 false (.stop) (.stop)) (.stop)) (.stop)) (.stop)) (.stop))) (.alt 14 true (.alt 9 true (.alt 13 true (.alt 17 true (.alt 18 true (.alt 19 false (.stop) (.stop)) (.stop)) (.stop)) (.stop)) (.stop)) (.stop))) (.stop)))) (.alt 14 true (.alt 4 true (.alt 9 true (.alt 13 true (.alt 15 true (.alt 17 true (.alt 18 true (.alt 19 false (.stop) (.stop)) (.stop)) (.stop)) (.stop)) (.alt 15 true (.alt 13 true (.alt 17 true (.alt 18 true (.alt 19 false (.stop) (.stop)) (.stop)) (.stop)) (.stop)) (.stop))) (.alt 15 true (.alt 9 true (.alt 13 true (.alt 17 true (.alt 18 true (.alt 19 false (.stop) (.stop)) (.stop)) (.stop)) (.stop)) (.stop)) (.stop))) (.alt 15 true (.alt 4 true (.alt 9 true (.alt 13 true (.alt 17 true (.alt 18 true (.alt 19 false (.stop) (.stop)) (.stop)) (.stop)) (.stop)) (.stop)) (.stop)) (.stop))) (.alt 15 true (.alt 4 true (.alt 9 true (.alt 13 true (.alt 14 true (.alt 17 true (.alt 18 true (.alt 19 false (.stop) (.stop)) (.stop)) (.stop)) (.stop)) (.alt 14 true (.alt 13 true (.alt 17 true (.alt 18 true (.alt 19 false (.stop) (.stop)) (.stop)) (.stop)) (.stop)) (.stop))) (.alt 14 true (.alt 9 true (.alt 13 true (.alt 17 true (.alt 18 true (.alt 19 false (.stop) (.stop)) (.stop)) (.stop)) (.stop)) (.stop)) (.stop))) (.alt 14 true (.alt 4 true (.alt 9 true (.alt 13 true (.alt 17 true (.alt 18 true (.alt 19 false (.stop) (.stop)) (.stop)) (.stop)) (.stop)) (.stop)) (.stop)) (.stop))) (.stop)))) (.stop))))) (by kernel_rfl) fun K2 hK2 => ?_
  have g : ∀ (L : Heap) (p4 p5 p6 : Nat), (∃ b4, hget L p4 = some (.cells (pl mi mi 3 0 4 1 (H.length + b4)) true 0) ∧ hget L b4 = some (.cells [.int .i64 1] true 0)) → (∃ b5, hget L p5 = some (.cells (pl mi mi 4 0 65535 2 (H.length + b5)) true 0) ∧ hget L b5 = some (.cells [.int .i64 2] true 0)) → (∃ b6, hget L p6 = some (.cells (pl mi mi 14 0 255 1 (H.length + b6)) true 0) ∧ hget L b6 = some (.cells [.int .i64 1] true 0)) →
      K2 ⟨[(0, .v (.pointer (some ⟨mi, 0, none⟩))), (4, .v (.pointer (some ⟨H.length + p4, 0, none⟩))), (5, .v (.pointer (some ⟨H.length + p5, 0, none⟩))), (6, .v (.pointer (some ⟨H.length + p6, 0, none⟩)))], H ++ L⟩ := by
    rintro L p4 p5 p6 ⟨b4, h4, hb4⟩ ⟨b5, h5, hb5⟩ ⟨b6, h6, hb6⟩
    refine hK2 _ ?_
    have hp4 := hget_lt h4
    have hp5 := hget_lt h5
    have hp6 := hget_lt h6
    have hA' : ∀ M, hget (H ++ M) mi = some (.cells A true ua) := fun M => hget_old hA M
    have e4 : ∀ M, hget (L ++ M) p4 = _ := fun M => hget_old h4 M
    have e5 : ∀ M, hget (L ++ M) p5 = _ := fun M => hget_old h5 M
    have e6 : ∀ M, hget (L ++ M) p6 = _ := fun M => hget_old h6 M
    have good : ∀ fs M p c cs, rpFs kd = some fs → cellsAt (L ++ M) p = some cs → FR (H ++ (L ++ M)) mi ni cs fs → R (.tuple #[.slice (some ⟨H.length + p, 0, none⟩) fs.length c, .bool true]) (H ++ (L ++ M)) := fun fs M p c cs e h1 h2 => hR _ _ (by rw [e]; exact ⟨_, rfl, p, c, cs, rfl, h1, h2⟩)
    have oS : sF.ok := by simp [sF, Fs.ok]
    have oE : eF.ok := by simp [eF, Fs.ok]
    have oW : wF.ok := by simp [wF, Fs.ok]
    have oC : cF.ok := by simp [cF, Fs.ok]
    have bW : ∀ M, ∃ u, hget (H ++ (L ++ M)) (H.length + b4) = some (.cells [.int .i64 wF.sz] true u) ∧ H.length + b4 ≠ mi ∧ H.length + b4 ≠ ni := fun M => ⟨0, by rw [hget_newk, hget_old hb4 M]; rfl, by omega, by omega⟩
    have bE : ∀ M, ∃ u, hget (H ++ (L ++ M)) (H.length + b5) = some (.cells [.int .i64 eF.sz] true u) ∧ H.length + b5 ≠ mi ∧ H.length + b5 ≠ ni := fun M => ⟨0, by rw [hget_newk, hget_old hb5 M]; rfl, by omega, by omega⟩
    have bC : ∀ M, ∃ u, hget (H ++ (L ++ M)) (H.length + b6) = some (.cells [.int .i64 cF.sz] true u) ∧ H.length + b6 ≠ mi ∧ H.length + b6 ≠ ni := fun M => ⟨0, by rw [hget_newk, hget_old hb6 M]; rfl, by omega, by omega⟩
    by_cases c133 : kd = 133
    · subst c133
      simp [hA', hk, h4, h5, h6, pl, zerosN_4]
      exact Ans.refl (good _ _ _ _ _ rfl ((cellsAt_at L _ 0).trans rfl) (FR.cons (H.length + b5) oE (fun _ => bE _) <| FR.nil))
    by_cases c134 : kd = 134
    · subst c134
      simp [hA', hk, h4, h5, h6, pl, zerosN_4]
      exact Ans.refl (good _ _ _ _ _ rfl ((cellsAt_at L _ 0).trans rfl) (FR.cons (H.length + b4) oW (fun _ => bW _) <| FR.cons (H.length + b5) oE (fun _ => bE _) <| FR.nil))
    by_cases c135 : kd = 135
    · subst c135
      simp [hA', hk, h4, h5, h6, pl, zerosN_4]
      exact Ans.refl (good _ _ _ _ _ rfl ((cellsAt_at L _ 0).trans rfl) (FR.cons (H.length + b4) oW (fun _ => bW _) <| FR.cons (H.length + b5) oE (fun _ => bE _) <| FR.nil))
    by_cases c136 : kd = 136
    · subst c136
      simp [hA', hk, h4, h5, h6, pl, zerosN_4]
      exact Ans.refl (good _ _ _ _ _ rfl ((cellsAt_at L _ 0).trans rfl) (FR.cons (H.length + b4) oW (fun _ => bW _) <| FR.cons (H.length + b6) oC (fun _ => bC _) <| FR.nil))
    by_cases c131 : kd = 131
    · subst c131
      simp [hA', hk, h4, h5, h6, pl, zerosN_4]
      refine CallK.of (seq_fn T mi 1 _) ?_
      rintro _ _ ⟨rfl, x, y, rfl⟩
      simp [pl, zerosN_4]
      exact Ans.refl (good _ _ _ _ _ rfl ((cellsAt_at L _ 3).trans rfl) (FR.cons (H.length + (L.length + 1)) oS (fun _ => ⟨0, by simp [sF], by omega, by omega⟩) <| FR.nil))
    by_cases c132 : kd = 132
    · subst c132
      simp [hA', hk, h4, h5, h6, pl, zerosN_4]
      refine cw_drawl T hm xm [2, 3] (.soft 0 false <| .soft 1 true <| .soft 2 false <| .soft 3 false <| .soft 5 true <| .alt 4 true (.alt 6 true (.soft 7 false <| .soft 8 false <| .stop) (.stop)) (.stop)) (by kernel_rfl) fun K3 hK3 => ?_
      simp [e4, e5, e6, h4, h5, h6, pl]
      refine CallK.of (seq_fn T mi 1 _) ?_
      rintro _ _ ⟨rfl, x, y, rfl⟩
      simp [e4, e5, e6, pl, zerosN_4]
      refine hK3 _ ?_
      simp
      exact Ans.refl (good _ _ _ _ _ rfl ((cellsAt_at L _ 3).trans rfl) (FR.cons (H.length + (L.length + 1)) oS (fun _ => ⟨0, by simp [sF], by omega, by omega⟩) <| FR.cons (H.length + b6) oC (fun _ => bC _) <| FR.nil))
    by_cases c130 : kd = 130
    · subst c130
      simp [hA', hk, h4, h5, h6, pl, zerosN_4]
      refine cw_drawl T hm xm [2, 3] (.soft 0 false <| .soft 1 true <| .soft 2 false <| .soft 3 false <| .soft 5 true <| .soft 6 true <| .alt 4 true (.alt 7 true (.soft 8 false <| .soft 9 false <| .stop) (.stop)) (.stop)) (by kernel_rfl) fun K3 hK3 => ?_
      simp [e4, e5, e6, h4, h5, h6, pl]
      refine CallK.of (one_fn T mi 2 3 _) ?_
      rintro _ _ ⟨rfl, x, y, rfl⟩
      simp [e4, e5, e6, pl, zerosN_4]
      refine hK3 _ ?_
      simp
      exact Ans.refl (good _ _ _ _ _ rfl ((cellsAt_at L _ 3).trans rfl) (FR.cons (H.length + (L.length + 1)) (by simp [Fs.ok]) (fun _ => ⟨0, by simp, by omega, by omega⟩) <| FR.cons (H.length + b4) oW (fun _ => bW _) <| FR.cons (H.length + b5) oE (fun _ => bE _) <| FR.nil))
    by_cases c129 : kd = 129
    · subst c129
      simp [hA', hk, h4, h5, h6, pl, zerosN_4]
      refine cw_soft 7 6 (a := none) (by simp) ?_
      simp
      refine W_forE T xm H (fun i (q : Nat) => [(0, .v (.pointer (some ⟨mi, 0, none⟩))), (7, .v (.slice (some ⟨H.length + q, 0, none⟩) i OPEN)), (30, .v (.int .i64 i))]) (fun i q M => ∃ cs, hget M q = some (grown cs 6) ∧ cs.length = i * 6 ∧ FR (H ++ M) mi ni cs (nFs i)) 8 ⟨L.length, _, ⟨[], (hget_at 0 (by simp)).trans rfl, by rfl, FR.nil⟩, by simp, rfl⟩ ?_
      clear good
      rintro i q M hi ⟨cs, h1, h2, h3⟩ K Q hK hQ
      have hq := hget_lt h1
      have hA2 : ∀ X, hget (H ++ X) mi = some (.cells A true ua) := fun X => hget_old hA X
      simp
      refine ⟨fun hc => ?_, fun hc => ?_⟩
      · refine ⟨hc, ?_⟩
        refine CallK.of (one_fn T mi (15 + i) 255 _) ?_
        rintro _ _ ⟨rfl, x, y, rfl⟩
        simp [pl, zerosN_4, hget_append hq, hq, h1, h2]
        refine ⟨⟨by omega, by omega⟩, by omega, hK _ _ (M.length + 4) (by omega) ⟨cs ++ Fs.cells mi ni (H.length + (M.length + 1)) (nF i), (hget_at 4 (by simp)).trans ?_, by simp [h2, Fs.cells]; omega, ?_⟩ (by simp) (by simp)⟩
        · simp [Fs.cells, nF, Nat.add_assoc]
        · rw [nFs_succ]
          refine FR.snoc _ (by simp [h2, nFs]) (FR.mono' (fun b n u hb => ?_) h3) (by simp [Fs.ok, nF]) (fun q => ?_)
          · by_cases hbl : b < H.length
            · rw [hget_append hbl, hget_append hbl]
            · obtain ⟨k, rfl⟩ : ∃ k, b = H.length + k := ⟨b - H.length, by omega⟩
              rw [hget_newk] at hb
              have hkq : k ≠ q := by
                rintro rfl
                rw [h1] at hb
                cases cs with
                | nil => simp [grown] at hb
                | cons c r =>
                  simp only [grown, Option.some.injEq, Blk.cells.injEq] at hb
                  have := congrArg List.length hb.1
                  simp only [List.length_cons, List.length_nil] at this h2
                  omega
              rw [hget_newk, hget_newk, hget_append (by simp; exact hget_lt hb), hget_set, if_neg (fun e => hkq e.1.symm)]
          · exact ⟨0, by simp [nF]; exact (hget_at 1 (by simp)).trans rfl, by omega, by omega⟩
      · have hi8 : i = 8 := by omega
        subst hi8
        refine hQ _ _ ?_
        simp
        refine Ans.refl (hR _ _ ⟨M, rfl, q, OPEN, cs, rfl, ?_, h3⟩)
        rw [cellsAt_eq, h1, cellsB_grown]
    have e0 : rpFs kd = none := by simp [rpFs, c129, c130, c131, c132, c133, c134, c135, c136]
    simp [hA', hk, c129, c130, c131, c132, c133, c134, c135, c136]
    exact Ans.refl (hR _ _ (by rw [e0]; exact ⟨L, rfl, rfl⟩))
  clear hK2
  simp
  repeat' (first | (refine CallK.of (one_fn T _ _ _ _) ?_; rintro _ _ ⟨rfl, x, y, rfl⟩; simp [pl]) | (refine CallK.of (epoch_fn T _ _ _) ?_; rintro _ _ ⟨rfl, z, w, rfl⟩; simp [pl]) | apply And.intro)
  all_goals simp only [Nat.add_assoc, Nat.reduceAdd]
  all_goals first | exact g _ _ _ _ ⟨_, rfl, rfl⟩ ⟨_, rfl, rfl⟩ ⟨_, rfl, rfl⟩ | exact g _ 0 _ _ ⟨_, rfl, rfl⟩ ⟨_, rfl, rfl⟩ ⟨_, rfl, rfl⟩ | exact g _ _ 0 _ ⟨_, rfl, rfl⟩ ⟨_, rfl, rfl⟩ ⟨_, rfl, rfl⟩ | exact g _ _ _ 0 ⟨_, rfl, rfl⟩ ⟨_, rfl, rfl⟩ ⟨_, rfl, rfl⟩
end Go.Proofs
