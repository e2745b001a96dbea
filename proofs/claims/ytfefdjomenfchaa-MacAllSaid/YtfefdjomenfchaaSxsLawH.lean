/-
  Walks by Sx; no condition beyond those that stand in each statement.
-/
import Derived.Test.YtfefdjomenfchaaSxsRefD
import Derived.Test.YtfefdjomenfchaaSxsLawE
import Derived.Test.YtfefdjomenfchaaSxsLawD
import Derived.Test.YtfefdjomenfchaaSxAX
namespace Go.Proofs
open Go Go.Sx
set_option maxRecDepth 100000
attribute [local simp] xs setL_all
variable (T : TyOk Try.prog (tyOf Try.prog Try.eqs)) (hm : Try.prog.follows .mixedOrders = true)
include T hm
theorem law05_MacAll_fn (l k : List UInt8) (a b : Option Addr) (n m c d : Nat) (hn : l.length = n) (hmk : k.length = m) (H : Heap) (hr : Row H a n c (u8s l)) (hs : Row H b m d (u8s k)) :
    Sx.Fn Try.prog 10 [.slice a n c, .slice b m d] H fun r h => r = .bool true := by
  refine fn_w T xs Try.func10 rfl (by kernel_rfl) Try.results10 Try.ntmps10 (by simp) fun R hR => ?_
  have q1 := Row.first hr (min n 150) (by omega) hn
  have q2 := Row.first hs (min m 150) (by omega) hmk
  simp
  refine CallK.is (law05_shown_fn T hm _) ?_
  simp
  refine CallK.is (law05_few_fn T a n c _ _ hr) ?_
  simp
  refine CallK.is (law05_few_fn T b m d _ _ hs) ?_
  simp
  refine CallK.is (mac_Of_fn T hm (l.take (min n 150)) (min n 150) (by simp; omega) (by omega) (k.take (min m 150)) (min m 150) (by simp; omega) (by omega) _ a c q1 b d q2) ?_
  simp
  refine CallK.is (ref05_Of_fn T hm (l.take (min n 150)) (min n 150) (by simp; omega) (by omega) (k.take (min m 150)) (min m 150) (by simp; omega) (by omega) _ a c q1 b d q2) ?_
  simp
  have hml := macL_length (l.take (min n 150)) (k.take (min m 150))
  simp [flatEq_u8, hml]
  refine CallK.is (mac_Tag_fn T hm (l.take (min n 150)) (min n 150) (by simp; omega) (by omega) (k.take (min m 150)) (min m 150) (by simp; omega) (by omega) _ a c q1 b d q2) ?_
  simp
  refine CallK.is (ref05_Tag_fn T hm (l.take (min n 150)) (min n 150) (by simp; omega) (by omega) (k.take (min m 150)) (min m 150) (by simp; omega) (by omega) _ a c q1 b d q2) ?_
  simp
  simp [flatEq_u8, hml]
  exact Ans.refl (hR _ _ rfl)
theorem law04_ShaAll_fn (l : List UInt8) (a : Option Addr) (n c : Nat) (hn : l.length = n) (h0 : List UInt32) (hl : h0.length = 8) (b : List UInt8) (bl : b.length = 64) (H : Heap) (hr : Row H a n c (u8s l)) :
    Sx.Fn Try.prog 3 [.slice a n c, .agg (w32 h0).toArray, .agg (u8s b).toArray] H fun r h => r = .bool true := by
  refine fn_w T xs Try.func3 rfl (by kernel_rfl) Try.results3 Try.ntmps3 (by simp) fun R hR => ?_
  have q1 := Row.first hr (min n 300) (by omega) hn
  simp
  refine CallK.is (law04_shown_fn T hm _) ?_
  simp
  refine CallK.is (law04_few_fn T a n c _ _ (Row_mono hr _)) ?_
  simp
  refine cw_drawl T hm xs [6] (.soft 0 false <| .soft 1 false <| .soft 2 false <| .soft 4 false <| .alt 3 false (.alt 5 false (.soft 6 false <| .soft 7 false <| .soft 8 false <| .soft 9 false <| .soft 12 false <| .alt 10 false (.soft 11 true <| .alt 13 true (.soft 14 true <| .soft 15 false <| .soft 16 false <| .soft 17 false <| .soft 18 true <| .soft 19 true <| .soft 21 true <| .soft 22 true <| .alt 20 true (.alt 23 true (.soft 24 false <| .soft 25 false <| .soft 26 false <| .alt 27 true (.alt 28 true (.soft 29 false <| .soft 30 false <| .soft 31 false <| .stop) (.stop)) (.stop)) (.stop)) (.stop)) (.stop)) (.stop)) (.stop)) (.stop)) (by kernel_rfl) fun K hK => ?_
  simp
  have hb3 : min n 300 ≤ 300 := by omega
  have q1' := fun L => (Agree.rowOf (fun _ _ q => hget_old q L) q1 : rowOf 1 (H ++ L) (.slice a (min n 300) c) = some (u8s (l.take (min n 300))))
  have e1 : (l.take (min n 300)).length = min n 300 := by simp; omega
  generalize l.take (min n 300) = l' at *
  generalize min n 300 = n' at *
  refine CallK.is (sha_Sum_l T hm l' n' e1 (by omega) _ a c (q1' _)) ?_
  simp
  refine CallK.is (ref04_Sum_fn T hm l' n' e1 (by omega) _ a c (q1' _)) ?_
  simp [flatEq_u8, sumL_length]
  refine CallK.is (sha_Pad_l T l' n' e1 (by omega) _ a c (q1' _)) ?_
  simp
  refine CallK.of (ref04_Pad_fn T l' n' e1 (by omega) _ a c (by simp [q1'])) ?_
  rintro _ _ ⟨p, L, rfl, rfl, h1⟩
  simp [h1]
  have hbt : b.take 64 = b := List.take_of_length_le (by omega)
  have hht : h0.take 8 = h0 := List.take_of_length_le (by omega)
  have hpt : (u8s (padL l')).take (padL l').length = u8s (padL l') := List.take_of_length_le (by simp)
  simp [hl, bl, hbt, hht, hpt]
  refine CallK.is (sha_Block_fn T hm h0 hl b bl _) ?_
  simp [hl, bl, hbt, hht]
  refine CallK.is (ref04_Block_fn T hm h0 hl b bl _) ?_
  have hbl := blk_length h0 hl b
  simp [flatEq_w32, hbl]
  refine CallK.is (sha_Start_fn T hm _) ?_
  simp
  refine CallK.is (ref04_Start_fn T hm _) ?_
  simp [flatEq_w32]
  refine hK _ ?_
  simp
  exact Ans.refl (hR _ _ rfl)
omit T hm in
theorem macAll_law {h : Heap} {x0 x1 : Value} (t0 : TypV Try.prog h 4 22 x0) (t1 : TypV Try.prog h 4 22 x1) :
    Sx.Fn Try.prog 10 [x0, x1] h fun v _ => v = .bool true := by
  obtain ⟨l, a, c, rfl, hr⟩ := typ_bm t0
  obtain ⟨k, b, d, rfl, hs⟩ := typ_bm t1
  exact law05_MacAll_fn T_try Try.checked.mixed l k a b _ _ c d rfl rfl h hr hs
omit T hm in
theorem shaAll_law {h : Heap} {x0 x1 x2 : Value} (t0 : TypV Try.prog h 4 22 x0) (t1 : TypV Try.prog h 4 24 x1) (t2 : TypV Try.prog h 4 25 x2) :
    Sx.Fn Try.prog 3 [x0, x1, x2] h fun v _ => v = .bool true := by
  obtain ⟨l, a, c, rfl, hr⟩ := typ_bm t0
  obtain ⟨h0, hl, rfl⟩ := typV_w32 Try.underlying24 Try.underlying23 (by kernel_rfl) (by kernel_rfl) t1
  obtain ⟨b, bl, rfl⟩ := typV_u8s Try.underlying25 Try.underlying5 (by kernel_rfl) (by kernel_rfl) t2
  exact law04_ShaAll_fn T_try Try.checked.mixed l a _ c rfl h0 hl b bl h hr
end Go.Proofs
