/-
  Walks by Sx; no condition beyond those that stand in each statement.
-/
import Derived.Test.YtfefdjomenfchaaSxsChainC
import Derived.Test.YtfefdjomenfchaaChecked
namespace Go.Proofs
open Go Go.Sx
set_option maxRecDepth 100000
theorem typ_int {P : Program} {h : Heap} {f : Nat} {t : TypeId} {k : IntKind} {x : Value} (hu : P.underlying t = some (.int k)) (q : Typ P h (f + 1) t [x]) : ∃ n, x = .int k n ∧ (Lit.int k n).wf = true := by
  unfold Typ at q
  rw [hu] at q
  simpa using q
/-- A record's cells. -/
theorem typ_rec {h : Heap} {f : Nat} {cs : List Value} (q : Typ Try.prog h (f + 2) 43 cs) : ∃ r : Rc, cs = r.cells := by
  unfold Typ at q
  rw [Try.underlying43] at q
  simp only at q
  obtain ⟨hl, q⟩ := q
  have hc : Try.prog.cellsOf 43 = 6 := by kernel_rfl
  have c3 : Try.prog.cellsOf 3 = 1 := by kernel_rfl
  have c41 : Try.prog.cellsOf 41 = 1 := by kernel_rfl
  rw [hc] at hl
  match cs, hl with
  | [a, b, c, d, e, g], _ =>
    have h0 : Typ Try.prog h (f + 1) 3 ((([a, b, c, d, e, g] : List Value).drop 0).take (Try.prog.cellsOf 3)) := q 0 _ rfl
    rw [c3] at h0
    have h1 : Typ Try.prog h (f + 1) 3 ((([a, b, c, d, e, g] : List Value).drop 1).take (Try.prog.cellsOf 3)) := q 1 _ rfl
    rw [c3] at h1
    have h2 : Typ Try.prog h (f + 1) 3 ((([a, b, c, d, e, g] : List Value).drop 2).take (Try.prog.cellsOf 3)) := q 2 _ rfl
    rw [c3] at h2
    have h3 : Typ Try.prog h (f + 1) 3 ((([a, b, c, d, e, g] : List Value).drop 3).take (Try.prog.cellsOf 3)) := q 3 _ rfl
    rw [c3] at h3
    have h4 : Typ Try.prog h (f + 1) 41 ((([a, b, c, d, e, g] : List Value).drop 4).take (Try.prog.cellsOf 41)) := q 4 _ rfl
    rw [c41] at h4
    have h5 : Typ Try.prog h (f + 1) 3 ((([a, b, c, d, e, g] : List Value).drop 5).take (Try.prog.cellsOf 3)) := q 5 _ rfl
    rw [c3] at h5
    simp only [List.drop_succ_cons, List.drop_zero, List.take_succ_cons, List.take_zero] at h0 h1 h2 h3 h4 h5
    obtain ⟨n0, rfl, _⟩ := typ_int Try.underlying3 h0
    obtain ⟨n1, rfl, _⟩ := typ_int Try.underlying3 h1
    obtain ⟨n2, rfl, _⟩ := typ_int Try.underlying3 h2
    obtain ⟨n3, rfl, _⟩ := typ_int Try.underlying3 h3
    obtain ⟨n4, rfl, _⟩ := typ_int Try.underlying41 h4
    obtain ⟨n5, rfl, _⟩ := typ_int Try.underlying3 h5
    exact ⟨⟨n0, n1, n2, n3, n4, n5⟩, rfl⟩
/-- A record, as an argument. -/
theorem typ_rc {h : Heap} {x : Value} {f : Nat} (q : TypV Try.prog h (f + 2) 43 x) : ∃ r : Rc, x = .agg r.cells.toArray := by
  unfold TypV at q
  rw [Try.underlying43] at q
  simp only at q
  obtain ⟨cs, rfl, q⟩ := q
  obtain ⟨r, hr⟩ := typ_rec q
  exact ⟨r, by rw [← hr]⟩
theorem typ_byte {h : Heap} {x : Value} {f : Nat} (q : TypV Try.prog h (f + 1) 5 x) : ∃ n : Nat, x = .int .u8 n ∧ n < 256 := by
  unfold TypV at q
  rw [Try.underlying5] at q
  simp only at q
  obtain ⟨n, rfl, w⟩ := typ_int Try.underlying5 q
  simp only [Lit.wf, Bool.and_eq_true, decide_eq_true_eq, IntKind.min, IntKind.max, IntKind.bits, IntKind.signed] at w
  simp at w
  obtain ⟨v, rfl⟩ : ∃ v : Nat, n = v := ⟨n.toNat, by omega⟩
  exact ⟨v, rfl, by omega⟩
theorem chainBytes_law {h : Heap} {x0 x1 x2 : Value} (t0 : TypV Try.prog h 4 43 x0) (t1 : TypV Try.prog h 4 43 x1) (t2 : TypV Try.prog h 4 5 x2) :
    Sx.Fn Try.prog 7 [x0, x1, x2] h fun v _ => v = .bool true := by
  obtain ⟨a, rfl⟩ := typ_rc t0
  obtain ⟨b, rfl⟩ := typ_rc t1
  obtain ⟨n, rfl, hn⟩ := typ_byte t2
  exact (fn_plain (by simp only [List.all_cons, List.all_nil, Rc.plain, Bool.and_true]; rfl) rfl (law23_ChainBytes_fn T_try Try.checked.mixed a b n hn) (fun _ _ h => h) h).mono fun _ _ q => q.1
end Go.Proofs
