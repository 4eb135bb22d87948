/- The program's ApplyChange at a part of a valid text. -/
import Derived.Test.YtlnldnenkajcdaaMe
set_option linter.unusedVariables false
set_option linter.unusedSimpArgs false
namespace Go.Proofs.Ytlnldnenkajcdaa
open Go.RowKit
def acX (s put : ByteArray) (p q : Nat) : ByteArray := s.extract 0 p ++ put ++ s.extract q s.size
theorem apply_any (s put : ByteArray) (p q : Nat) (w : World) (hs : s.size ≤ 200) (hput : put.size ≤ 2000000) (hv : valid s.data.toList = true) (hpq : p ≤ q) (hq : q ≤ s.size) :
    Calls Try.prog 37 #[.agg #[.int .i64 p, .int .i64 ((q : Int) - p), .string put], .string s] w fun e w' => e = .returned (.tuple #[.string (acX s put p q), .bool (valid (acX s put p q).data.toList)]) ∧ Below w.heap.size w w' := by
  have hsm : s.size ≤ maxLen := by unfold maxLen; omega
  have hpl : (valid s.data.toList && inI (p : Int) 0 s.size) = true := by rw [hv]; unfold inI; simp; omega
  have hin : inI ((q : Int) - p) 0 (s.size - p) = true := by unfold inI; simp; omega
  have hxs : (acX s put p q).size ≤ maxLen := by
    unfold acX maxLen
    simp only [ByteArray.size_append, ByteArray.size_extract]
    omega
  obtain ⟨X, hX⟩ : ∃ X, X = acX s put p q := ⟨_, rfl⟩
  rw [← hX] at hxs ⊢
  have HX := Lib.hid hX
  clear hX hv
  go_enter Try.func37, Try.ntmps37
  go_wp2_with fail
  refine (isPlace_any s p _ hsm).mono ?_
  rintro e w' ⟨rfl, rfl⟩
  rw [hpl]
  go_wp2_with fail
  refine (in_any _ _ _ _).mono ?_
  rintro e w' ⟨rfl, rfl⟩
  rw [hin]
  go_wp2_with fail
  have hp0 : (0 : Int) ≤ (p : Int) := by omega
  have hp1 : (p : Int) ≤ (s.size : Int) := by omega
  have hpq2 : (p : Int) + ((q : Int) - (p : Int)) = (q : Int) := by omega
  have hq0 : (0 : Int) ≤ (q : Int) := by omega
  have hq1 : (q : Int) ≤ (s.size : Int) := by omega
  go_quiet (fail)
  have hxe : s.extract 0 p ++ put ++ s.extract q s.size = X := HX.out.symm
  rw [hxe]
  have hb := ((Below.refl w.heap.size w).alloc (Nat.le_refl _) (.cells #[.int .i64 p, .int .i64 ((q : Int) - p), .string put] 36))
  go_wp2_with fail
  refine (iTV_any _ _ hxs).mono ?_
  rintro e w' ⟨rfl, rfl⟩
  have hfin := below_drewN hb nq
  go_wp2_with fail
  go_ret2
  exact ⟨rfl, hfin⟩
theorem applyChange_any (s put : ByteArray) (p q : Nat) (w : World) (hs : s.size ≤ 200) (hput : put.size ≤ 2000000) (hv : valid s.data.toList = true) (hpq : p ≤ q) (hq : q ≤ s.size) (hx : valid (acX s put p q).data.toList = true) :
    Calls Try.prog 16 #[.string s, .agg #[.int .i64 p, .int .i64 ((q : Int) - p), .string put]] w fun e w' => e = .returned (.tuple #[.string (acX s put p q), .bool true]) ∧ Below w.heap.size w w' := by
  have hsm : s.size ≤ maxLen := by unfold maxLen; omega
  have hc := fun W => apply_any s put p q W hs hput hv hpq hq
  rw [hx] at hc
  generalize acX s put p q = X at *
  have HC := Lib.hid hc
  clear hc hx
  go_enter Try.func16, Try.ntmps16
  go_wp2_with fail
  refine (iTV_any _ _ hsm).mono ?_
  rintro e w' ⟨rfl, rfl⟩
  rw [hv]
  go_wp2_with fail
  refine (HC.out _).mono ?_
  rintro e W2 ⟨rfl, hb2⟩
  have hfin := ((Below.refl w.heap.size w).alloc (Nat.le_refl _) (.cells #[.int .i64 p, .int .i64 ((q : Int) - p), .string put] 36)).trans (hb2.mono (by simp))
  go_wp2_with fail
  go_ret2
  exact ⟨rfl, hfin⟩
end Go.Proofs.Ytlnldnenkajcdaa
