/- Changes of any kind: the contracts of apply, ChangeFits, ApplyChange, ReverseChange; the reference's ChangeFits. -/
import Derived.Test.YtlnldnenkajcdaaVc
set_option linter.unusedVariables false
set_option linter.unusedSimpArgs false
namespace Go.Proofs.Ytlnldnenkajcdaa
open Go.RowKit
def inB (s : ByteArray) (a c : Int) : Bool := place s a && inI c 0 (s.size - a)
def apX (s put : ByteArray) (a c : Int) : ByteArray := acX s put a.toNat (a + c).toNat
def fitB (s put : ByteArray) (a c : Int) : Bool := inB s a c && valid (apX s put a c).data.toList
theorem inB_nat {s : ByteArray} {a c : Int} (h : inB s a c = true) : ∃ p q : Nat, a = p ∧ c = (q : Int) - p ∧ p ≤ q ∧ q ≤ s.size ∧ valid s.data.toList = true ∧ ∀ put, apX s put a c = acX s put p q := by
  unfold inB at h
  rw [Bool.and_eq_true] at h
  obtain ⟨h1, h2⟩ := h
  obtain ⟨n, rfl, hn⟩ := place_nat h1
  have h3 : 0 ≤ c ∧ c ≤ (s.size : Int) - n := by simpa [inI] using h2
  refine ⟨n, (n + c).toNat, rfl, by omega, by omega, by omega, (placeS h1).1, fun put => ?_⟩
  unfold apX
  rw [Int.toNat_natCast]
theorem apply2_any (s put : ByteArray) (a c : Int) (w : World) (hs : s.size ≤ 200) (hput : put.size ≤ 2000000) :
    Calls Try.prog 37 #[.agg #[.int .i64 a, .int .i64 c, .string put], .string s] w fun e w' => e = .returned (.tuple #[.string (if inB s a c = true then apX s put a c else ⟨#[]⟩), .bool (fitB s put a c)]) ∧ Below w.heap.size w w' := by
  have hsm : s.size ≤ maxLen := by unfold maxLen; omega
  cases hb : inB s a c
  · have hf : fitB s put a c = false := by unfold fitB; rw [hb]; rfl
    rw [hf, if_neg (by simp)]
    have hpl := fun W => iPl_any s a W hsm
    cases hp : place s a
    · rw [hp] at hpl
      have HPL := Lib.hid hpl
      have HB := Lib.hid ((Below.refl w.heap.size w).alloc (Nat.le_refl _) (.cells #[.int .i64 a, .int .i64 c, .string put] 36))
      clear hpl
      go_enter Try.func37, Try.ntmps37
      go_wp2_with fail
      refine (HPL.out _).mono ?_
      rintro e w' ⟨rfl, rfl⟩
      go_wp2_with fail
      go_ret2
      exact ⟨rfl, HB.out⟩
    · obtain ⟨n, rfl, hn⟩ := place_nat hp
      have hin : inI c 0 ((s.size : Int) - n) = false := by unfold inB at hb; rw [hp] at hb; simpa using hb
      rw [hp] at hpl
      have hi2 := fun W => in_any c 0 ((s.size : Int) - n) W
      rw [hin] at hi2
      have HPL := Lib.hid hpl
      have HIN := Lib.hid hi2
      have HB := Lib.hid ((Below.refl w.heap.size w).alloc (Nat.le_refl _) (.cells #[.int .i64 n, .int .i64 c, .string put] 36))
      have x5 : IntKind.i64.wrap ((s.size : Int) - (n : Int)) = (s.size : Int) - (n : Int) := IntWalk.i64_in _ (by omega)
      clear hpl hi2
      go_enter Try.func37, Try.ntmps37
      go_wp2_with fail
      refine (HPL.out _).mono ?_
      rintro e w' ⟨rfl, rfl⟩
      go_wp2_with fail
      refine (HIN.out _).mono ?_
      rintro e w' ⟨rfl, rfl⟩
      go_wp2_with fail
      go_ret2
      exact ⟨rfl, HB.out⟩
  · obtain ⟨p, q, rfl, rfl, hpq, hqs, hv, hap⟩ := inB_nat hb
    have hf : fitB s put p ((q : Int) - p) = valid (acX s put p q).data.toList := by unfold fitB; rw [hb, hap]; rfl
    rw [hf, if_pos rfl, hap]
    exact apply_any s put p q w hs hput hv hpq hqs
theorem iCF_any (s put : ByteArray) (a c : Int) (w : World) (hs : s.size ≤ 200) (hput : put.size ≤ 2000000) :
    Calls Try.prog 32 #[.string s, .agg #[.int .i64 a, .int .i64 c, .string put]] w fun e w' => e = .returned (.bool (fitB s put a c)) ∧ Below w.heap.size w w' := by
  have hc := fun W => apply2_any s put a c W hs hput
  generalize (if inB s a c = true then apX s put a c else (⟨#[]⟩ : ByteArray)) = x at *
  generalize fitB s put a c = b at *
  have HC := Lib.hid hc
  clear hc
  go_enter Try.func32, Try.ntmps32
  go_wp2_with fail
  refine (HC.out _).mono ?_
  rintro e w' ⟨rfl, hb⟩
  have HB := Lib.hid hb
  clear hb
  go_wp2_with fail
  go_ret
  exact ⟨rfl, by first | exact HB.out | exact ((Below.refl w.heap.size w).alloc (Nat.le_refl _) _).trans (HB.out.mono (by simp))⟩
theorem iAC_any (s put : ByteArray) (a c : Int) (w : World) (hs : s.size ≤ 200) (hput : put.size ≤ 2000000) :
    Calls Try.prog 16 #[.string s, .agg #[.int .i64 a, .int .i64 c, .string put]] w fun e w' => e = .returned (.tuple #[.string (if valid s.data.toList = true then (if fitB s put a c = true then apX s put a c else s) else ⟨#[]⟩), .bool (fitB s put a c)]) ∧ Below w.heap.size w w' := by
  have hsm : s.size ≤ maxLen := by unfold maxLen; omega
  have hc := fun W => apply2_any s put a c W hs hput
  have hTV := fun W => iTV_any s W hsm
  cases hv : valid s.data.toList
  · have hf : fitB s put a c = false := by unfold fitB inB place; rw [hv]; rfl
    rw [hf, if_neg (by simp)]
    rw [hv] at hTV
    have HTV := Lib.hid hTV
    have HB := Lib.hid ((Below.refl w.heap.size w).alloc (Nat.le_refl _) (.cells #[.int .i64 a, .int .i64 c, .string put] 36))
    clear hc hTV
    go_enter Try.func16, Try.ntmps16
    go_wp2_with fail
    refine (HTV.out _).mono ?_
    rintro e w' ⟨rfl, rfl⟩
    go_wp2_with fail
    go_ret2
    exact ⟨rfl, by first | exact Below.refl _ _ | exact HB.out⟩
  · rw [hv] at hTV
    rw [if_pos rfl]
    cases hf : fitB s put a c
    · rw [hf] at hc
      rw [if_neg (by simp)]
      generalize (if inB s a c = true then apX s put a c else (⟨#[]⟩ : ByteArray)) = x at *
      have HC := Lib.hid hc
      have HTV := Lib.hid hTV
      clear hc hTV
      go_enter Try.func16, Try.ntmps16
      go_wp2_with fail
      refine (HTV.out _).mono ?_
      rintro e w' ⟨rfl, rfl⟩
      go_wp2_with fail
      refine (HC.out _).mono ?_
      rintro e w' ⟨rfl, hb⟩
      have HB := Lib.hid hb
      clear hb
      go_wp2_with fail
      go_ret2
      exact ⟨rfl, by first | exact HB.out | exact ((Below.refl w.heap.size w).alloc (Nat.le_refl _) _).trans (HB.out.mono (by simp))⟩
    · have hi : inB s a c = true := by unfold fitB at hf; rw [Bool.and_eq_true] at hf; exact hf.1
      rw [hf, if_pos hi] at hc
      rw [if_pos rfl]
      generalize apX s put a c = x at *
      have HC := Lib.hid hc
      have HTV := Lib.hid hTV
      clear hc hTV
      go_enter Try.func16, Try.ntmps16
      go_wp2_with fail
      refine (HTV.out _).mono ?_
      rintro e w' ⟨rfl, rfl⟩
      go_wp2_with fail
      refine (HC.out _).mono ?_
      rintro e w' ⟨rfl, hb⟩
      have HB := Lib.hid hb
      clear hb
      go_wp2_with fail
      go_ret2
      exact ⟨rfl, by first | exact HB.out | exact ((Below.refl w.heap.size w).alloc (Nat.le_refl _) _).trans (HB.out.mono (by simp))⟩
end Go.Proofs.Ytlnldnenkajcdaa
