/- The laws' own helpers: placeOk, alive; LineMany. -/
import Derived.Test.YtlnldnenkajcdaaWa
import Derived.Test.YtlnldnenkajcdaaSh
set_option linter.unusedVariables false
set_option linter.unusedSimpArgs false
namespace Go.Proofs.Ytlnldnenkajcdaa
open Go.RowKit
def plOk (s : ByteArray) (p : Int) : Bool := place s p
/-- The number of line ends. -/
def nls (l : List UInt8) : Nat := Lib.countByte l 10
theorem nls_le (l : List UInt8) : nls l ≤ l.length := List.count_le_length
def lmI (s : ByteArray) : Int := if valid s.data.toList = true then 1 + (nls s.data.toList : Int) else -1
theorem count_nl (s : ByteArray) (w : World) : Calls Try.prog 53 #[.string s, .string ⟨#[10]⟩] w fun e w' => e = .returned (.int .i64 (nls s.data.toList)) ∧ w = w' :=
  (Try.strings_Count_one s 10 w).mono fun _ _ h => ⟨h.1, h.2.symm⟩
theorem iLM_any (s : ByteArray) (w : World) (hs : s.size ≤ maxLen) :
    Calls Try.prog 38 #[.string s] w fun e w' => e = .returned (.int .i64 (lmI s)) ∧ w = w' := by
  have hs' := hs
  unfold maxLen at hs'
  by_cases hv : valid s.data.toList = true
  · go_enter Try.func38, Try.ntmps38
    go_wp2_with (go_at_call 36; refine (iTV_any _ _ hs).mono ?_; rintro e w' ⟨rfl, rfl⟩)
    have hl := nls_le s.data.toList
    have h2 := valid_size hv
    rw [Array.length_toList] at hl
    have hl2 : nls s.data.toList ≤ s.size := hl
    have HE : Hid (lmI s = 1 + (nls s.data.toList : Int)) := Lib.hid (by unfold lmI; rw [if_pos hv])
    go_wp2_with fail
    refine (count_nl s _).mono ?_
    rintro e w' ⟨rfl, rfl⟩
    go_wp2
    go_ret
    exact ⟨ret_int HE.out.symm, rfl⟩
  · have hv' : valid s.data.toList = false := by simpa using hv
    have HE : Hid (lmI s = -1) := Lib.hid (by unfold lmI; rw [if_neg hv])
    clear hv
    go_enter Try.func38, Try.ntmps38
    go_wp2_with (go_at_call 36; refine (iTV_any _ _ hs).mono ?_; rintro e w' ⟨rfl, rfl⟩)
    go_ret
    exact ⟨ret_int HE.out.symm, rfl⟩
theorem alive_any (w : World) : Calls Try.prog 18 #[] w fun e w' => e = .returned (.bool true) ∧ w = w' := by
  have h : lmI ⟨#[97, 10, 98]⟩ = 2 := by decide +kernel
  go_enter Try.func18, Try.ntmps18
  go_wp2_with (go_at_call 38; refine (iLM_any _ _ (by decide)).mono ?_; rintro e w' ⟨rfl, rfl⟩)
  go_ret
  exact ⟨rfl, rfl⟩
end Go.Proofs.Ytlnldnenkajcdaa
