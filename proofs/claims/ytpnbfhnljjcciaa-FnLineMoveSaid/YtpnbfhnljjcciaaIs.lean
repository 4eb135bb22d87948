/- The laws' helpers on slices of numbers: eqIntS, markIntS, heldIntS. -/
import Derived.Test.YtpnbfhnljjcciaaPl
set_option linter.unusedVariables false
set_option linter.unusedSimpArgs false
namespace Go.Proofs.Ytpnbfhnljjcciaa
open Go.RowKit

/-- The n numbers from k on. -/
def iota (k : Int) : Nat → List Int
  | 0 => []
  | n + 1 => k :: iota (k + 1) n
theorem iota_len (k : Int) : ∀ n, (iota k n).length = n
  | 0 => rfl
  | n + 1 => by simp [iota, iota_len (k + 1) n]
theorem iota_get (k : Int) : ∀ (n j : Nat), j < n → (iota k n)[j]? = some (k + j)
  | 0, j, h => absurd h (by omega)
  | n + 1, 0, _ => by simp [iota]
  | n + 1, j + 1, h => by
    simp only [iota, List.getElem?_cons_succ]
    rw [iota_get (k + 1) n j (by omega)]
    congr 1; omega
theorem Row.ints_at {w : World} {B : Nat} {A : Option Addr} {xs : List Int} (h : Row w B A (ints xs)) {j : Nat} (hj : j < xs.length) : ∃ b o, A = some ⟨b, o, none⟩ ∧ b < B ∧ w.cell? ⟨b, o + j, none⟩ = some (.int .i64 xs[j]) :=
  h j (.int .i64 xs[j]) (by simp [ints, hj])

theorem sameInts_same (A C : Option Addr) (n m c d : Nat) (xs : List Int) (w : World) (h1 : Row w w.heap.size A (ints xs)) (h2 : Row w w.heap.size C (ints xs)) (hn : xs.length = n) (hm : xs.length = m) (hmax : n ≤ 3000000) :
    Calls Try.prog 20 #[.slice A n c, .slice C m d] w fun e w' => e = .returned (.bool true) ∧ ∃ q, w' = w.drewN q := by
  obtain rfl : n = m := by omega
  go_enter Try.func20, Try.ntmps20
  go_wp2_with fail
  go_loopw [5] (fun i wr => ∃ k : Nat, k ≤ n ∧ i = .int .i64 k ∧ ∃ q, wr = w.drewN q) (fun i _ => n - (intOf i).toNat)
  case atStart => exact ⟨0, Nat.zero_le _, rfl, 0, rfl⟩
  case round =>
    obtain ⟨k, hk, rfl, q, rfl⟩ := hrel
    by_cases hkn : k < n
    · obtain ⟨b, o, rfl, hb, hc1⟩ := h1.ints_at (j := k) (by omega)
      obtain ⟨b', o', rfl, hb', hc2⟩ := h2.ints_at (j := k) (by omega)
      generalize xs[k]'(by omega) = x at hc1 hc2
      have hk' : (k : Int) < (n : Int) := by omega
      have hk0 : (0 : Int) ≤ (k : Int) := by omega
      go_wp2_with fail
      go_quiet (fail)
      go_wp2_with fail
      go_roundw
      case rel => exact ⟨k + 1, by omega, by go_num, _, rfl⟩
      case measure => (simp [intOf] <;> omega)
    · go_wp2_with fail
      go_ret
      exact ⟨rfl, q, rfl⟩
end Go.Proofs.Ytpnbfhnljjcciaa
