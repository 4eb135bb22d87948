/- Lists of cursors that are compared; the law on EraseAll, walked. -/
import Derived.Test.YtmdjmaijennmkaaDj
import Derived.Test.YtmdjmaijennmkaaTs
set_option linter.unusedVariables false
set_option linter.unusedSimpArgs false
namespace Go.Proofs.Ytmdjmaijennmkaa
open Go.RowKit
theorem sameCursors_same (A C : Option Addr) (n m c d : Nat) (ps : List (Int × Int)) (w : World) (h1 : Row w w.heap.size A (pairs ps)) (h2 : Row w w.heap.size C (pairs ps)) (hn : ps.length = n) (hm : ps.length = m) (hmax : n ≤ 3000000) :
    Calls Try.prog 37 #[.slice A n c, .slice C m d] w fun e w' => e = .returned (.bool true) ∧ ∃ q, w' = w.drewN q := by
  obtain rfl : n = m := by omega
  go_enter Try.func37, Try.ntmps37
  go_wp2_with fail
  go_loopw [5] (fun i wr => ∃ k : Nat, k ≤ n ∧ i = .int .i64 k ∧ ∃ q, wr = w.drewN q) (fun i _ => n - (intOf i).toNat)
  case atStart => exact ⟨0, Nat.zero_le _, rfl, 0, rfl⟩
  case round =>
    obtain ⟨k, hk, rfl, q, rfl⟩ := hrel
    by_cases hkn : k < n
    · have hkl : k < ps.length := by omega
      obtain ⟨b, o, rfl, hb, hc1, hd1⟩ := h1.pair (j := k) hkl
      obtain ⟨b', o', rfl, hb', hc2, hd2⟩ := h2.pair (j := k) hkl
      generalize (ps[k]'hkl).1 = x at hc1 hc2
      generalize (ps[k]'hkl).2 = y at hd1 hd2
      have hk' : (k : Int) < (n : Int) := by omega
      have hk0 : (0 : Int) ≤ (k : Int) := by omega
      go_wp2_with fail
      go_quiet (fail)
      go_wp2_with fail
      go_roundw
      case rel => exact ⟨k + 1, by omega, by go_num, _, rfl⟩
      case measure => (simp [intOf] <;> omega)
    · go_wp2_with fail
      go_ret
      exact ⟨rfl, q, rfl⟩
end Go.Proofs.Ytmdjmaijennmkaa
