/- The laws' helpers on slices of numbers: eqIntS, markIntS, heldIntS. -/
import Derived.Test.YtibkcocaipbffaaPl
namespace Go.Proofs.Ytibkcocaipbffaa
open Go.RowKit

/-- The n numbers from k on. -/
def iota (k : Int) : Nat → List Int
  | 0 => []
  | n + 1 => k :: iota (k + 1) n
theorem iota_len (k : Int) : ∀ n, (iota k n).length = n
  | 0 => rfl
  | n + 1 => by simp [iota, iota_len (k + 1) n]
theorem iota_get (k : Int) : ∀ (n j : Nat), j < n → (iota k n)[j]? = some (k + j)
  | 0, j, h => absurd h (by omega)
  | n + 1, 0, _ => by simp [iota]
  | n + 1, j + 1, h => by
    simp only [iota, List.getElem?_cons_succ]
    rw [iota_get (k + 1) n j (by omega)]
    congr 1; omega
theorem Row.ints_at {w : World} {B : Nat} {A : Option Addr} {xs : List Int} (h : Row w B A (ints xs)) {j : Nat} (hj : j < xs.length) : ∃ b o, A = some ⟨b, o, none⟩ ∧ b < B ∧ w.cell? ⟨b, o + j, none⟩ = some (.int .i64 xs[j]) :=
  h j (.int .i64 xs[j]) (by simp [ints, hj])

theorem eqIntS_same (A C : Option Addr) (n m c d : Nat) (xs : List Int) (w : World) (h1 : Row w w.heap.size A (ints xs)) (h2 : Row w w.heap.size C (ints xs)) (hn : xs.length = n) (hm : xs.length = m) (hmax : n ≤ 3000000) :
    Calls Try.prog 34 #[.slice A n c, .slice C m d] w fun e w' => e = .returned (.bool true) ∧ ∃ q, w' = w.drewN q := by
  obtain rfl : n = m := by omega
  go_enter Try.func34, Try.ntmps34
  go_wp2_with fail
  go_loopw [5] (fun i wr => ∃ k : Nat, k ≤ n ∧ i = .int .i64 k ∧ ∃ q, wr = w.drewN q) (fun i _ => n - (intOf i).toNat)
  case atStart => exact ⟨0, Nat.zero_le _, rfl, 0, rfl⟩
  case round =>
    obtain ⟨k, hk, rfl, q, rfl⟩ := hrel
    by_cases hkn : k < n
    · obtain ⟨b, o, rfl, hb, hc1⟩ := h1.ints_at (j := k) (by omega)
      obtain ⟨b', o', rfl, hb', hc2⟩ := h2.ints_at (j := k) (by omega)
      generalize xs[k]'(by omega) = x at hc1 hc2
      have hk' : (k : Int) < (n : Int) := by omega
      have hk0 : (0 : Int) ≤ (k : Int) := by omega
      go_wp2_with fail
      go_quiet (fail)
      go_wp2_with fail
      go_roundw
      case rel => exact ⟨k + 1, by omega, by go_num, _, rfl⟩
      case measure => (simp [intOf] <;> omega)
    · go_wp2_with fail
      go_ret
      exact ⟨rfl, q, rfl⟩
theorem mark_rel {n c B g k : Nat} {ys : List Int} {k0 : Int} {w wr : World}
    (hs : (wr.setCell ⟨g, k, none⟩ (.int .i64 (k0 + k))).ownsRow B 3 1 (.slice (some ⟨g, 0, none⟩) n c) n ((ints ys).set k (.int .i64 (k0 + k))) ∧ wr.grownBy (wr.setCell ⟨g, k, none⟩ (.int .i64 (k0 + k))) (some g))
    (hb : Below B w wr) (hy : ∀ j, j < k → ys[j]? = some (k0 + j)) (hz : wr.heap.size = w.heap.size) (hk : k < n) (hg : B ≤ g) (hyl : ys.length = n) :
    ∃ (k' : Nat) (ys' : List Int), k' ≤ n ∧ Value.int .i64 ((k : Int) + 1) = .int .i64 k' ∧ Value.int .i64 (k0 + k + 1) = .int .i64 (k0 + k') ∧
      (wr.setCell ⟨g, k, none⟩ (.int .i64 (k0 + k))).ownsRow B 3 1 (.slice (some ⟨g, 0, none⟩) n c) n (ints ys') ∧ (∀ j, j < k' → ys'[j]? = some (k0 + j)) ∧ Below B w (wr.setCell ⟨g, k, none⟩ (.int .i64 (k0 + k))) ∧
      (wr.setCell ⟨g, k, none⟩ (.int .i64 (k0 + k))).heap.size = w.heap.size := by
  refine ⟨k + 1, ys.set k (k0 + k), by omega, by go_num, by congr 1; omega, ?_, ?_, hb.setCell (p := ⟨g, k, none⟩) hg _, by simpa [World.setCell] using hz⟩
  · have : ints (ys.set k (k0 + k)) = (ints ys).set k (.int .i64 (k0 + k)) := by simp [ints, List.map_set]
    rw [this]; exact hs.1
  · intro j hj
    rcases Nat.lt_or_ge j k with h | h
    · rw [List.getElem?_set_ne (by omega)]; exact hy j h
    · obtain rfl : j = k := by omega
      rw [List.getElem?_set_self (by omega)]
theorem markIntS_any (A : Option Addr) (n c B : Nat) (xs : List Int) (k0 : Int) (w : World) (h : w.ownsRow B 3 1 (.slice A n c) n (ints xs)) (hn : n ≤ 3000000) (h0 : 0 ≤ k0) (h1 : k0 ≤ 3000000) :
    Calls Try.prog 35 #[.slice A n c, .int .i64 k0] w fun e w' => e = .returned (.int .i64 (k0 + n)) ∧ (w'.ownsRow B 3 1 (.slice A n c) n (ints (iota k0 n)) ∧ Below B w w' ∧ w'.heap.size = w.heap.size) := by
  have hlen : xs.length = n := by have := h.1; rw [ints_len] at this; omega
  go_enter Try.func35, Try.ntmps35
  go_wp2_with fail
  go_loopw [1, 5] (fun kv i wr => ∃ (k : Nat) (ys : List Int), k ≤ n ∧ i = .int .i64 k ∧ kv = .int .i64 (k0 + k) ∧ wr.ownsRow B 3 1 (.slice A n c) n (ints ys) ∧ (∀ j, j < k → ys[j]? = some (k0 + j)) ∧ Below B w wr ∧ wr.heap.size = w.heap.size) (fun _ i _ => n - (intOf i).toNat)
  case atStart => exact ⟨0, xs, Nat.zero_le _, rfl, by simp, h, fun j hj => by omega, Below.refl _ _, rfl⟩
  case round =>
    obtain ⟨k, ys, hk, rfl, rfl, hown, hys, hb, hsz⟩ := hrel
    have hyl : ys.length = n := by have := hown.1; rw [ints_len] at this; omega
    have HY := Lib.hid hys
    have HS := Lib.hid hsz
    clear hys hsz
    by_cases hkn : k < n
    · obtain ⟨g, cap, hv, hg, hgl⟩ := hown.form (by omega)
      injection hv with hA _ hcap
      subst hA
      subst hcap
      obtain ⟨y, hcell⟩ : ∃ y, wr.cell? ⟨g, k, none⟩ = some (.int .i64 y) := ⟨_, (hown.cellAt k (by omega)).trans (show (ints ys)[k]? = some (.int .i64 (ys[k]'(by omega))) by simp [ints, show k < ys.length by omega])⟩
      have hfz := hown.frozenAt k
      have hst := hown.stored k (.int .i64 (k0 + k))
      have hk' : (k : Int) < (n : Int) := by omega
      have HT := Lib.hid hst
      have HL := Lib.hid hyl
      clear hst hyl
      go_wp2_with fail
      go_roundw
      case rel => exact mark_rel (k0 := k0) HT.out hb HY.out HS.out hkn hg HL.out
      case measure => (simp [intOf] <;> omega)
    · obtain rfl : k = n := by omega
      have he : ys = iota k0 k := by
        apply List.ext_getElem?
        intro j
        rcases Nat.lt_or_ge j k with hj | hj
        · rw [HY.out j hj, iota_get k0 k j hj]
        · rw [List.getElem?_eq_none (by omega), List.getElem?_eq_none (by rw [iota_len]; omega)]
      have HO := Lib.hid hown
      rw [he] at HO
      have HS' := HS
      clear hown he
      go_wp2_with fail
      go_ret
      exact ⟨rfl, HO.out, hb, HS'.out⟩
theorem heldIntS_any (A : Option Addr) (n c : Nat) (k0 : Int) (w : World) (h : Row w w.heap.size A (ints (iota k0 n))) (hn : n ≤ 3000000) (h0 : 0 ≤ k0) (h1 : k0 ≤ 3000000) :
    Calls Try.prog 36 #[.slice A n c, .int .i64 k0] w fun e w' => e = .returned (.int .i64 (k0 + n)) ∧ ∃ q, w' = w.drewN q := by
  go_enter Try.func36, Try.ntmps36
  go_wp2_with fail
  go_loopw [1, 5] (fun kv i wr => ∃ k : Nat, k ≤ n ∧ i = .int .i64 k ∧ kv = .int .i64 (k0 + k) ∧ ∃ q, wr = w.drewN q) (fun _ i _ => n - (intOf i).toNat)
  case atStart => exact ⟨0, Nat.zero_le _, rfl, by simp, 0, rfl⟩
  case round =>
    obtain ⟨k, hk, rfl, rfl, q, rfl⟩ := hrel
    by_cases hkn : k < n
    · obtain ⟨b, o, rfl, hb, hc⟩ := h k (.int .i64 (k0 + k)) (by simp [ints, iota_get k0 n k hkn])
      have hk' : (k : Int) < (n : Int) := by omega
      have hk0 : (0 : Int) ≤ (k : Int) := by omega
      go_wp2_with fail
      go_roundw
      case rel => exact ⟨k + 1, by omega, by go_num, by congr 1; omega, q, rfl⟩
      case measure => (simp [intOf] <;> omega)
    · obtain rfl : k = n := by omega
      go_wp2_with fail
      go_ret
      exact ⟨rfl, q, rfl⟩
end Go.Proofs.Ytibkcocaipbffaa
