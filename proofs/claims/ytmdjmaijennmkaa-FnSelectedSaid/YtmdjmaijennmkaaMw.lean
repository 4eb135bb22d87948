/- markCursorS writes into its own row alone. -/
import Derived.Test.YtmdjmaijennmkaaTc
import Derived.Test.YtmdjmaijennmkaaMk
set_option linter.unusedVariables false
set_option linter.unusedSimpArgs false
namespace Go.Proofs.Ytmdjmaijennmkaa
open Go.RowKit
theorem grown_below {w w' : World} {row : Option Nat} {B : Nat} (h : w.grownBy w' row) (hB : B ≤ w.heap.size) (hr : ∀ k, row = some k → B ≤ k) : Below B w w' := (Below.refl B w).grown h hB hr
theorem below_on {a W W' : World} (h : Below a.heap.size a W) (h' : Below W.heap.size W W') : Below a.heap.size a W' := h.trans (h'.mono h.size)
theorem row_on {a W : World} {A : Option Addr} {xs : List Value} (h : Row a a.heap.size A xs) (hb : Below a.heap.size a W) : Row W W.heap.size A xs := (h.below hb).more hb.size
theorem drewN_on (W : World) (q : Nat) : Below W.heap.size W (W.drewN q) := below_drewN (Below.refl _ _) q
theorem mark_rel3 {n c B g k : Nat} {ys : List (Int × Int)} {k0 : Int} {w wr : World} {r : Option Nat}
    (hs : ((wr.setCell ⟨g, k * 2, none⟩ (.int .i64 (k0 + 2 * k))).setCell ⟨g, k * 2 + 1, none⟩ (.int .i64 (k0 + 2 * k + 1))).ownsRow B 44 2 (.slice (some ⟨g, 0, none⟩) n c) n (pairs (ys.set k (k0 + 2 * k, k0 + 2 * k + 1))))
    (hb : w.grownBy wr r) (hr : r = some g) (hy : ∀ j, j < k → ys[j]? = some (k0 + 2 * j, k0 + 2 * j + 1)) (hk : k < n) (hyl : ys.length = n) :
    ∃ (k' : Nat) (ys' : List (Int × Int)), k' ≤ n ∧ Value.int .i64 ((k : Int) + 1) = .int .i64 k' ∧ Value.int .i64 (k0 + 2 * k + 1 + 1) = .int .i64 (k0 + 2 * k') ∧
      ((wr.setCell ⟨g, k * 2, none⟩ (.int .i64 (k0 + 2 * k))).setCell ⟨g, k * 2 + 1, none⟩ (.int .i64 (k0 + 2 * k + 1))).ownsRow B 44 2 (.slice (some ⟨g, 0, none⟩) n c) n (pairs ys') ∧ (∀ j, j < k' → ys'[j]? = some (k0 + 2 * j, k0 + 2 * j + 1)) ∧
      w.grownBy ((wr.setCell ⟨g, k * 2, none⟩ (.int .i64 (k0 + 2 * k))).setCell ⟨g, k * 2 + 1, none⟩ (.int .i64 (k0 + 2 * k + 1))) r := by
  subst hr
  refine ⟨k + 1, ys.set k (k0 + 2 * k, k0 + 2 * k + 1), by omega, by go_num, by congr 1; omega, hs, ?_, ?_⟩
  · intro j hj
    rcases Nat.lt_or_ge j k with h | h
    · rw [List.getElem?_set_ne (by omega)]; exact hy j h
    · obtain rfl : j = k := by omega
      rw [List.getElem?_set_self (by omega)]
  · exact (Beside.set (Beside.set hb (p := ⟨g, k * 2, none⟩) (.inl rfl) _) (p := ⟨g, k * 2 + 1, none⟩) (.inl rfl) _)
theorem markCursorS_only (A : Option Addr) (n c B : Nat) (xs : List (Int × Int)) (k0 : Int) (w : World) (h : w.ownsRow B 44 2 (.slice A n c) n (pairs xs)) (hn : n ≤ 3000000) (h0 : 0 ≤ k0) (h1 : k0 ≤ 3000000) :
    Calls Try.prog 22 #[.slice A n c, .int .i64 k0] w fun e w' => e = .returned (.int .i64 (k0 + 2 * n)) ∧ (w'.ownsRow B 44 2 (.slice A n c) n (pairs (iota2 k0 n)) ∧ w.grownBy w' (Value.slice A n c).ownBlock) := by
  obtain ⟨r, hr⟩ : ∃ r, (Value.slice A n c).ownBlock = r := ⟨_, rfl⟩
  have HR := Lib.hid hr
  rw [hr]
  clear hr
  go_enter Try.func22, Try.ntmps22
  go_wp2_with fail
  go_loopw [1, 5] (fun kv i wr => ∃ (k : Nat) (ys : List (Int × Int)), k ≤ n ∧ i = .int .i64 k ∧ kv = .int .i64 (k0 + 2 * k) ∧ wr.ownsRow B 44 2 (.slice A n c) n (pairs ys) ∧ (∀ j, j < k → ys[j]? = some (k0 + 2 * j, k0 + 2 * j + 1)) ∧ w.grownBy wr r) (fun _ i _ => n - (intOf i).toNat)
  case atStart => exact ⟨0, xs, Nat.zero_le _, rfl, by simp, h, fun j hj => by omega, World.grownBy.refl _ _⟩
  case round =>
    obtain ⟨k, ys, hk, rfl, rfl, hown, hys, hb⟩ := hrel
    have hyl : ys.length = n := by have := hown.1; rw [pairs_len] at this; omega
    have HY := Lib.hid hys
    clear hys
    by_cases hkn : k < n
    · obtain ⟨g, cap, hv, hg, hgl⟩ := hown.form (by omega)
      injection hv with hA _ hcap
      subst hA
      subst hcap
      obtain ⟨g1, g2⟩ := pairs_get ys k (by omega)
      obtain ⟨y, hcell⟩ : ∃ y, wr.cell? ⟨g, k * 2, none⟩ = some (.int .i64 y) := ⟨_, (hown.cellAt (k * 2) (by omega)).trans g1⟩
      obtain ⟨z, hcell2⟩ : ∃ z, wr.cell? ⟨g, k * 2 + 1, none⟩ = some (.int .i64 z) := ⟨_, (hown.cellAt (k * 2 + 1) (by omega)).trans g2⟩
      have hfz := hown.frozenAt (k * 2)
      have hfz2 := hown.frozenAt (k * 2 + 1)
      have hst := two_stores hown (k := k) (by omega) (k0 + 2 * k) (k0 + 2 * k + 1)
      have hk' : (k : Int) < (n : Int) := by omega
      have hk0 : (0 : Int) ≤ (k : Int) := by omega
      have HT := Lib.hid (And.intro hst (And.intro hb hyl))
      clear hst hyl g1 g2 hown hb
      go_wp2_with fail
      go_roundw
      case rel => exact mark_rel3 (k0 := k0) HT.out.1 HT.out.2.1 HR.out.symm HY.out hkn HT.out.2.2
      case measure => (simp [intOf] <;> omega)
    · obtain rfl : k = n := by omega
      have he : ys = iota2 k0 k := by
        apply List.ext_getElem?
        intro j
        rcases Nat.lt_or_ge j k with hj | hj
        · rw [HY.out j hj, iota2_get k0 k j hj]
        · rw [List.getElem?_eq_none (by omega), List.getElem?_eq_none (by rw [iota2_len]; omega)]
      have HO := Lib.hid (And.intro hown hb)
      rw [he] at HO
      clear hown he hb
      go_wp2_with fail
      go_ret
      exact ⟨rfl, HO.out⟩
end Go.Proofs.Ytmdjmaijennmkaa
