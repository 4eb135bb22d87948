/- What is drawn for the laws on rectangles: a text and two places. -/
import Derived.Test.YthcijegcnecnmaaDoorRy
set_option linter.unusedVariables false
set_option linter.unusedSimpArgs false
namespace Go.Proofs.YthcijegcnecnmaaDoor
open Go.RowKit
/-- A text and two places. -/
def DRect (w : World) (e : Ending) (w' : World) : Prop :=
  ∃ (s : ByteArray) (u v : Int), e = .returned (.tuple #[.string s, .int .i64 u, .int .i64 v]) ∧ s.size ≤ 200 ∧ -1 ≤ u ∧ u ≤ s.size + 1 ∧ -1 ≤ v ∧ v ≤ s.size + 1 ∧ Below w.heap.size w w'
def RectPost (R : Nat) (w : World) (e : Ending) (w' : World) : Prop :=
  ∃ (s : ByteArray) (u v : Int), e = .returned (.tuple #[.string s, .int .i64 u, .int .i64 v]) ∧ s.size ≤ 200 ∧ -1 ≤ u ∧ u ≤ s.size + 1 ∧ -1 ≤ v ∧ v ≤ s.size + 1 ∧ Beside R w w'
theorem rect_any (R : Nat) (w : World) (h : IsRd w R 0) :
    Calls Tryd.prog 53 #[.pointer (some ⟨R, 0, none⟩)] w (RectPost R w) := by
  go_enter Tryd.func53, Tryd.ntmps53
  go_wp2_with fail
  refine (spot_any R 0 _ h (by omega)).mono ?_
  rintro e W1 ⟨s, u, p1, rfl, hs, hu1, hu2, hp1, hp2, hR1, hb1⟩
  go_wp2_with fail
  refine (place_any R p1 s 14 _ hR1 (by omega) (by omega) (by omega) (by omega)).mono ?_
  rintro e W2 ⟨v, p2, rfl, hv1, hv2, hp3, hp4, hR2, hb2⟩
  have hb3 := hb1.trans hb2
  go_wp2_with fail
  go_ret3
  exact ⟨s, u, v, rfl, hs, hu1, hu2, hv1, hv2, hb3⟩
theorem dDrawRectText (A : Option Addr) (n c : Nat) (zs : List Int) (w : World) (h : IsBytes w A n c zs) :
    Calls Tryd.prog 27 #[.slice A n c] w (DRect w) := by
  go_enter Tryd.func27, Tryd.ntmps27
  go_wp2_with fail
  refine (open_any A n c zs _ h).mono ?_
  rintro e W1 ⟨rfl, hR, hb, hsz⟩
  obtain ⟨B, hB⟩ : ∃ B, w.heap.size = B := ⟨_, rfl⟩
  rw [hB] at hR hb hsz ⊢
  have HB := Lib.hid hB
  clear hB
  go_wp2_with fail
  refine (rect_any B _ hR).mono ?_
  rintro e W2 ⟨s, u, v, rfl, hs, hu1, hu2, hv1, hv2, hb2⟩
  have hb3 := hb.trans (hb2.below (Nat.le_refl _) (by omega))
  go_wp2_with fail
  go_ret3
  exact ⟨s, u, v, rfl, hs, hu1, hu2, hv1, hv2, by rw [HB.out]; exact hb3⟩
theorem dDrawRectCut (A : Option Addr) (n c : Nat) (zs : List Int) (w : World) (h : IsBytes w A n c zs) :
    Calls Tryd.prog 25 #[.slice A n c] w (DRect w) := by
  go_enter Tryd.func25, Tryd.ntmps25
  go_wp2_with fail
  refine (open_any A n c zs _ h).mono ?_
  rintro e W1 ⟨rfl, hR, hb, hsz⟩
  obtain ⟨B, hB⟩ : ∃ B, w.heap.size = B := ⟨_, rfl⟩
  rw [hB] at hR hb hsz ⊢
  have HB := Lib.hid hB
  clear hB
  go_wp2_with fail
  refine (rect_any B _ hR).mono ?_
  rintro e W2 ⟨s, u, v, rfl, hs, hu1, hu2, hv1, hv2, hb2⟩
  have hb3 := hb.trans (hb2.below (Nat.le_refl _) (by omega))
  go_wp2_with fail
  go_ret3
  exact ⟨s, u, v, rfl, hs, hu1, hu2, hv1, hv2, by rw [HB.out]; exact hb3⟩
end Go.Proofs.YthcijegcnecnmaaDoor
