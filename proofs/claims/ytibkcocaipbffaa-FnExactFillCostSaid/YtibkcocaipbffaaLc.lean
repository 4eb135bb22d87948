/- The law that asks for equality with the reference of FillCost, walked. -/
import Derived.Test.YtibkcocaipbffaaFc
import Derived.ProofKit
import Derived.OpenShut
import Derived.SliceStrings
namespace Go.Proofs.Ytibkcocaipbffaa
open Go.RowKit Go.ChangeShapes Go.WideShapes
set_option linter.unusedVariables false
/-- A slice of texts that came in. -/
def IsStrs (w : World) (A : Option Addr) (n c : Nat) (ss : List ByteArray) : Prop := ss.length = n ∧ n ≤ maxLen ∧ (∀ s ∈ ss, s.size ≤ maxLen) ∧ Row w w.heap.size A (strVals ss)
theorem law_FnExactFillCost (A : Option Addr) (n c : Nat) (ss : List ByteArray) (w : World) (h : IsStrs w A n c ss) (width : Int) (w1 : (Lit.int .i64 width).wf = true) :
    Calls Try.prog 7 #[.slice A n c, .int .i64 width] w fun e w' => e = .returned (.bool true) ∧ Below w.heap.size w w' := by
  obtain ⟨hl, hn, hz, hrow⟩ := h
  subst hl
  go_enter Try.func7, Try.ntmps7
  go_wp2_with fail
  refine (szStringS_any A _ c ss 1048576 w hrow rfl hn hz (by omega) (by omega)).mono ?_
  rintro e w' ⟨r, rfl, hr, rfl⟩
  by_cases hr0 : r < 0
  · go_wp2_with fail
    go_ret
    exact ⟨rfl, Below.refl _ _⟩
  · have hn2 : ss.length ≤ 3000000 := by have := (hr (by omega)).1; omega
    clear hr
    go_wp2_with fail
    refine (toStringS_any A _ c ss _ hrow rfl hn2).mono ?_
    rintro e W1 ⟨A1, c1, rfl, ho1, hb1⟩
    have hr1 := Row.of_own ho1
    have hl1 := hn2
    go_wp2_with fail
    refine (sFC_any A1 _ c1 ss width W1 hr1 rfl hl1 hz).mono ?_
    rintro e W1' ⟨rfl, q1, rfl⟩
    have hrow1 := ((hrow.below hb1).more hb1.size).drewN q1
    clear ho1 hr1
    go_wp2_with fail
    refine (toStringS_any A _ c ss _ hrow1 rfl hn2).mono ?_
    rintro e W2 ⟨A2, c2, rfl, ho2, hb2⟩
    have hr2 := Row.of_own ho2
    have hb12 : Below w.heap.size w W2 := (below_drewN hb1 q1).trans (hb2.mono hb1.size)
    have hrow2 := ((hrow.below hb12).more hb12.size)
    clear ho2 hrow1
    go_wp2_with fail
    refine (iFC_any A2 _ c2 ss width W2 hr2 rfl hl1 hz).mono ?_
    rintro e W2' ⟨rfl, q2, rfl⟩
    go_wp2_with fail
    refine (toStringS_any A _ c ss _ (hrow2.drewN q2) rfl hn2).mono ?_
    rintro e W3 ⟨A3, c3, rfl, ho3, hb3⟩
    have hr3 := Row.of_own ho3
    have hr23 := ((hr2.drewN q2).below hb3).more hb3.size
    have hb13 : Below w.heap.size w W3 := (below_drewN hb12 q2).trans (hb3.mono hb12.size)
    clear ho3
    go_wp2_with fail
    refine (eqStringS_same A2 A3 _ _ c2 c3 ss W3 hr23 hr3 rfl rfl hl1).mono ?_
    rintro e W3' ⟨rfl, q3, rfl⟩
    go_wp2_with fail
    go_ret
    exact ⟨rfl, below_drewN hb13 q3⟩
theorem open_strs {H : Type} {enc : TypeId × Value → H} {P : Program} {w : World} {t e : TypeId} (ht : P.underlying t = some (.slice e)) (he : P.underlying e = some .string) (hc : P.cellsOf e = 1)
    {a : Option Addr} {n c : Nat} {d : DataW H} {p : List MemPlace} (h : DataW.Trod enc P w 0 (fun _ => true) true t (.slice a n c) d p) : ∃ zs, IsStrs w a n c zs := by
  obtain ⟨fuel, hf⟩ := h
  rcases open_strings ht he hc hf with ⟨hcs, _⟩ | ⟨x, l, c', zs, hcs, _, hl, hm, hz, _, hcell, hwz⟩
  · simp [Value.cells] at hcs
    obtain ⟨rfl, rfl, rfl⟩ := hcs
    exact ⟨[], rfl, Nat.zero_le _, fun z hz => by simp at hz, Row.empty⟩
  · simp [Value.cells] at hcs
    obtain ⟨rfl, rfl, rfl⟩ := hcs
    have hz' : zs.length = c := by simpa using hz
    refine ⟨zs.take n, by rw [List.length_take]; omega, by omega, fun z hz2 => hwz z (List.mem_of_mem_take hz2), ?_⟩
    intro j u hj
    unfold strVals at hj
    rw [List.getElem?_map, List.getElem?_take] at hj
    by_cases hjn : j < n
    · rw [if_pos hjn] at hj
      have hjz : j < zs.length := by omega
      rw [List.getElem?_eq_getElem hjz] at hj
      simp at hj
      subst hj
      have h2 := hcell j hjz
      have h3 : zs.getD j ByteArray.empty = zs[j] := by simp [List.getD, hjz]
      rw [h3] at h2
      obtain ⟨b, off, spot⟩ := x
      have h0 := hcell 0 (by omega)
      have hspot : spot = none := by simpa [Addr.add] using World.cell?_spot h0
      subst hspot
      have h4 : w.cell? ⟨b, off + j, none⟩ = some (.string zs[j]) := by rw [← Go.WideShapes.add_plain]; exact h2
      exact ⟨b, off, rfl, World.block_lt_of_cell? w _ h4, h4⟩
    · rw [if_neg hjn] at hj
      simp at hj
end Go.Proofs.Ytibkcocaipbffaa
