/- slices.SortStableFunc on at most eight cursors. -/
import Derived.Test.YtmdjmaijennmkaaSp
import Derived.Test.YtmdjmaijennmkaaCe
set_option linter.unusedVariables false
set_option linter.unusedSimpArgs false
namespace Go.Proofs.Ytmdjmaijennmkaa
open Go.RowKit Go.Sort Go.Shelf
def encC (x : Int × Int) : List Value := [.int .i64 x.1, .int .i64 x.2]
theorem flat_pairs (ys : List (Int × Int)) (j : Nat) (hj : j < ys.length * 2) : (flatK encC 2 ys.toArray)[j]! = (pairs ys)[j]! := by
  rw [get_flatK _ _ _ _ (by simpa using hj)]
  have hl : j / 2 < ys.length := by omega
  obtain ⟨g1, g2⟩ := pairs_get ys (j / 2) hl
  have e : (ys.toArray)[j / 2]! = ys[j / 2] := by simp [hl]
  rw [e]
  rcases Nat.mod_two_eq_zero_or_one j with hm | hm
  · rw [hm]
    rw [show j / 2 * 2 = j by omega] at g1
    rw [getElem!_def, getElem!_def, g1]; rfl
  · rw [hm]
    rw [show j / 2 * 2 + 1 = j by omega] at g2
    rw [getElem!_def, getElem!_def, g2]; rfl
theorem sort_world {w : World} {B T n c g : Nat} {xs ys : List (Int × Int)} (h : w.ownsRow B T 2 (.slice (some ⟨g, 0, none⟩) n c) n (pairs xs)) (hy : ys.length = xs.length) (m : Nat) (os : Array Obj) :
    (sortWorldK encC 2 w g 0 m ys.toArray os).ownsRow B T 2 (.slice (some ⟨g, 0, none⟩) n c) n (pairs ys) ∧ w.grownBy (sortWorldK encC 2 w g 0 m ys.toArray os) (some g) := by
  have hn : xs.length = n := by have := h.1; rw [pairs_len] at this; omega
  rcases h.2 with ⟨h1, h2⟩ | ⟨g', cap, cur, h1, h2, h3, h4, h5, h6, h7⟩
  · cases h1
  injection h1 with h1 _ h1c
  injection h1 with h1
  injection h1 with h1
  subst h1
  subst h1c
  have hgl : g < w.heap.size := (Array.getElem?_eq_some_iff.1 h3).1
  have hheap : ∀ i, i < w.heap.size → (sortWorldK encC 2 w g 0 m ys.toArray os).heap[i]? = (w.heap.modify g (onCells (putCells id 0 (flatK encC 2 ys.toArray))))[i]? := by
    intro i hi
    unfold sortWorldK grow putRowK putRow mapBlock Sort.ahead
    simp only
    rw [Array.getElem?_append_left (by simpa using hi)]
  refine ⟨⟨by rw [pairs_len]; omega, .inr ⟨g, c, putCells id 0 (flatK encC 2 ys.toArray) cur, rfl, h2, ?_, h4, h5, by simpa [putCells] using h6, ?_⟩⟩, ?_, ?_, ?_, ?_, ?_⟩
  · rw [hheap g hgl, Array.getElem?_modify, if_pos rfl, h3]; rfl
  · apply List.ext_getElem?
    intro j
    rw [List.getElem?_take]
    by_cases hj : j < n * 2
    · rw [if_pos hj, Array.getElem?_toList]
      have hjc : j < cur.size := by omega
      have hf := flat_pairs ys j (by omega)
      have hz : (flatK encC 2 ys.toArray).size = n * 2 := by rw [size_flatK]; simp; omega
      have hp : (pairs ys)[j]? = some (pairs ys)[j]! := by
        have hl : j < (pairs ys).length := by rw [pairs_len]; omega
        rw [getElem!_def, List.getElem?_eq_getElem hl]
      unfold putCells
      rw [Array.getElem?_mapIdx, Array.getElem?_eq_getElem hjc, hp, ← hf]
      simp only [Option.map_some]
      rw [if_pos (by omega)]; rfl
    · rw [if_neg hj, List.getElem?_eq_none (by rw [pairs_len]; omega)]
  · rfl
  · rfl
  · rfl
  · exact size_sortWorldK_c encC 2 w g 0 m ys.toArray os
  · intro i hi hne
    have hne' : g ≠ i := fun e => hne (by rw [e])
    rw [hheap i hi, Array.getElem?_modify, if_neg hne']
theorem holds_own {w : World} {B T n c g : Nat} {xs : List (Int × Int)} (h : w.ownsRow B T 2 (.slice (some ⟨g, 0, none⟩) n c) n (pairs xs)) : HoldsK encC 2 w g 0 xs.toArray := by
  have hn : xs.length = n := by have := h.1; rw [pairs_len] at this; omega
  intro j hj
  rw [size_flatK] at hj
  have hj' : j < xs.length * 2 := by simpa using hj
  have hl : j < (pairs xs).length := by rw [pairs_len]; exact hj'
  rw [flat_pairs xs j hj', Nat.zero_add]
  refine ⟨?_, h.frozenAt j⟩
  rw [h.cellAt j (by omega), getElem!_def, List.getElem?_eq_getElem hl]; rfl
def laySort_ren : Ren := ⟨fun | 20 => 80 | n => n, fun | 0 => 0 | 3 => 3 | 4 => 4 | 22 => 25 | 24 => 44 | 25 => 74 | n => n, fun | n => n⟩
theorem sort_bears : Bears Try.prog (laySort_ren.f 20) (SlBodyF.n20 laySort_ren) := by
  refine ⟨Try.f80.name, by decide +kernel, Try.func80.trans (congrArg some (by kernel_rfl))⟩
theorem laySort : SlLaysF0.n20 Try.prog laySort_ren := {
  mixed := by kernel_rfl
  f20 := sort_bears
  t0 := Try.underlying0
  a0 := Try.isAgg0
  z0 := Try.sizeOf0
  v0 := Try.zeroValue0
  t3 := Try.underlying3
  a3 := Try.isAgg3
  z3 := Try.sizeOf3
  v3 := Try.zeroValue3
  t4 := Try.underlying4
  a4 := Try.isAgg4
  z4 := Try.sizeOf4
  v4 := Try.zeroValue4
  t22 := Try.underlying25
  a22 := Try.isAgg25
  z22 := Try.sizeOf25
  v22 := Try.zeroValue25
  t25 := Try.underlying74
  a25 := Try.isAgg74
  z25 := Try.sizeOf74
  v25 := Try.zeroValue74 }
theorem nan_any (x : Int) (w : World) : Calls Try.prog 75 #[.int .i64 x] w fun e w' => e = .returned (.bool false) ∧ w = w' := by
  go_enter Try.func75, Try.ntmps75
  go_wp2
  go_ret
  exact ⟨by simp, rfl⟩
theorem compare_any (x y : Int) (w : World) : Calls Try.prog 64 #[.int .i64 x, .int .i64 y] w fun e w' => e = .returned (.int .i64 (if x < y then -1 else if x = y then 0 else 1)) ∧ w = w' := by
  go_enter Try.func64, Try.ntmps64
  go_wp2_with (go_at_call 75; refine (nan_any _ _).mono ?_; rintro e w' ⟨rfl, rfl⟩)
  all_goals (go_ret; refine ⟨ret_int ?_, rfl⟩; (repeat' split) <;> omega)
end Go.Proofs.Ytmdjmaijennmkaa
