/- slices.SortStableFunc on at most eight cursors, by where they begin. -/
import Derived.Test.YtmdjmaijennmkaaSo
set_option linter.unusedVariables false
set_option linter.unusedSimpArgs false
namespace Go.Proofs.Ytmdjmaijennmkaa
open Go.RowKit Go.Sort Go.Shelf
theorem grow_drewN (w : World) (os : Array Obj) (n : Nat) : (grow w os).drewN n = grow (w.drewN n) os := rfl
theorem less_any (x y : Int × Int) (w : World) :
    Calls Try.prog 63 #[.agg (encC x).toArray, .agg (encC y).toArray] w fun e w' => e = .returned (.int .i64 (cmpC x y)) ∧ ∃ q os', w' = grow (w.drewN q) os' := by
  obtain ⟨x1, x2⟩ := x
  obtain ⟨y1, y2⟩ := y
  simp only [encC]
  have hc : cmpC (x1, x2) (y1, y2) = if loC (x1, x2) < loC (y1, y2) then -1 else if loC (x1, x2) = loC (y1, y2) then 0 else 1 := rfl
  have h1 := fun W => ends_any x1 x2 W
  have h2 := fun W => ends_any y1 y2 W
  have h3 := fun W => compare_any (loC (x1, x2)) (loC (y1, y2)) W
  rw [← hc] at h3
  clear hc
  generalize cmpC (x1, x2) (y1, y2) = r at *
  generalize loC (x1, x2) = a at *
  generalize loC (y1, y2) = b at *
  generalize hiC (x1, x2) = a' at *
  generalize hiC (y1, y2) = b' at *
  have H1 := Lib.hid h1
  have H2 := Lib.hid h2
  have H3 := Lib.hid h3
  clear h1 h2 h3
  go_enter Try.func63, Try.ntmps63
  go_wp2_with fail
  refine (H1.out _).mono ?_
  rintro e w' ⟨rfl, q1, rfl⟩
  go_wp2_with fail
  refine (H2.out _).mono ?_
  rintro e w' ⟨rfl, q2, rfl⟩
  go_wp2_with fail
  refine (H3.out _).mono ?_
  rintro e w' ⟨rfl, rfl⟩
  go_wp2_with fail
  go_ret
  refine ⟨rfl, q1 + q2, #[.cells #[.int .i64 x1, .int .i64 x2] 44, .cells #[.int .i64 y1, .int .i64 y2] 44, .cells #[.int .i64 x1, .int .i64 x2] 44, .cells #[.int .i64 y1, .int .i64 y2] 44], ?_⟩
  simp only [alloc_eq_grow, grow_drewN, grow_grow, World.drewN_drewN]
  rfl
theorem less_lays (blk off size : Nat) (w : World) : CmpLays Try.prog 63 #[] encC 2 cmpC blk off size w := fun _ _ _ _ x y => less_any x y _
theorem insertion_any {w : World} {B n c g : Nat} {xs : List (Int × Int)} (h : w.ownsRow B 44 2 (.slice (some ⟨g, 0, none⟩) n c) n (pairs xs)) (hn : n ≤ 3000000) :
    Calls Try.prog 80 #[.slice (some ⟨g, 0, none⟩) n c, .int .i64 0, .int .i64 n, .func (.func 63) #[] #[]] w fun e w' =>
      e = .returned (.tuple #[]) ∧ (w'.ownsRow B 44 2 (.slice (some ⟨g, 0, none⟩) n c) n (pairs (sortC xs)) ∧ w.grownBy w' (some g)) := by
  have hxn : xs.length = n := by have := h.1; rw [pairs_len] at this; omega
  have hz : xs.toArray.size = n := by simpa using hxn
  have hgl : n = 0 ∨ g < w.heap.size := by
    rcases Nat.eq_zero_or_pos n with h0 | h0
    · exact .inl h0
    · exact .inr (h.lt g rfl).2
  have hgl : g < w.heap.size := (h.lt g rfl).2
  have eg : ∀ args w, (callFunc 63 args).run Try.prog w = .ok (.enter 63 args) w := enters_of Try.func63 (by kernel_rfl) rfl
  have hcon := AnyQ.insertionSortCmpFunc laySort 2 Try.isAgg44 Try.sizeOf44 encC (fun _ => rfl) (fun x v hv => by simp [encC] at hv; rcases hv with rfl | rfl <;> rfl) cmpC 63 #[] g 0 c 0 n xs.toArray w eg (less_lays g 0 _ w) (holds_own h) hgl (Nat.zero_le _) (by omega) (by omega)
  have hsort := sort_list xs.toArray
  rw [hz] at hcon hsort
  refine Calls.mono hcon ?_
  rintro e w' ⟨rfl, m, os, rfl⟩
  have hl : Sort.insertionSort (ltOf cmpC) xs.toArray 0 n = (sortC xs).toArray := by
    rw [← hsort]
  rw [hl]
  exact ⟨rfl, sort_world h (sort_len xs) m os⟩
theorem insertion_none (A : Option Addr) (c : Nat) (w : World) :
    Calls Try.prog 80 #[.slice A 0 c, .int .i64 0, .int .i64 0, .func (.func 63) #[] #[]] w fun e w' => e = .returned (.tuple #[]) ∧ w = w' := by
  go_enter Try.func80, Try.ntmps80
  go_wp2_with fail
  refine wp_loop_rounds 1 ?_
  rw [rounds_succ]
  go_wp2_with fail
  go_end0
  exact ⟨rfl, rfl⟩
/-- Sorting the cells of a row of the call's own. -/
theorem sorted_any {w : World} {B n c : Nat} {A : Option Addr} {xs : List (Int × Int)} (h : w.ownsRow B 44 2 (.slice A n c) n (pairs xs)) (hn : n ≤ 3000000) :
    Calls Try.prog 80 #[.slice A n c, .int .i64 0, .int .i64 n, .func (.func 63) #[] #[]] w fun e w' =>
      e = .returned (.tuple #[]) ∧ (w'.ownsRow B 44 2 (.slice A n c) n (pairs (sortC xs)) ∧ w.grownBy w' (Value.slice A n c).ownBlock) := by
  rcases h.2 with ⟨h1, h2⟩ | ⟨g, cap, cur, h1, _⟩
  · subst h2
    have hx : xs = [] := List.eq_nil_of_length_eq_zero (by have := h.1; rw [pairs_len] at this; omega)
    subst hx
    refine (insertion_none A c w).mono ?_
    rintro e w' ⟨rfl, rfl⟩
    exact ⟨rfl, h, World.grownBy.refl _ _⟩
  · injection h1 with h1
    subst h1
    exact insertion_any h hn
theorem stable_any {w : World} {B n c : Nat} {A : Option Addr} {xs : List (Int × Int)} (h : w.ownsRow B 44 2 (.slice A n c) n (pairs xs)) (hn : n ≤ 8) :
    Calls Try.prog 62 #[.slice A n c, .func (.func 63) #[] #[]] w fun e w' =>
      e = .returned (.tuple #[]) ∧ (w'.ownsRow B 44 2 (.slice A n c) n (pairs (sortC xs)) ∧ w.grownBy w' (Value.slice A n c).ownBlock) := by
  have hs := sorted_any h (by omega)
  have hc : Calls Try.prog 74 #[.slice A n c, .int .i64 n, .func (.func 63) #[] #[]] w fun e w' =>
      e = .returned (.tuple #[]) ∧ (w'.ownsRow B 44 2 (.slice A n c) n (pairs (sortC xs)) ∧ w.grownBy w' (Value.slice A n c).ownBlock) := by
    have HS := Lib.hid hs
    have h1 : decide ((20 : Int) ≤ (n : Int)) = false := decide_eq_false (by omega)
    have h2 : decide ((20 : Int) < (n : Int)) = false := decide_eq_false (by omega)
    clear hs h
    go_enter Try.func74, Try.ntmps74
    go_wp2_with fail
    refine wp_loop_rounds 1 ?_
    rw [rounds_succ]
    go_wp2_with fail
    refine HS.out.mono ?_
    rintro e W1 ⟨rfl, hres⟩
    have HR := Lib.hid hres
    clear hres
    go_wp2_with fail
    refine wp_loop_rounds 1 ?_
    rw [rounds_succ]
    go_wp2_with fail
    go_end0
    exact ⟨rfl, HR.out⟩
  have HC := Lib.hid hc
  clear hc hs h
  go_enter Try.func62, Try.ntmps62
  go_wp2_with fail
  refine HC.out.mono ?_
  rintro e W1 ⟨rfl, hres⟩
  have HR := Lib.hid hres
  clear hres
  go_wp2_with fail
  go_end0
  exact ⟨rfl, HR.out⟩
end Go.Proofs.Ytmdjmaijennmkaa
