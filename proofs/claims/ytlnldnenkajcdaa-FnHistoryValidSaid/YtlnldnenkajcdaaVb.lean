/- Marks: rows of marks; the contracts of MovePlace, ReverseChange, MarksValid; the reference's ChangeFits. -/
import Derived.Test.YtlnldnenkajcdaaVa
import Derived.Lib.Strings
set_option linter.unusedVariables false
set_option linter.unusedSimpArgs false
namespace Go.Proofs.Ytlnldnenkajcdaa
open Go.RowKit
def mks (ms : List (Int × Bool)) : List Value := ms.flatMap fun m => [.int .i64 m.1, .bool m.2]
theorem mks_len (xs : List (Int × Bool)) : (mks xs).length = xs.length * 2 := by
  induction xs with
  | nil => rfl
  | cons x xs ih => simp only [mks, List.flatMap_cons, List.length_append, List.length_cons, List.length_nil] at ih ⊢; omega
theorem mks_snoc (xs : List (Int × Bool)) (a : Int) (b : Bool) : mks (xs ++ [(a, b)]) = mks xs ++ [.int .i64 a, .bool b] := by simp [mks]
theorem mks_cons (x : Int × Bool) (xs : List (Int × Bool)) : mks (x :: xs) = .int .i64 x.1 :: .bool x.2 :: mks xs := by simp [mks]
theorem mks_get : ∀ (xs : List (Int × Bool)) (j : Nat) (h : j < xs.length), (mks xs)[j * 2]? = some (.int .i64 xs[j].1) ∧ (mks xs)[j * 2 + 1]? = some (.bool xs[j].2)
  | [], j, h => by simp at h
  | x :: xs, 0, _ => by simp [mks_cons]
  | x :: xs, j + 1, h => by
    have := mks_get xs j (by simpa using h)
    rw [mks_cons, show (j + 1) * 2 = j * 2 + 1 + 1 by omega, show j * 2 + 1 + 1 + 1 = (j * 2 + 1) + 1 + 1 by omega]
    simpa only [List.getElem?_cons_succ, List.getElem_cons_succ] using this
theorem Row.mark {w : World} {B : Nat} {A : Option Addr} {ms : List (Int × Bool)} (h : Row w B A (mks ms)) {j : Nat} (hj : j < ms.length) : ∃ b o, A = some ⟨b, o, none⟩ ∧ b < B ∧ w.cell? ⟨b, o + j * 2, none⟩ = some (.int .i64 ms[j].1) ∧ w.cell? ⟨b, o + j * 2 + 1, none⟩ = some (.bool ms[j].2) := by
  obtain ⟨g1, g2⟩ := mks_get ms j hj
  obtain ⟨b, o, rfl, hb, hc⟩ := h _ _ g1
  obtain ⟨b', o', e, _, hc'⟩ := h _ _ g2
  injection e with e
  injection e with e1 e2
  subst e1 e2
  exact ⟨b, o, rfl, hb, hc, by rw [Nat.add_assoc]; exact hc'⟩
/-- Where a place goes. -/
def mvI (p c z m : Int) (b : Bool) : Int := if m < p then m else if m > p + c then m + z - c else if b = true then p + z else p
theorem allOk_app2 : ∀ l m : List UInt8, allOk (l ++ m) = (allOk l && allOk m)
  | [], m => by simp [allOk]
  | x :: l, m => by simp only [List.cons_append, allOk, allOk_app2 l m, Bool.and_assoc]
theorem allOk_cut {l : List UInt8} (h : allOk l = true) (a b : Nat) : allOk ((l.drop a).take b) = true := by
  have h1 : allOk (l.take a ++ l.drop a) = true := by rw [List.take_append_drop]; exact h
  rw [allOk_app2, Bool.and_eq_true] at h1
  have h2 : allOk ((l.drop a).take b ++ (l.drop a).drop b) = true := by rw [List.take_append_drop]; exact h1.2
  rw [allOk_app2, Bool.and_eq_true] at h2
  exact h2.1
theorem ac_size (s put : ByteArray) {p q : Nat} (hpq : p ≤ q) (hq : q ≤ s.size) : (acX s put p q).size = s.size - (q - p) + put.size := by
  unfold acX
  rw [ByteArray.size_append, ByteArray.size_append, ByteArray.size_extract, ByteArray.size_extract]
  omega
theorem ac_valid {s put : ByteArray} {p q : Nat} (hv : valid s.data.toList = true) (hpq : p ≤ q) (hq : q ≤ s.size) : valid (acX s put p q).data.toList = (allOk put.data.toList && decide (s.size - (q - p) + put.size ≤ 120)) := by
  have ha : allOk s.data.toList = true := by unfold valid at hv; rw [Bool.and_eq_true] at hv; exact hv.1
  have hl : (acX s put p q).data.toList.length = s.size - (q - p) + put.size := by rw [Array.length_toList]; exact ac_size s put hpq hq
  unfold valid
  rw [hl]
  congr 1
  unfold acX
  rw [ByteArray.data_append, Array.toList_append, ByteArray.data_append, Array.toList_append, allOk_app2, allOk_app2, Lib.extract_data, Lib.extract_data, allOk_cut ha, allOk_cut ha]
  simp
set_option maxHeartbeats 4000000 in
theorem iMP_any (put : ByteArray) (p c m : Nat) (b : Bool) (w : World) (hp : p ≤ 120) (hc : c ≤ 120) (hm : m ≤ 120) (hput : put.size ≤ 120) :
    Calls Try.prog 33 #[.agg #[.int .i64 p, .int .i64 c, .string put], .int .i64 m, .bool b] w fun e w' => e = .returned (.int .i64 (mvI p c put.size m b)) ∧ Below w.heap.size w w' := by
  have h1 : ∀ n : Nat, n ≤ 120 → ∀ W, Calls Try.prog 46 #[.int .i64 n, .int .i64 0, .int .i64 120] W fun e w' => e = .returned (.bool true) ∧ W = w' := fun n hn W => by
    have h := in_any (n : Int) 0 120 W
    have e : inI (n : Int) 0 120 = true := by unfold inI; simp; omega
    rw [e] at h
    exact h
  have H1 := Lib.hid (h1 p hp)
  have H2 := Lib.hid (h1 c hc)
  have H3 := Lib.hid (h1 m hm)
  have HB := Lib.hid ((Below.refl w.heap.size w).alloc (Nat.le_refl _) (.cells #[.int .i64 p, .int .i64 c, .string put] 36))
  clear h1
  by_cases c1 : (m : Int) < (p : Int)
  · have hr : mvI p c put.size m b = m := by unfold mvI; rw [if_pos c1]
    rw [hr]
    go_enter Try.func33, Try.ntmps33
    go_wp2_with fail
    refine (H1.out _).mono ?_
    rintro e w' ⟨rfl, rfl⟩
    go_wp2_with fail
    refine (H2.out _).mono ?_
    rintro e w' ⟨rfl, rfl⟩
    go_wp2_with fail
    refine (H3.out _).mono ?_
    rintro e w' ⟨rfl, rfl⟩
    go_wp2_with fail
    go_ret
    exact ⟨rfl, HB.out⟩
  · by_cases c2 : (m : Int) > (p : Int) + (c : Int)
    · have hr : mvI p c put.size m b = (m : Int) + put.size - c := by unfold mvI; rw [if_neg c1, if_pos c2]
      rw [hr]
      go_enter Try.func33, Try.ntmps33
      go_wp2_with fail
      refine (H1.out _).mono ?_
      rintro e w' ⟨rfl, rfl⟩
      go_wp2_with fail
      refine (H2.out _).mono ?_
      rintro e w' ⟨rfl, rfl⟩
      go_wp2_with fail
      refine (H3.out _).mono ?_
      rintro e w' ⟨rfl, rfl⟩
      go_wp2_with fail
      go_ret
      exact ⟨rfl, HB.out⟩
    · cases b
      · have hr : mvI p c put.size m false = p := by unfold mvI; rw [if_neg c1, if_neg c2]; rfl
        rw [hr]
        go_enter Try.func33, Try.ntmps33
        go_wp2_with fail
        refine (H1.out _).mono ?_
        rintro e w' ⟨rfl, rfl⟩
        go_wp2_with fail
        refine (H2.out _).mono ?_
        rintro e w' ⟨rfl, rfl⟩
        go_wp2_with fail
        refine (H3.out _).mono ?_
        rintro e w' ⟨rfl, rfl⟩
        go_wp2_with fail
        go_ret
        exact ⟨rfl, HB.out⟩
      · have hr : mvI p c put.size m true = (p : Int) + put.size := by unfold mvI; rw [if_neg c1, if_neg c2]; rfl
        rw [hr]
        go_enter Try.func33, Try.ntmps33
        go_wp2_with fail
        refine (H1.out _).mono ?_
        rintro e w' ⟨rfl, rfl⟩
        go_wp2_with fail
        refine (H2.out _).mono ?_
        rintro e w' ⟨rfl, rfl⟩
        go_wp2_with fail
        refine (H3.out _).mono ?_
        rintro e w' ⟨rfl, rfl⟩
        go_wp2_with fail
        go_ret
        exact ⟨rfl, HB.out⟩
set_option maxHeartbeats 4000000 in
theorem sMP_any (put : ByteArray) (p c m : Nat) (b : Bool) (w : World) (hp : p ≤ 120) (hc : c ≤ 120) (hm : m ≤ 120) (hput : put.size ≤ 120) :
    Calls Try.prog 35 #[.agg #[.int .i64 p, .int .i64 c, .string put], .int .i64 m, .bool b] w fun e w' => e = .returned (.int .i64 (mvI p c put.size m b)) ∧ Below w.heap.size w w' := by
  have HB := Lib.hid ((Below.refl w.heap.size w).alloc (Nat.le_refl _) (.cells #[.int .i64 p, .int .i64 c, .string put] 36))
  have n1 : ¬ (p : Int) < 0 := by omega
  have n2 : ¬ (c : Int) < 0 := by omega
  have n3 : ¬ (m : Int) < 0 := by omega
  have n4 : ¬ (120 : Int) < (p : Int) := by omega
  have n5 : ¬ (120 : Int) < (c : Int) := by omega
  have n6 : ¬ (120 : Int) < (m : Int) := by omega
  have n7 : ¬ (120 : Int) < (put.size : Int) := by omega
  by_cases c1 : (m : Int) < (p : Int)
  · have hr : mvI p c put.size m b = m := by unfold mvI; rw [if_pos c1]
    rw [hr]
    go_enter Try.func35, Try.ntmps35
    go_wp2_with fail
    all_goals (go_ret; exact ⟨rfl, HB.out⟩)
  · by_cases c2 : (m : Int) > (p : Int) + (c : Int)
    · have hr : mvI p c put.size m b = (m : Int) + put.size - c := by unfold mvI; rw [if_neg c1, if_pos c2]
      rw [hr]
      go_enter Try.func35, Try.ntmps35
      go_wp2_with fail
      all_goals (go_ret; exact ⟨rfl, HB.out⟩)
    · cases b
      · have hr : mvI p c put.size m false = p := by unfold mvI; rw [if_neg c1, if_neg c2]; rfl
        rw [hr]
        go_enter Try.func35, Try.ntmps35
        go_wp2_with fail
        all_goals (go_ret; exact ⟨rfl, HB.out⟩)
      · have hr : mvI p c put.size m true = (p : Int) + put.size := by unfold mvI; rw [if_neg c1, if_neg c2]; rfl
        rw [hr]
        go_enter Try.func35, Try.ntmps35
        go_wp2_with fail
        all_goals (go_ret; exact ⟨rfl, HB.out⟩)
end Go.Proofs.Ytlnldnenkajcdaa
