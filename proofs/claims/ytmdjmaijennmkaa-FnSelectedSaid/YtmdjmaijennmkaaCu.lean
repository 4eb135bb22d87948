/- Cursors in plain words: what is joined, of the program and of the reference. -/
import Derived.Test.YtmdjmaijennmkaaWa
set_option linter.unusedVariables false
set_option linter.unusedSimpArgs false
namespace Go.Proofs.Ytmdjmaijennmkaa
open Go.RowKit

def loC (c : Int × Int) : Int := min c.1 c.2
def hiC (c : Int × Int) : Int := max c.1 c.2
theorem lo_hi (c : Int × Int) : loC c ≤ hiC c := by unfold loC hiC; omega
def hull (x c : Int × Int) : Int × Int := (min (loC x) (loC c), max (hiC x) (hiC c))
theorem lo_hull (x c : Int × Int) : loC (hull x c) = min (loC x) (loC c) := by
  have := lo_hi x; have := lo_hi c; simp only [hull, loC, hiC] at *; omega
theorem hi_hull (x c : Int × Int) : hiC (hull x c) = max (hiC x) (hiC c) := by
  have := lo_hi x; have := lo_hi c; simp only [hull, loC, hiC] at *; omega
theorem hull_comm (x c : Int × Int) : hull x c = hull c x := by
  simp only [hull]; rw [Int.min_comm, Int.max_comm]
theorem hull_assoc (x y c : Int × Int) : hull (hull x y) c = hull (hull x c) y := by
  have h1 := lo_hull x y; have h2 := hi_hull x y; have h3 := lo_hull x c; have h4 := hi_hull x c
  have e : ∀ a b : Int × Int, hull a b = (min (loC a) (loC b), max (hiC a) (hiC b)) := fun _ _ => rfl
  rw [e (hull x y) c, e (hull x c) y, h1, h2, h3, h4, Prod.mk.injEq]; omega
def ov (x c : Int × Int) : Bool := decide (loC x ≤ hiC c) && decide (loC c ≤ hiC x)
/-- A cursor is put into joined ones: the reference's way. -/
def insC : List (Int × Int) → Int × Int → List (Int × Int)
  | [], c => [c]
  | x :: o, c => if ov x c = true then insC o (hull x c) else if loC x < loC c then x :: insC o c else c :: x :: o
/-- Cursors in order, joined from the left: the program's way. -/
def runC (x : Int × Int) : List (Int × Int) → List (Int × Int)
  | [] => [x]
  | y :: l => if loC y ≤ hiC x then runC (loC x, max (hiC x) (hiC y)) l else x :: runC y l
def mgC : List (Int × Int) → List (Int × Int)
  | [] => []
  | x :: l => runC x l
def insS : List (Int × Int) → Int × Int → List (Int × Int)
  | [], c => [c]
  | y :: l, c => if loC c < loC y then c :: y :: l else y :: insS l c
def sortC (l : List (Int × Int)) : List (Int × Int) := l.foldl insS []
def joinI (l : List (Int × Int)) : List (Int × Int) := mgC (sortC l)
def joinR (l : List (Int × Int)) : List (Int × Int) := l.foldl insC []
def Srt (l : List (Int × Int)) : Prop := l.Pairwise fun x y => loC x ≤ loC y
def Apart (l : List (Int × Int)) : Prop := l.Pairwise fun x y => hiC x < loC y

theorem insS_mem {l : List (Int × Int)} {c x : Int × Int} : x ∈ insS l c ↔ x = c ∨ x ∈ l := by
  induction l with
  | nil => simp [insS]
  | cons y l ih =>
    simp only [insS]; split
    · simp
    · simp [ih]; constructor <;> (intro h; rcases h with h | h | h <;> simp [h])
theorem insS_len (l : List (Int × Int)) (c : Int × Int) : (insS l c).length = l.length + 1 := by
  induction l with
  | nil => rfl
  | cons y l ih => simp only [insS]; split <;> simp [ih]
theorem insS_srt {l : List (Int × Int)} (h : Srt l) (c : Int × Int) : Srt (insS l c) := by
  induction l with
  | nil => simp [insS, Srt]
  | cons y l ih =>
    obtain ⟨h1, h2⟩ := List.pairwise_cons.1 h
    simp only [insS]; split
    · rename_i hc
      refine List.pairwise_cons.2 ⟨fun z hz => ?_, h⟩
      rcases List.mem_cons.1 hz with rfl | hz
      · omega
      · have := h1 z hz; omega
    · rename_i hc
      refine List.pairwise_cons.2 ⟨fun z hz => ?_, ih h2⟩
      rcases insS_mem.1 hz with rfl | hz
      · omega
      · exact h1 z hz
theorem insS_split (L H : List (Int × Int)) (c : Int × Int) (h1 : ∀ x ∈ L, loC x ≤ loC c) (h2 : ∀ x ∈ H, loC c < loC x) : insS (L ++ H) c = L ++ c :: H := by
  induction L with
  | nil =>
    cases H with
    | nil => rfl
    | cons y H => simp only [List.nil_append, insS]; rw [if_pos (h2 y (by simp))]
  | cons y L ih =>
    simp only [List.cons_append, insS]
    rw [if_neg (by have := h1 y (by simp); omega), ih fun x hx => h1 x (by simp [hx])]
theorem sort_snoc (l : List (Int × Int)) (c : Int × Int) : sortC (l ++ [c]) = insS (sortC l) c := by simp [sortC]
theorem joinR_snoc (l : List (Int × Int)) (c : Int × Int) : joinR (l ++ [c]) = insC (joinR l) c := by simp [joinR]
theorem foldS_srt : ∀ (l a : List (Int × Int)), Srt a → Srt (l.foldl insS a)
  | [], _, h => h
  | c :: l, a, h => foldS_srt l _ (insS_srt h c)
theorem sort_srt (l : List (Int × Int)) : Srt (sortC l) := foldS_srt l [] List.Pairwise.nil
theorem foldS_len : ∀ (l a : List (Int × Int)), (l.foldl insS a).length = a.length + l.length
  | [], _ => rfl
  | c :: l, a => by
    rw [List.foldl_cons, foldS_len l _, insS_len, List.length_cons]; omega
theorem sort_len (l : List (Int × Int)) : (sortC l).length = l.length := by
  have := foldS_len l []
  simp at this; exact this
theorem foldS_mem (x : Int × Int) : ∀ (l a : List (Int × Int)), x ∈ l.foldl insS a ↔ x ∈ a ∨ x ∈ l
  | [], a => by simp
  | c :: l, a => by
    rw [List.foldl_cons, foldS_mem x l, insS_mem, List.mem_cons]
    constructor
    · rintro ((h | h) | h)
      · exact .inr (.inl h)
      · exact .inl h
      · exact .inr (.inr h)
    · rintro (h | h | h)
      · exact .inl (.inr h)
      · exact .inl (.inl h)
      · exact .inr h
theorem sort_mem (x : Int × Int) (l : List (Int × Int)) : x ∈ sortC l ↔ x ∈ l := by
  have := foldS_mem x l []
  simp at this; exact this
theorem foldS_id : ∀ (l a : List (Int × Int)), Srt (a ++ l) → l.foldl insS a = a ++ l
  | [], a, _ => by simp
  | c :: l, a, h => by
    have h1 : insS a c = a ++ [c] := by
      have := insS_split a [] c (fun x hx => by
        have := (List.pairwise_append.1 h).2.2 x hx c (by simp)
        exact this) (by simp)
      simpa using this
    rw [List.foldl_cons, h1, foldS_id l (a ++ [c]) (by simpa using h)]; simp
theorem sort_id {l : List (Int × Int)} (h : Srt l) : sortC l = l := by
  have := foldS_id l [] (by simpa using h)
  unfold sortC
  simpa using this

/-- The current one stands before all that follow. -/
def Ahead (x : Int × Int) (l : List (Int × Int)) : Prop := (∀ y ∈ l, loC x ≤ loC y) ∧ Srt l
theorem Ahead.of {x : Int × Int} {l : List (Int × Int)} (h : Srt (x :: l)) : Ahead x l := List.pairwise_cons.1 h
theorem Ahead.tail {x y : Int × Int} {l : List (Int × Int)} (h : Ahead x (y :: l)) : Ahead y l := List.pairwise_cons.1 h.2
theorem Ahead.with {x y z : Int × Int} {l : List (Int × Int)} (h : Ahead x (y :: l)) (hz : loC z ≤ loC x) : Ahead z l :=
  ⟨fun u hu => by have := h.1 u (by simp [hu]); omega, (List.pairwise_cons.1 h.2).2⟩
theorem run_hull {x y : Int × Int} (h : loC x ≤ loC y) : (loC x, max (hiC x) (hiC y)) = hull x y := by
  simp only [hull]; rw [Int.min_eq_left h]
theorem run_step {x y : Int × Int} {l : List (Int × Int)} (h : Ahead x (y :: l)) : runC x (y :: l) = if loC y ≤ hiC x then runC (hull x y) l else x :: runC y l := by
  rw [runC, run_hull (h.1 y (by simp))]
theorem ov_iff (x c : Int × Int) : ov x c = true ↔ loC x ≤ hiC c ∧ loC c ≤ hiC x := by simp [ov]
theorem ins_pos {x c : Int × Int} {o : List (Int × Int)} (h1 : loC x ≤ hiC c) (h2 : loC c ≤ hiC x) : insC (x :: o) c = insC o (hull x c) := by
  rw [insC, if_pos ((ov_iff _ _).2 ⟨h1, h2⟩)]
theorem ins_low {x c : Int × Int} {o : List (Int × Int)} (h : hiC x < loC c) : insC (x :: o) c = x :: insC o c := by
  have := lo_hi x
  rw [insC, if_neg (by rw [ov_iff]; omega), if_pos (by omega)]
theorem ins_high {x c : Int × Int} {o : List (Int × Int)} (h : hiC c < loC x) : insC (x :: o) c = c :: x :: o := by
  have := lo_hi c
  rw [insC, if_neg (by rw [ov_iff]; omega), if_neg (by omega)]
/-- The first of what is joined begins where the first one began. -/
theorem run_head (x : Int × Int) : ∀ (l : List (Int × Int)), ∃ y t, runC x l = y :: t ∧ loC y = loC x
  | [] => ⟨x, [], rfl, rfl⟩
  | z :: l => by
    rw [runC]; split
    · obtain ⟨y, t, h1, h2⟩ := run_head (loC x, max (hiC x) (hiC z)) l
      refine ⟨y, t, h1, ?_⟩
      rw [h2]; have := lo_hi x; simp only [loC, hiC] at *; omega
    · exact ⟨x, _, rfl, rfl⟩
theorem run_above {y c : Int × Int} (l : List (Int × Int)) (h : hiC c < loC y) : insC (runC y l) c = c :: runC y l := by
  obtain ⟨z, t, h1, h2⟩ := run_head y l
  rw [h1]; exact ins_high (by omega)
theorem run_meet (l : List (Int × Int)) : ∀ (x c : Int × Int), Ahead x l → loC x ≤ hiC c → loC c ≤ hiC x → insC (runC x l) c = runC (hull x c) l := by
  induction l with
  | nil => intro x c _ h1 h2; simp only [runC]; rw [ins_pos h1 h2]; rfl
  | cons y l ih =>
    intro x c ha h1 h2
    have e1 := lo_hull x c
    have e2 := hi_hull x c
    have hle := ha.1 y (by simp)
    have ha' : Ahead (hull x c) (y :: l) := ⟨fun u hu => by have := ha.1 u hu; omega, ha.2⟩
    rw [run_step ha, run_step ha', e2]
    by_cases hy : loC y ≤ hiC x
    · rw [if_pos hy, if_pos (by omega)]
      have f1 := lo_hull x y
      have f2 := hi_hull x y
      rw [ih (hull x y) c (ha.with (by omega)) (by omega) (by omega), hull_assoc]
    · rw [if_neg hy, ins_pos h1 h2]
      by_cases hm : loC y ≤ max (hiC x) (hiC c)
      · rw [if_pos hm, ih y (hull x c) ha.tail (by omega) (by have := lo_hi y; omega), hull_comm]
      · rw [if_neg hm, run_above l (by omega)]
theorem run_before {x c : Int × Int} {l : List (Int × Int)} (ha : Ahead x l) (h : loC c ≤ loC x) : insC (runC x l) c = runC c (x :: l) := by
  have h0 := lo_hi x
  have hc : Ahead c (x :: l) := ⟨fun u hu => by
    rcases List.mem_cons.1 hu with rfl | hu
    · exact h
    · have := ha.1 u hu; omega, List.pairwise_cons.2 ha⟩
  rw [run_step hc]
  by_cases hm : loC x ≤ hiC c
  · rw [if_pos hm, run_meet l x c ha hm (by omega), hull_comm]
  · rw [if_neg hm, run_above l (by omega)]
theorem run_behind (l : List (Int × Int)) : ∀ (x c : Int × Int), Ahead x l → loC x ≤ loC c → insC (runC x l) c = runC x (insS l c) := by
  induction l with
  | nil =>
    intro x c _ h
    have := lo_hi c
    have ha : Ahead x [c] := ⟨by simpa using h, by simp [Srt]⟩
    simp only [insS]
    rw [run_step ha]
    by_cases hm : loC c ≤ hiC x
    · rw [if_pos hm]; simp only [runC]; rw [ins_pos (by omega) hm]; rfl
    · rw [if_neg hm]; simp only [runC]; rw [ins_low (by omega)]; rfl
  | cons y l ih =>
    intro x c ha h
    have hc := lo_hi c
    have hy := lo_hi y
    have hxy := ha.1 y (by simp)
    rw [insS]
    by_cases hcy : loC c < loC y
    · rw [if_pos hcy]
      have ha' : Ahead x (c :: y :: l) := ⟨fun u hu => by
        rcases List.mem_cons.1 hu with rfl | hu
        · exact h
        · exact ha.1 u hu, List.pairwise_cons.2 ⟨fun u hu => by
            rcases List.mem_cons.1 hu with rfl | hu
            · omega
            · have := (ha.tail).1 u hu; omega, ha.2⟩⟩
      rw [run_step ha']
      by_cases hm : loC c ≤ hiC x
      · rw [if_pos hm, run_meet _ x c ha (by omega) hm]
      · rw [if_neg hm, run_step ha, if_neg (by omega), ins_low (by omega), run_before ha.tail (by omega)]
    · rw [if_neg hcy]
      have ha' : Ahead x (y :: insS l c) := ⟨fun u hu => by
        rcases List.mem_cons.1 hu with rfl | hu
        · exact hxy
        · rcases insS_mem.1 hu with rfl | hu
          · exact h
          · exact ha.1 u (by simp [hu]), List.pairwise_cons.2 ⟨fun u hu => by
            rcases insS_mem.1 hu with rfl | hu
            · omega
            · exact ha.tail.1 u hu, insS_srt ha.tail.2 c⟩⟩
      rw [run_step ha, run_step ha']
      have f1 := lo_hull x y
      by_cases hm : loC y ≤ hiC x
      · rw [if_pos hm, if_pos hm, ih (hull x y) c (ha.with (by omega)) (by omega)]
      · rw [if_neg hm, if_neg hm, ins_low (by omega), ih y c ha.tail (by omega)]
theorem mg_ins {l : List (Int × Int)} (h : Srt l) (c : Int × Int) : insC (mgC l) c = mgC (insS l c) := by
  cases l with
  | nil => rfl
  | cons x l =>
    have ha := Ahead.of h
    simp only [mgC, insS]
    by_cases hc : loC c < loC x
    · rw [if_pos hc]; exact run_before ha (by omega)
    · rw [if_neg hc]; exact run_behind l x c ha (by omega)
theorem fold_eq : ∀ (l a : List (Int × Int)), Srt a → mgC (l.foldl insS a) = l.foldl insC (mgC a)
  | [], _, _ => rfl
  | c :: l, a, h => by
    rw [List.foldl_cons, List.foldl_cons, mg_ins h c]
    exact fold_eq l _ (insS_srt h c)
/-- The program joins as the reference does. -/
theorem join_eq (l : List (Int × Int)) : joinI l = joinR l := fold_eq l [] List.Pairwise.nil

/-! What is joined stands apart. -/
theorem insC_low {b : Int} : ∀ {o : List (Int × Int)} {c : Int × Int}, (∀ x ∈ o, b < loC x) → b < loC c → ∀ x ∈ insC o c, b < loC x
  | [], c, _, hc => by simpa [insC] using hc
  | y :: o, c, ho, hc => by
    have hy := ho y (by simp)
    have ho' : ∀ x ∈ o, b < loC x := fun x hx => ho x (by simp [hx])
    rw [insC]; split
    · exact insC_low ho' (by rw [lo_hull]; omega)
    · split
      · intro x hx
        rcases List.mem_cons.1 hx with rfl | hx
        · exact hy
        · exact insC_low ho' hc x hx
      · intro x hx
        rcases List.mem_cons.1 hx with rfl | hx
        · exact hc
        · exact ho x hx
theorem insC_high {b : Int} : ∀ {o : List (Int × Int)} {c : Int × Int}, (∀ x ∈ o, hiC x ≤ b) → hiC c ≤ b → ∀ x ∈ insC o c, hiC x ≤ b
  | [], c, _, hc => by simpa [insC] using hc
  | y :: o, c, ho, hc => by
    have hy := ho y (by simp)
    have ho' : ∀ x ∈ o, hiC x ≤ b := fun x hx => ho x (by simp [hx])
    rw [insC]; split
    · exact insC_high ho' (by rw [hi_hull]; omega)
    · split
      · intro x hx
        rcases List.mem_cons.1 hx with rfl | hx
        · exact hy
        · exact insC_high ho' hc x hx
      · intro x hx
        rcases List.mem_cons.1 hx with rfl | hx
        · exact hc
        · exact ho x hx
theorem insC_apart : ∀ {o : List (Int × Int)} {c : Int × Int}, Apart o → Apart (insC o c)
  | [], c, _ => by simp [insC, Apart]
  | y :: o, c, h => by
    obtain ⟨h1, h2⟩ := List.pairwise_cons.1 h
    have hy := lo_hi y
    have hc := lo_hi c
    rw [insC]; split
    · exact insC_apart h2
    · rename_i hov
      rw [ov_iff] at hov
      split
      · refine List.pairwise_cons.2 ⟨insC_low h1 (by omega), insC_apart h2⟩
      · refine List.pairwise_cons.2 ⟨fun x hx => ?_, h⟩
        rcases List.mem_cons.1 hx with rfl | hx
        · omega
        · have := h1 x hx; omega
theorem foldC_apart : ∀ (l a : List (Int × Int)), Apart a → Apart (l.foldl insC a)
  | [], _, h => h
  | c :: l, a, h => foldC_apart l _ (insC_apart h)
theorem joinR_apart (l : List (Int × Int)) : Apart (joinR l) := foldC_apart l [] List.Pairwise.nil
theorem insC_len : ∀ (o : List (Int × Int)) (c : Int × Int), (insC o c).length ≤ o.length + 1 ∧ 1 ≤ (insC o c).length
  | [], c => by simp [insC]
  | y :: o, c => by
    rw [insC]; split
    · have := insC_len o (hull y c); simp; omega
    · split
      · have := insC_len o c; simp; omega
      · simp
theorem foldC_len : ∀ (l a : List (Int × Int)), (l.foldl insC a).length ≤ a.length + l.length
  | [], _ => by simp
  | c :: l, a => by
    rw [List.foldl_cons]
    have := foldC_len l (insC a c); have := insC_len a c; simp; omega
theorem joinR_len (l : List (Int × Int)) : (joinR l).length ≤ l.length := by
  have := foldC_len l []; simpa [joinR] using this
theorem insC_end : ∀ {o : List (Int × Int)} {c : Int × Int}, (∀ x ∈ o, hiC x < loC c) → insC o c = o ++ [c]
  | [], c, _ => rfl
  | y :: o, c, h => by
    rw [ins_low (h y (by simp)), insC_end fun x hx => h x (by simp [hx])]; rfl
theorem foldC_id : ∀ (l a : List (Int × Int)), Apart (a ++ l) → l.foldl insC a = a ++ l
  | [], a, _ => by simp
  | c :: l, a, h => by
    have h1 : insC a c = a ++ [c] := insC_end fun x hx => (List.pairwise_append.1 h).2.2 x hx c (by simp)
    rw [List.foldl_cons, h1, foldC_id l (a ++ [c]) (by simpa using h)]; simp
theorem joinR_id {l : List (Int × Int)} (h : Apart l) : joinR l = l := by
  have := foldC_id l [] (by simpa using h)
  simpa [joinR] using this
/-- c is within one of o. -/
def Within (o : List (Int × Int)) (c : Int × Int) : Prop := ∃ x ∈ o, loC x ≤ loC c ∧ hiC c ≤ hiC x
theorem insC_new : ∀ (o : List (Int × Int)) (c : Int × Int), Within (insC o c) c
  | [], c => ⟨c, by simp [insC], Int.le_refl _, Int.le_refl _⟩
  | y :: o, c => by
    rw [insC]; split
    · obtain ⟨x, h1, h2, h3⟩ := insC_new o (hull y c)
      rw [lo_hull] at h2; rw [hi_hull] at h3
      exact ⟨x, h1, by omega, by omega⟩
    · split
      · obtain ⟨x, h1, h2, h3⟩ := insC_new o c
        exact ⟨x, by simp [h1], h2, h3⟩
      · exact ⟨c, by simp, Int.le_refl _, Int.le_refl _⟩
theorem insC_old : ∀ (o : List (Int × Int)) (c d : Int × Int), Within o d → Within (insC o c) d
  | [], c, d, h => by obtain ⟨x, hx, _⟩ := h; simp at hx
  | y :: o, c, d, h => by
    obtain ⟨x, hx, h1, h2⟩ := h
    rw [insC]; split
    · rcases List.mem_cons.1 hx with rfl | hx
      · obtain ⟨z, g1, g2, g3⟩ := insC_new o (hull x c)
        rw [lo_hull] at g2; rw [hi_hull] at g3
        exact ⟨z, g1, by omega, by omega⟩
      · exact insC_old o _ d ⟨x, hx, h1, h2⟩
    · split
      · rcases List.mem_cons.1 hx with rfl | hx
        · exact ⟨x, by simp, h1, h2⟩
        · obtain ⟨z, g1, g2, g3⟩ := insC_old o c d ⟨x, hx, h1, h2⟩
          exact ⟨z, by simp [g1], g2, g3⟩
      · exact ⟨x, by simpa using .inr (List.mem_cons.1 hx), h1, h2⟩
theorem foldC_within (d : Int × Int) : ∀ (l a : List (Int × Int)), (Within a d ∨ d ∈ l) → Within (l.foldl insC a) d
  | [], a, h => by simpa using h
  | c :: l, a, h => by
    rw [List.foldl_cons]
    refine foldC_within d l _ ?_
    rcases h with h | h
    · exact .inl (insC_old a c d h)
    · rcases List.mem_cons.1 h with rfl | h
      · exact .inl (insC_new a d)
      · exact .inr h
theorem joinR_within {l : List (Int × Int)} {d : Int × Int} (h : d ∈ l) : Within (joinR l) d := foldC_within d l [] (.inr h)
theorem joinR_low {b : Int} {l : List (Int × Int)} (h : ∀ x ∈ l, b < loC x) : ∀ x ∈ joinR l, b < loC x := by
  have : ∀ (l a : List (Int × Int)), (∀ x ∈ l, b < loC x) → (∀ x ∈ a, b < loC x) → ∀ x ∈ l.foldl insC a, b < loC x := by
    intro l
    induction l with
    | nil => intro a _ h; exact h
    | cons c l ih => intro a h1 h2; exact ih _ (fun x hx => h1 x (by simp [hx])) (insC_low h2 (h1 c (by simp)))
  exact this l [] h (by simp)
theorem joinR_high {b : Int} {l : List (Int × Int)} (h : ∀ x ∈ l, hiC x ≤ b) : ∀ x ∈ joinR l, hiC x ≤ b := by
  have : ∀ (l a : List (Int × Int)), (∀ x ∈ l, hiC x ≤ b) → (∀ x ∈ a, hiC x ≤ b) → ∀ x ∈ l.foldl insC a, hiC x ≤ b := by
    intro l
    induction l with
    | nil => intro a _ h; exact h
    | cons c l ih => intro a h1 h2; exact ih _ (fun x hx => h1 x (by simp [hx])) (insC_high h2 (h1 c (by simp)))
  exact this l [] h (by simp)

/-! Valid cursors. -/
def apC : List (Int × Int) → Bool
  | [] => true
  | x :: l => (match l with | [] => true | y :: _ => decide (hiC x < loC y)) && apC l
theorem apC_two (x y : Int × Int) (l : List (Int × Int)) : apC (x :: y :: l) = (decide (hiC x < loC y) && apC (y :: l)) := rfl
theorem apC_one (x : Int × Int) : apC [x] = true := rfl
theorem apC_iff : ∀ (l : List (Int × Int)), apC l = true ↔ Apart l
  | [] => by simp [apC, Apart]
  | [x] => by simp [apC, Apart]
  | x :: y :: l => by
    have ih := apC_iff (y :: l)
    rw [apC_two, Bool.and_eq_true, ih, decide_eq_true_iff]
    constructor
    · rintro ⟨h1, h2⟩
      refine List.pairwise_cons.2 ⟨fun z hz => ?_, h2⟩
      rcases List.mem_cons.1 hz with rfl | hz
      · exact h1
      · have := (List.pairwise_cons.1 h2).1 z hz
        have := lo_hi y
        show hiC x < loC z
        omega
    · intro h
      have := List.pairwise_cons.1 h
      exact ⟨this.1 y (by simp), this.2⟩
def inC (n : Nat) (c : Int × Int) : Bool := decide (0 ≤ loC c) && decide (hiC c ≤ n)
def allIn (n : Nat) : List (Int × Int) → Bool
  | [] => true
  | c :: l => inC n c && allIn n l
theorem allIn_iff {n : Nat} : ∀ {l : List (Int × Int)}, allIn n l = true ↔ ∀ c ∈ l, 0 ≤ loC c ∧ hiC c ≤ n
  | [] => by simp [allIn]
  | c :: l => by simp [allIn, inC, allIn_iff (l := l)]
/-- Cursors at places of a valid text, at most eight. -/
def plV (s : ByteArray) (l : List (Int × Int)) : Bool := valid s.data.toList && allIn s.size l && decide (l.length ≤ 8)
def cuV (s : ByteArray) (l : List (Int × Int)) : Bool := apC l && plV s l
def jcL (s : ByteArray) (l : List (Int × Int)) : List (Int × Int) := if plV s l = true then joinR l else []
theorem plV_iff {s : ByteArray} {l : List (Int × Int)} : plV s l = true ↔ valid s.data.toList = true ∧ (∀ c ∈ l, 0 ≤ loC c ∧ hiC c ≤ s.size) ∧ l.length ≤ 8 := by
  simp [plV, allIn_iff, and_assoc]
theorem cuV_iff {s : ByteArray} {l : List (Int × Int)} : cuV s l = true ↔ Apart l ∧ plV s l = true := by
  simp [cuV, apC_iff]
theorem joinR_pl {s : ByteArray} {l : List (Int × Int)} (h : plV s l = true) : plV s (joinR l) = true := by
  obtain ⟨h1, h2, h3⟩ := plV_iff.1 h
  refine plV_iff.2 ⟨h1, fun c hc => ⟨?_, joinR_high (fun x hx => (h2 x hx).2) c hc⟩, Nat.le_trans (joinR_len l) h3⟩
  have := joinR_low (b := -1) (fun x hx => by have := (h2 x hx).1; omega) c hc
  omega
/-- Joined cursors are valid. -/
theorem join_valid {s : ByteArray} {l : List (Int × Int)} (h : plV s l = true) : cuV s (joinR l) = true := cuV_iff.2 ⟨joinR_apart l, joinR_pl h⟩
theorem join_again {s : ByteArray} {l : List (Int × Int)} (h : cuV s l = true) : jcL s l = l := by
  obtain ⟨h1, h2⟩ := cuV_iff.1 h
  unfold jcL; rw [if_pos h2, joinR_id h1]
end Go.Proofs.Ytmdjmaijennmkaa
