/- What is typed and erased at cursors, in plain words. -/
import Derived.Test.YtmdjmaijennmkaaCu
set_option linter.unusedVariables false
set_option linter.unusedSimpArgs false
namespace Go.Proofs.Ytmdjmaijennmkaa
open Go.RowKit

/-- What is put together from a place on: the text outside the parts, with the other text for each of them. -/
def tyFrom (sl wl : List UInt8) : List (Int × Int) → Nat → List UInt8
  | [], a => sl.drop a
  | c :: r, a => (sl.drop a).take (c.1.toNat - a) ++ wl ++ tyFrom sl wl r c.2.toNat
/-- The cursors behind what was put: a the place where the text goes on, n what has been put together. -/
def cuFrom (m : Nat) : List (Int × Int) → Nat → Nat → List (Int × Int)
  | [], _, _ => []
  | c :: r, a, n => (((n + (c.1.toNat - a) + m : Nat) : Int), ((n + (c.1.toNat - a) + m : Nat) : Int)) :: cuFrom m r c.2.toNat (n + (c.1.toNat - a) + m)
def fits (n : Nat) : List (Int × Int) → Nat → Prop
  | [], a => a ≤ n
  | c :: r, a => (a : Int) ≤ c.1 ∧ c.1 ≤ c.2 ∧ c.2 ≤ n ∧ fits n r c.2.toNat
def endsC (c : Int × Int) : Int × Int := (loC c, hiC c)
def wideC (c : Int × Int) : Int × Int := (if loC c = hiC c then max 0 (loC c - 1) else loC c, hiC c)

theorem cuFrom_len (m : Nat) : ∀ (l : List (Int × Int)) (a n : Nat), (cuFrom m l a n).length = l.length
  | [], _, _ => rfl
  | c :: r, a, n => by simp [cuFrom, cuFrom_len m r]
theorem fits_le {n : Nat} : ∀ {l : List (Int × Int)} {a : Nat}, fits n l a → a ≤ n
  | [], _, h => h
  | c :: r, a, h => by obtain ⟨h1, h2, h3, _⟩ := h; omega
theorem fits_drop {n : Nat} : ∀ {l : List (Int × Int)} {a k : Nat} (h : fits n l a) (hk : k < l.length), ∃ p q : Nat, l[k] = ((p : Int), (q : Int)) ∧ p ≤ q ∧ q ≤ n ∧ fits n (l.drop (k + 1)) q
  | c :: r, a, 0, h, _ => by
    obtain ⟨h1, h2, h3, h4⟩ := h
    obtain ⟨p, hp⟩ := Int.eq_ofNat_of_zero_le (show 0 ≤ c.1 by omega)
    obtain ⟨q, hq⟩ := Int.eq_ofNat_of_zero_le (show 0 ≤ c.2 by omega)
    refine ⟨p, q, by simp [← hp, ← hq], by omega, by omega, ?_⟩
    rw [hq] at h4
    simpa using h4
  | c :: r, a, k + 1, h, hk => by
    obtain ⟨p, q, h1, h2⟩ := fits_drop h.2.2.2 (k := k) (by simpa using hk)
    exact ⟨p, q, by simpa using h1, by simpa using h2⟩
theorem fits_ends {n : Nat} : ∀ {l : List (Int × Int)} {a : Nat}, Apart l → (∀ c ∈ l, 0 ≤ loC c ∧ hiC c ≤ n) → (∀ c ∈ l, (a : Int) ≤ loC c) → a ≤ n → fits n (l.map endsC) a
  | [], _, _, _, _, h => h
  | c :: l, a, h1, h2, h3, h4 => by
    obtain ⟨g1, g2⟩ := List.pairwise_cons.1 h1
    have hc := h2 c (by simp)
    have := lo_hi c
    refine ⟨h3 c (by simp), this, hc.2, fits_ends g2 (fun x hx => h2 x (by simp [hx])) (fun x hx => ?_) ?_⟩
    · have := g1 x hx
      simp only [endsC]; omega
    · simp only [endsC]; omega
theorem wide_bnd (c : Int × Int) (h : 0 ≤ loC c) : loC c - 1 ≤ (wideC c).1 ∧ (wideC c).1 ≤ (wideC c).2 ∧ 0 ≤ (wideC c).1 ∧ (wideC c).2 = hiC c := by
  have := lo_hi c
  unfold wideC
  refine ⟨?_, ?_, ?_, rfl⟩ <;> (simp only; split <;> omega)
theorem fits_wide {n : Nat} : ∀ {l : List (Int × Int)} {a : Nat}, Apart l → (∀ c ∈ l, 0 ≤ loC c ∧ hiC c ≤ n) → (∀ c ∈ l, (a : Int) < loC c ∨ a = 0) → a ≤ n → fits n (l.map wideC) a
  | [], _, _, _, _, h => h
  | c :: l, a, h1, h2, h3, h4 => by
    obtain ⟨g1, g2⟩ := List.pairwise_cons.1 h1
    have hc := h2 c (by simp)
    have := lo_hi c
    obtain ⟨w1, w2, w3, w4⟩ := wide_bnd c hc.1
    refine ⟨?_, w2, by omega, fits_wide g2 (fun x hx => h2 x (by simp [hx])) (fun x hx => ?_) ?_⟩
    · rcases h3 c (by simp) with h | h <;> omega
    · have := g1 x hx
      rw [w4]; left; omega
    · rw [w4]; omega
theorem cu_fits {s : ByteArray} {l : List (Int × Int)} (h : cuV s l = true) : fits s.size (l.map endsC) 0 := by
  obtain ⟨h1, h2⟩ := cuV_iff.1 h
  obtain ⟨_, h3, _⟩ := plV_iff.1 h2
  exact fits_ends h1 h3 (fun c hc => (h3 c hc).1) (Nat.zero_le _)
theorem cu_wide {s : ByteArray} {l : List (Int × Int)} (h : cuV s l = true) : fits s.size (l.map wideC) 0 := by
  obtain ⟨h1, h2⟩ := cuV_iff.1 h
  obtain ⟨_, h3, _⟩ := plV_iff.1 h2
  exact fits_wide h1 h3 (fun c hc => .inr rfl) (Nat.zero_le _)
theorem fits_bnd {n : Nat} : ∀ {l : List (Int × Int)} {a : Nat}, fits n l a → ∀ c ∈ l, (a : Int) ≤ c.1 ∧ c.1 ≤ c.2 ∧ c.2 ≤ n
  | c :: l, a, h, d, hd => by
    obtain ⟨h1, h2, h3, h4⟩ := h
    rcases List.mem_cons.1 hd with rfl | hd
    · exact ⟨h1, h2, h3⟩
    · obtain ⟨g1, g2, g3⟩ := fits_bnd h4 d hd
      exact ⟨by omega, g2, g3⟩
theorem pair_lo {c : Int × Int} (h : c.1 ≤ c.2) : loC c = c.1 ∧ hiC c = c.2 := by unfold loC hiC; omega
theorem wide_pl {s : ByteArray} {l : List (Int × Int)} (h : cuV s l = true) : plV s (l.map wideC) = true := by
  have hf := fits_bnd (cu_wide h)
  obtain ⟨_, h2⟩ := cuV_iff.1 h
  obtain ⟨g1, _, g3⟩ := plV_iff.1 h2
  refine plV_iff.2 ⟨g1, fun c hc => ?_, by simpa using g3⟩
  obtain ⟨f1, f2, f3⟩ := hf c hc
  obtain ⟨p1, p2⟩ := pair_lo f2
  rw [p1, p2]; exact ⟨by omega, f3⟩
theorem fits_srt {n : Nat} : ∀ {l : List (Int × Int)} {a : Nat}, fits n l a → Srt l
  | [], _, _ => List.Pairwise.nil
  | c :: l, a, h => by
    refine List.pairwise_cons.2 ⟨fun d hd => ?_, fits_srt h.2.2.2⟩
    obtain ⟨g1, g2, _⟩ := fits_bnd h.2.2.2 d hd
    obtain ⟨_, h2, _⟩ := h
    rw [(pair_lo h2).1, (pair_lo g2).1]; omega
/-- Erasing at parts that touch is erasing at them joined. -/
theorem ty_run (sl : List UInt8) {n : Nat} : ∀ (l : List (Int × Int)) (x : Int × Int) (a : Nat), (a : Int) ≤ x.1 → x.1 ≤ x.2 → fits n l x.2.toNat → tyFrom sl [] ((runC x l).map endsC) a = tyFrom sl [] (x :: l) a
  | [], x, a, _, h, _ => by
    obtain ⟨p1, p2⟩ := pair_lo h
    simp only [runC, List.map_cons, List.map_nil, endsC, p1, p2]
  | y :: l, x, a, h0, h, hf => by
    obtain ⟨g1, g2, g3, g4⟩ := hf
    obtain ⟨p1, p2⟩ := pair_lo h
    obtain ⟨q1, q2⟩ := pair_lo g2
    rw [runC, p1, p2, q1, q2]
    split
    · have e : max x.2 y.2 = y.2 := by omega
      rw [e, ty_run sl l (x.1, y.2) a h0 (by show x.1 ≤ y.2; omega) g4]
      have e2 : y.1.toNat - x.2.toNat = 0 := by omega
      simp [tyFrom, e2]
    · have ih := ty_run sl l y x.2.toNat (by omega) g2 g4
      have e : endsC x = x := by unfold endsC; rw [p1, p2]
      rw [List.map_cons, e, tyFrom, ih]
      rfl
theorem cu_run {n : Nat} : ∀ (l : List (Int × Int)) (x : Int × Int) (a k : Nat), (a : Int) ≤ x.1 → x.1 ≤ x.2 → fits n l x.2.toNat → mgC (cuFrom 0 (x :: l) a k) = cuFrom 0 ((runC x l).map endsC) a k
  | [], x, a, k, _, h, _ => by
    obtain ⟨p1, p2⟩ := pair_lo h
    simp only [runC, List.map_cons, List.map_nil, endsC, p1, p2, cuFrom, mgC]
  | y :: l, x, a, k, h0, h, hf => by
    obtain ⟨g1, g2, g3, g4⟩ := hf
    obtain ⟨p1, p2⟩ := pair_lo h
    obtain ⟨q1, q2⟩ := pair_lo g2
    have hd : ∀ m : Int, loC (m, m) = m ∧ hiC (m, m) = m := fun m => by simp [loC, hiC]
    have e1 : cuFrom 0 (x :: y :: l) a k = (((k + (x.1.toNat - a) : Nat) : Int), ((k + (x.1.toNat - a) : Nat) : Int)) :: cuFrom 0 (y :: l) x.2.toNat (k + (x.1.toNat - a)) := rfl
    have e2 : cuFrom 0 (y :: l) x.2.toNat (k + (x.1.toNat - a)) = (((k + (x.1.toNat - a) + (y.1.toNat - x.2.toNat) : Nat) : Int), ((k + (x.1.toNat - a) + (y.1.toNat - x.2.toNat) : Nat) : Int)) :: cuFrom 0 l y.2.toNat (k + (x.1.toNat - a) + (y.1.toNat - x.2.toNat)) := rfl
    rw [e1, mgC, e2, runC, (hd _).1, (hd _).2, runC, p1, p2, q1, q2]
    by_cases hxy : y.1 ≤ x.2
    · have e : max x.2 y.2 = y.2 := by omega
      have e3 : y.1.toNat - x.2.toNat = 0 := by omega
      rw [if_pos hxy, if_pos (by omega), (hd _).1, (hd _).2, e, e3, Nat.add_zero, ← cu_run l (x.1, y.2) a k h0 (by show x.1 ≤ y.2; omega) g4]
      show _ = runC _ _
      congr 1
      simp
    · rw [if_neg hxy, if_neg (by omega)]
      have ih := cu_run l y x.2.toNat (k + (x.1.toNat - a)) (by omega) g2 g4
      rw [e2, mgC] at ih
      rw [ih, List.map_cons]
      simp only [endsC, p1, p2]
      rfl
theorem cuFrom_lb (m : Nat) : ∀ (l : List (Int × Int)) (a n : Nat), ∀ x ∈ cuFrom m l a n, (n + m : Int) ≤ x.1 ∧ x.1 = x.2
  | [], _, _, x, h => by simp [cuFrom] at h
  | c :: r, a, n, x, h => by
    rw [cuFrom] at h
    rcases List.mem_cons.1 h with rfl | h
    · exact ⟨by simp only; omega, rfl⟩
    · obtain ⟨g1, g2⟩ := cuFrom_lb m r _ _ x h
      exact ⟨by omega, g2⟩
theorem diag {x : Int × Int} (h : x.1 = x.2) : loC x = x.1 ∧ hiC x = x.1 := by unfold loC hiC; omega
theorem cuFrom_srt (m : Nat) : ∀ (l : List (Int × Int)) (a n : Nat), Srt (cuFrom m l a n)
  | [], _, _ => List.Pairwise.nil
  | c :: r, a, n => by
    refine List.pairwise_cons.2 ⟨fun x hx => ?_, cuFrom_srt m r _ _⟩
    obtain ⟨h1, h2⟩ := cuFrom_lb m r _ _ x hx
    rw [(diag h2).1]; unfold loC; simp only; omega
theorem cuFrom_apart {m : Nat} (hm : 0 < m) : ∀ (l : List (Int × Int)) (a n : Nat), Apart (cuFrom m l a n)
  | [], _, _ => List.Pairwise.nil
  | c :: r, a, n => by
    refine List.pairwise_cons.2 ⟨fun x hx => ?_, cuFrom_apart hm r _ _⟩
    obtain ⟨h1, h2⟩ := cuFrom_lb m r _ _ x hx
    rw [(diag h2).1]; unfold hiC; simp only; omega
theorem joinR_sorted {l : List (Int × Int)} (h : Srt l) : joinR l = mgC l := by rw [← join_eq, joinI, sort_id h]
/-- What the program erases and what the reference erases. -/
theorem erase_eq (sl : List UInt8) {n : Nat} {l : List (Int × Int)} (h : fits n l 0) :
    tyFrom sl [] l 0 = tyFrom sl [] ((joinR l).map endsC) 0 ∧ joinR (cuFrom 0 l 0 0) = joinR (cuFrom 0 ((joinR l).map endsC) 0 0) := by
  rw [joinR_sorted (fits_srt h)]
  cases l with
  | nil => exact ⟨rfl, rfl⟩
  | cons x l =>
    obtain ⟨h1, h2, _, h4⟩ := h
    have e1 : joinR (cuFrom 0 (x :: l) 0 0) = cuFrom 0 ((runC x l).map endsC) 0 0 := by
      rw [joinR_sorted (cuFrom_srt 0 _ _ _), cu_run l x 0 0 (by simpa using h1) h2 h4]
    refine ⟨(ty_run sl l x 0 (by simpa using h1) h2 h4).symm, ?_⟩
    have e2 : Apart (cuFrom 0 ((runC x l).map endsC) 0 0) := e1 ▸ joinR_apart _
    rw [e1]; exact (joinR_id e2).symm
/-- The cursors behind what was put are places of what was put together. -/
theorem cuFrom_ub (sl wl : List UInt8) {n : Nat} : ∀ (l : List (Int × Int)) (a k : Nat), fits sl.length l a → ∀ x ∈ cuFrom wl.length l a k, x.1 ≤ (k + (tyFrom sl wl l a).length : Nat)
  | [], _, _, _, x, h => by simp [cuFrom] at h
  | c :: r, a, k, hf, x, h => by
    obtain ⟨h1, h2, h3, h4⟩ := hf
    rw [cuFrom] at h
    simp only [tyFrom, List.length_append, List.length_take, List.length_drop]
    have e : min (c.1.toNat - a) (sl.length - a) = c.1.toNat - a := by omega
    rw [e]
    rcases List.mem_cons.1 h with rfl | h
    · simp only; omega
    · have := cuFrom_ub sl wl (n := n) r c.2.toNat _ h4 x h
      omega
theorem cu_pl {s wth out : ByteArray} {l : List (Int × Int)} (hf : fits s.size l 0) (hl : l.length ≤ 8) (ho : out.data.toList = tyFrom s.data.toList wth.data.toList l 0) (hv : valid out.data.toList = true) :
    plV out (cuFrom wth.size l 0 0) = true := by
  have hs : s.size = s.data.toList.length := by simp
  have hw : wth.size = wth.data.toList.length := by simp
  have ho2 : out.size = (tyFrom s.data.toList wth.data.toList l 0).length := by rw [← ho]; simp
  refine plV_iff.2 ⟨hv, fun c hc => ?_, by rw [cuFrom_len]; exact hl⟩
  obtain ⟨g1, g2⟩ := cuFrom_lb _ _ _ _ c hc
  rw [hs] at hf
  rw [hw] at hc
  have := cuFrom_ub s.data.toList wth.data.toList (n := 0) l 0 0 hf c hc
  rw [(diag g2).1, (diag g2).2, ho2]
  exact ⟨by omega, by omega⟩
theorem allOk_sub {l m : List UInt8} (h : l.Sublist m) (hm : allOk m = true) : allOk l = true := by
  induction h with
  | slnil => rfl
  | cons a _ ih => exact ih (by simp [allOk] at hm; exact hm.2)
  | cons_cons a _ ih => simp [allOk] at hm ⊢; exact ⟨hm.1, ih hm.2⟩
theorem ty_sub (sl : List UInt8) : ∀ (l : List (Int × Int)) (a : Nat), fits sl.length l a → (tyFrom sl [] l a).Sublist (sl.drop a)
  | [], a, _ => List.Sublist.refl _
  | c :: r, a, h => by
    obtain ⟨h1, h2, h3, h4⟩ := h
    have ih := ty_sub sl r c.2.toNat h4
    have e : sl.drop a = (sl.drop a).take (c.1.toNat - a) ++ (sl.drop a).drop (c.1.toNat - a) := (List.take_append_drop _ _).symm
    rw [tyFrom, List.append_nil]
    conv => rhs; rw [e]
    refine List.Sublist.append (List.Sublist.refl _) (ih.trans ?_)
    have e2 : sl.drop c.2.toNat = ((sl.drop a).drop (c.1.toNat - a)).drop (c.2.toNat - c.1.toNat) := by
      rw [List.drop_drop, List.drop_drop]; congr 1; omega
    rw [e2]; exact List.drop_sublist _ _
theorem erase_valid {sl : List UInt8} {l : List (Int × Int)} (hf : fits sl.length l 0) (hv : valid sl = true) : valid (tyFrom sl [] l 0) = true := by
  have h1 := ty_sub sl l 0 hf
  rw [List.drop_zero] at h1
  have h2 := h1.length_le
  simp [valid] at hv ⊢
  exact ⟨allOk_sub h1 hv.1, by omega⟩

/-! What TypeAll and EraseAll return. -/
def tyX (s put : ByteArray) (l : List (Int × Int)) : ByteArray := ⟨(tyFrom s.data.toList put.data.toList (l.map endsC) 0).toArray⟩
def tyOk (s put : ByteArray) (l : List (Int × Int)) : Bool := cuV s l && valid (tyX s put l).data.toList
def tyS (s put : ByteArray) (l : List (Int × Int)) : ByteArray := if cuV s l = true then (if valid (tyX s put l).data.toList = true then tyX s put l else s) else ⟨#[]⟩
def tyC (s put : ByteArray) (l : List (Int × Int)) : List (Int × Int) := if cuV s l = true then (if valid (tyX s put l).data.toList = true then joinR (cuFrom put.size (l.map endsC) 0 0) else l) else []
def erX (s : ByteArray) (l : List (Int × Int)) : ByteArray := ⟨(tyFrom s.data.toList [] (l.map wideC) 0).toArray⟩
def erS (s : ByteArray) (l : List (Int × Int)) : ByteArray := if cuV s l = true then erX s l else ⟨#[]⟩
def erC (s : ByteArray) (l : List (Int × Int)) : List (Int × Int) := if cuV s l = true then joinR (cuFrom 0 (l.map wideC) 0 0) else []
/-- The reference erases by typing nothing at the joined parts. -/
theorem er_ref {s : ByteArray} {l : List (Int × Int)} (h : cuV s l = true) : cuV s (jcL s (l.map wideC)) = true ∧ tyS s ⟨#[]⟩ (jcL s (l.map wideC)) = erS s l ∧ tyC s ⟨#[]⟩ (jcL s (l.map wideC)) = erC s l ∧ tyOk s ⟨#[]⟩ (jcL s (l.map wideC)) = true := by
  have hp := wide_pl h
  have hf := cu_wide h
  have hs : s.size = s.data.toList.length := by simp
  have hv := (plV_iff.1 hp).1
  have hj : jcL s (l.map wideC) = joinR (l.map wideC) := by unfold jcL; rw [if_pos hp]
  rw [hj]
  have hc := join_valid hp
  obtain ⟨e1, e2⟩ := erase_eq s.data.toList hf
  have hx : tyX s ⟨#[]⟩ (joinR (l.map wideC)) = erX s l := by
    unfold tyX erX; rw [e1]
  have hval : valid (erX s l).data.toList = true := by
    have := erase_valid (sl := s.data.toList) (by rw [← hs]; exact hf) hv
    simpa [erX] using this
  refine ⟨hc, ?_, ?_, ?_⟩
  · unfold tyS erS; rw [if_pos hc, if_pos h, hx, if_pos hval]
  · unfold tyC erC; rw [if_pos hc, if_pos h, hx, if_pos hval, e2]; rfl
  · unfold tyOk; rw [hc, hx, hval]; rfl
end Go.Proofs.Ytmdjmaijennmkaa
