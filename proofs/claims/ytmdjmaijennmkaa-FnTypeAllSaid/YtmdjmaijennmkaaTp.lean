/- Plain laws on what TypeAll answers. -/
import Derived.Test.YtmdjmaijennmkaaAc
set_option linter.unusedVariables false
set_option linter.unusedSimpArgs false
namespace Go.Proofs.Ytmdjmaijennmkaa
open Go.RowKit
def tySum (m : Int) : List (Int × Int) → Int
  | [] => 0
  | c :: r => (m - (hiC c - loC c)) + tySum m r
theorem tySum_snoc (m : Int) (c : Int × Int) : ∀ l : List (Int × Int), tySum m (l ++ [c]) = tySum m l + (m - (hiC c - loC c))
  | [] => by simp [tySum]
  | x :: l => by simp only [List.cons_append, tySum, tySum_snoc m c l]; omega
theorem ty_len (sl wl : List UInt8) : ∀ (l : List (Int × Int)) (a : Nat), fits sl.length (l.map endsC) a → ((tyFrom sl wl (l.map endsC) a).length : Int) = (sl.length : Int) - a + tySum wl.length l
  | [], a, h => by
    have h' : a ≤ sl.length := h
    simp only [List.map_nil, tyFrom, tySum, List.length_drop]; omega
  | c :: r, a, h => by
    obtain ⟨h1, h2, h3, h4⟩ := h
    have ih := ty_len sl wl r _ h4
    have e1 : (endsC c).1 = loC c := rfl
    have e2 : (endsC c).2 = hiC c := rfl
    rw [e1] at h1 h2
    rw [e2] at h2 h3 ih
    simp only [List.map_cons, tyFrom, tySum, List.length_append, List.length_take, List.length_drop, e1, e2]
    omega
theorem joined_diag (l : List (Int × Int)) {n : Nat} (h : fits n l 0) : ∀ x ∈ joinR (cuFrom 0 l 0 0), x.1 = x.2 := by
  cases l with
  | nil => intro x hx; simp [cuFrom, joinR] at hx
  | cons c l =>
    obtain ⟨h1, h2, _, h4⟩ := h
    have e1 : joinR (cuFrom 0 (c :: l) 0 0) = cuFrom 0 ((runC c l).map endsC) 0 0 := by
      rw [joinR_sorted (cuFrom_srt 0 _ _ _), cu_run l c 0 0 (by simpa using h1) h2 h4]
    rw [e1]
    exact fun x hx => (cuFrom_lb 0 _ _ _ x hx).2
theorem ty_good {s put : ByteArray} {l : List (Int × Int)} (h : tyOk s put l = true) :
    ((tyS s put l).size : Int) = s.size + tySum put.size l ∧ (∀ x ∈ tyC s put l, x.1 = x.2) ∧ cuV (tyS s put l) (tyC s put l) = true ∧ (0 < put.size → (tyC s put l).length = l.length) ∧
      (∀ c, l = [c] → ∃ p q : Nat, loC c = p ∧ hiC c = q ∧ p ≤ q ∧ q ≤ s.size ∧ tyS s put l = acX s put p q ∧ tyC s put l = [(((p + put.size : Nat) : Int), ((p + put.size : Nat) : Int))]) ∧ valid s.data.toList = true ∧ valid (tyS s put l).data.toList = true ∧ cuV s l = true := by
  unfold tyOk at h
  rw [Bool.and_eq_true] at h
  obtain ⟨hv, hval⟩ := h
  have hf := cu_fits hv
  have hpl := (cuV_iff.1 hv).2
  obtain ⟨hvs, _, h8⟩ := plV_iff.1 hpl
  have hs : s.size = s.data.toList.length := by simp
  have hps : put.size = put.data.toList.length := by simp
  have e1 : tyS s put l = tyX s put l := by unfold tyS; rw [if_pos hv, if_pos hval]
  have e2 : tyC s put l = joinR (cuFrom put.size (l.map endsC) 0 0) := by unfold tyC; rw [if_pos hv, if_pos hval]
  have hx : (tyX s put l).data.toList = tyFrom s.data.toList put.data.toList (l.map endsC) 0 := rfl
  rw [e1, e2]
  refine ⟨?_, ?_, ?_, ?_, ?_, hvs, hval, hv⟩
  · have := ty_len s.data.toList put.data.toList l 0 (by rw [← hs]; exact hf)
    rw [← hx, ← hps] at this
    have e3 : (tyX s put l).size = (tyX s put l).data.toList.length := by simp
    rw [e3, this, ← hs]; simp
  · by_cases hm : 0 < put.size
    · rw [joinR_id (cuFrom_apart hm _ _ _)]
      exact fun x hx => (cuFrom_lb _ _ _ _ x hx).2
    · obtain hm : put.size = 0 := by omega
      rw [hm]
      exact joined_diag _ hf
  · exact join_valid (cu_pl hf (by simpa using h8) hx hval)
  · intro hm
    rw [joinR_id (cuFrom_apart hm _ _ _), cuFrom_len, List.length_map]
  · rintro c rfl
    obtain ⟨h1, h2, h3, _⟩ := hf
    have a1 : (endsC c).1 = loC c := rfl
    have a2 : (endsC c).2 = hiC c := rfl
    rw [a1] at h1 h2
    rw [a2] at h2 h3
    obtain ⟨p, hp⟩ := Int.eq_ofNat_of_zero_le (show 0 ≤ loC c by omega)
    obtain ⟨q, hq⟩ := Int.eq_ofNat_of_zero_le (show 0 ≤ hiC c by omega)
    refine ⟨p, q, hp, hq, by omega, by omega, ?_, ?_⟩
    · apply ba_ext
      rw [hx]
      show _ = (s.extract 0 p ++ put ++ s.extract q s.size).data.toList
      rw [tail_data, ByteArray.data_append, Array.toList_append, Lib.extract_data]
      simp only [List.map_cons, List.map_nil, tyFrom, a1, a2, hp, hq]
      have u1 : (Int.ofNat p).toNat = p := rfl
      have u2 : (Int.ofNat q).toNat = q := rfl
      have u3 : ((p : Nat) : Int).toNat = p := rfl
      have u4 : ((q : Nat) : Int).toNat = q := rfl
      first | rw [u1, u2] | rw [u3, u4]
    · have e3 : cuFrom put.size ([c].map endsC) 0 0 = [(((p + put.size : Nat) : Int), ((p + put.size : Nat) : Int))] := by
        simp only [List.map_cons, List.map_nil, cuFrom, a1, hp]
        simp
      rw [e3]
      simp [joinR, insC]
end Go.Proofs.Ytmdjmaijennmkaa
