/- Plain laws on marks and changes that are undone. -/
import Derived.Test.YtlnldnenkajcdaaVv
set_option linter.unusedVariables false
set_option linter.unusedSimpArgs false
namespace Go.Proofs.Ytlnldnenkajcdaa
open Go.RowKit
theorem ba_ext2 {a b : ByteArray} (h : a.data.toList = b.data.toList) : a = b := by
  cases a; cases b; simp only [ByteArray.mk.injEq]; exact Array.toList_inj.1 h
theorem ac_data (s put : ByteArray) (p q : Nat) : (acX s put p q).data.toList = s.data.toList.take p ++ put.data.toList ++ s.data.toList.drop q := by
  have hl : s.data.toList.length = s.size := by rw [Array.length_toList]; rfl
  unfold acX
  rw [ByteArray.data_append, Array.toList_append, ByteArray.data_append, Array.toList_append, Lib.extract_data, Lib.extract_data, List.drop_zero, Nat.sub_zero]
  rw [List.take_of_length_le (l := s.data.toList.drop q) (by rw [List.length_drop]; omega)]
theorem ac_tail (s put : ByteArray) {p q m : Nat} (hpq : p ≤ q) (hqm : q ≤ m) (hm : m ≤ s.size) : (acX s put p q).extract (m - q + p + put.size) (acX s put p q).size = s.extract m s.size := by
  have hl : s.data.toList.length = s.size := by rw [Array.length_toList]; rfl
  have hp : put.data.toList.length = put.size := by rw [Array.length_toList]; rfl
  have hx : (acX s put p q).data.toList.length = (acX s put p q).size := by rw [Array.length_toList]; rfl
  apply ba_ext2
  rw [Lib.extract_data, Lib.extract_data, List.take_of_length_le (by rw [List.length_drop]; omega), List.take_of_length_le (by rw [List.length_drop]; omega), ac_data, List.drop_append, List.drop_of_length_le (by rw [List.length_append, List.length_take]; omega), List.nil_append, List.drop_drop]
  congr 1
  rw [List.length_append, List.length_take]
  omega
theorem ac_undo (s put : ByteArray) {p q : Nat} (hpq : p ≤ q) (hq : q ≤ s.size) : acX (acX s put p q) (s.extract p q) p (p + put.size) = s := by
  have hl : s.data.toList.length = s.size := by rw [Array.length_toList]; rfl
  have hp : put.data.toList.length = put.size := by rw [Array.length_toList]; rfl
  have hlt : (s.data.toList.take p).length = p := by rw [List.length_take]; omega
  apply ba_ext2
  rw [ac_data, ac_data, Lib.extract_data]
  rw [List.append_assoc (s.data.toList.take p), List.take_append, hlt, List.take_of_length_le (Nat.le_of_eq hlt), Nat.sub_self, List.take_zero, List.append_nil]
  rw [← List.append_assoc, List.drop_append, List.drop_of_length_le (l := s.data.toList.take p ++ put.data.toList) (by rw [List.length_append]; omega), List.nil_append, List.length_append, hlt, hp, Nat.sub_self, List.drop_zero]
  have h1 : s.data.toList.drop q = (s.data.toList.drop p).drop (q - p) := by rw [List.drop_drop]; congr 1; omega
  rw [h1, List.append_assoc, List.take_append_drop, List.take_append_drop]
/-- A change that is possible, in natural numbers. -/
theorem fit_nat {s put : ByteArray} {a c : Int} (h : fitB s put a c = true) : ∃ p q : Nat, a = p ∧ c = (q : Int) - p ∧ p ≤ q ∧ q ≤ s.size ∧ valid s.data.toList = true ∧ apX s put a c = acX s put p q ∧ valid (acX s put p q).data.toList = true ∧ allOk put.data.toList = true := by
  unfold fitB at h
  rw [Bool.and_eq_true] at h
  obtain ⟨p, q, h1, h2, h3, h4, h5, h6⟩ := inB_nat h.1
  have h7 := h.2
  rw [h6] at h7
  have h8 := h7
  rw [ac_valid h5 h3 h4, Bool.and_eq_true] at h8
  exact ⟨p, q, h1, h2, h3, h4, h5, h6 put, h7, h8.1⟩
theorem fit_undo {s put : ByteArray} {a c : Int} (h : fitB s put a c = true) : fitB (apX s put a c) (s.extract a.toNat (a + c).toNat) a put.size = true ∧ apX (apX s put a c) (s.extract a.toNat (a + c).toNat) a put.size = s := by
  obtain ⟨p, q, rfl, rfl, h3, h4, h5, h6, h7, h8⟩ := fit_nat h
  have e1 : ((p : Int) + ((q : Int) - p)).toNat = q := by omega
  have e2 : (p : Int).toNat = p := Int.toNat_natCast p
  have e3 : ((p : Int) + (put.size : Int)).toNat = p + put.size := by omega
  have hsz := ac_size s put h3 h4
  rw [h6, e1, e2]
  have hap : apX (acX s put p q) (s.extract p q) p put.size = s := by
    unfold apX
    rw [e2, e3]; exact ac_undo s put h3 h4
  refine ⟨?_, hap⟩
  unfold fitB inB place
  rw [hap, h7, h5]
  unfold inI
  simp
  omega
/-- What the law on marks that move says. -/
theorem mm_good {s put : ByteArray} {a c : Int} {ms : List (Int × Bool)} (hf : fitB s put a c = true) (hm : mvB s ms = true) :
    (mmL s put a c ms).length = ms.length ∧ mvB (apX s put a c) (mmL s put a c ms) = true ∧
    ∀ k (hk : k < ms.length) (hk' : k < (mmL s put a c ms).length), (mmL s put a c ms)[k] = (mvI a c put.size ms[k].1 ms[k].2, ms[k].2) ∧ ∃ m n : Nat, ms[k].1 = m ∧ m ≤ s.size ∧ mvI a c put.size ms[k].1 ms[k].2 = n ∧ n ≤ (apX s put a c).size ∧ (a + c < ms[k].1 → (apX s put a c).extract n (apX s put a c).size = s.extract m s.size) := by
  have hb : (mvB s ms && fitB s put a c) = true := by rw [hm, hf]; rfl
  have he : mmL s put a c ms = ms.map fun m => (mvI a c put.size m.1 m.2, m.2) := by unfold mmL; rw [if_pos hb]
  obtain ⟨p, q, rfl, rfl, h3, h4, h5, h6, h7, h8⟩ := fit_nat hf
  have hsz := ac_size s put h3 h4
  unfold mvB at hm
  rw [Bool.and_eq_true, Bool.and_eq_true] at hm
  obtain ⟨⟨_, hall⟩, h10⟩ := hm
  have hall' := allM_iff.1 hall
  have hone : ∀ m : Int × Bool, m ∈ ms → ∃ x n : Nat, m.1 = x ∧ x ≤ s.size ∧ mvI p ((q : Int) - p) put.size m.1 m.2 = n ∧ n ≤ (acX s put p q).size ∧ ((q : Int) < m.1 → n = x - q + p + put.size) := by
    intro m hmem
    have h1 := hall' m hmem
    have h2 : 0 ≤ m.1 ∧ m.1 ≤ (s.size : Int) := by simpa [inI] using h1
    unfold mvI
    split
    · exact ⟨m.1.toNat, m.1.toNat, by omega, by omega, by omega, by omega, by omega⟩
    · split
      · exact ⟨m.1.toNat, (m.1 + put.size - ((q : Int) - p)).toNat, by omega, by omega, by omega, by omega, by omega⟩
      · split
        · exact ⟨m.1.toNat, p + put.size, by omega, by omega, by omega, by omega, by omega⟩
        · exact ⟨m.1.toNat, p, by omega, by omega, by omega, by omega, by omega⟩
  rw [h6, he]
  refine ⟨by simp, ?_, fun k hk hk' => ?_⟩
  · unfold mvB
    rw [h7]
    have : allM (acX s put p q).size (ms.map fun m => (mvI p ((q : Int) - p) put.size m.1 m.2, m.2)) = true := by
      refine allM_iff.2 fun y hy => ?_
      obtain ⟨m, hmem, rfl⟩ := List.mem_map.1 hy
      obtain ⟨x, n, _, _, e, hn, _⟩ := hone m hmem
      simp only
      rw [e]
      unfold inI
      simp
      omega
    rw [this, List.length_map]
    simpa using h10
  · obtain ⟨x, n, e1, e2, e3, e4, e5⟩ := hone ms[k] (List.getElem_mem hk)
    refine ⟨by simp, x, n, e1, e2, e3, e4, fun hlt => ?_⟩
    have hlt' : (q : Int) < ms[k].1 := by omega
    rw [e5 hlt']
    exact ac_tail s put h3 (by omega) e2
theorem mm_bad {s put : ByteArray} {a c : Int} {ms : List (Int × Bool)} (h : (mvB s ms && fitB s put a c) = false) : mmL s put a c ms = [] := by
  unfold mmL; rw [h]; rfl
/-- There and back. -/
theorem mm_back {s put : ByteArray} {a c : Int} {ms : List (Int × Bool)} (hf : fitB s put a c = true) (hm : mvB s ms = true) :
    (mmL (apX s put a c) (s.extract a.toNat (a + c).toNat) a put.size (mmL s put a c ms)).length = ms.length ∧
    ∀ k (hk : k < ms.length) (hk' : k < (mmL (apX s put a c) (s.extract a.toNat (a + c).toNat) a put.size (mmL s put a c ms)).length), (ms[k].1 < a ∨ a + c < ms[k].1) → (mmL (apX s put a c) (s.extract a.toNat (a + c).toNat) a put.size (mmL s put a c ms))[k] = ms[k] := by
  obtain ⟨g1, g2, g3⟩ := mm_good hf hm
  obtain ⟨f1, f2⟩ := fit_undo hf
  obtain ⟨k1, k2, k3⟩ := mm_good f1 g2
  refine ⟨k1.trans g1, fun k hk hk' ho => ?_⟩
  have hk2 : k < (mmL s put a c ms).length := by omega
  obtain ⟨e1, _⟩ := k3 k hk2 hk'
  obtain ⟨d1, _⟩ := g3 k hk hk2
  obtain ⟨p, q, rfl, rfl, h3, h4, h5, h6, h7, h8⟩ := fit_nat hf
  have e0 : ((p : Int) + ((q : Int) - p)).toNat = q := by omega
  rw [e1, d1]
  have hz : ((s.extract (p : Int).toNat ((p : Int) + ((q : Int) - p)).toNat).size : Int) = (q : Int) - p := by
    rw [ByteArray.size_extract, e0, Int.toNat_natCast]; omega
  simp only
  rw [hz]
  refine Prod.ext ?_ rfl
  simp only
  unfold mvI
  rcases ho with ho | ho
  · rw [if_pos ho, if_pos ho]
  · rw [if_neg (show ¬ ms[k].1 < (p : Int) by omega), if_pos (show ms[k].1 > (p : Int) + ((q : Int) - p) by omega), if_neg (by omega), if_pos (by omega)]
    omega
end Go.Proofs.Ytlnldnenkajcdaa
