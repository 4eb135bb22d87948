/- Plain laws on the end of a match: it lies in the line; the pattern of a point and a star; the empty pattern. No program here. -/
import Derived.Test.YtkjippbnpaaaaaaMn
import Derived.Test.YtkjippbnpaaaaaaNl
set_option linter.unusedVariables false
set_option linter.unusedSimpArgs false
namespace Go.Proofs.Ytkjippbnpaaaaaa

theorem starF_line {s : ByteArray} {m : Nat} {c : Int} {f : Nat → Bool} (hm : m ≤ s.size) (h : ∀ j, j ≤ s.size → f j = true → j ≤ eolN s m) (hl : ∀ j, j < m → f j = false) : ∀ j, j ≤ s.size → starF s m c f j = true → j ≤ eolN s m
  | 0, hj, hf => h 0 hj hf
  | j + 1, hj, hf => by
    rw [starF_s hl] at hf
    rcases (Bool.or_eq_true _ _).mp hf with h1 | h1
    · exact h _ hj h1
    · obtain ⟨h2, h3⟩ := (Bool.and_eq_true _ _).mp h1
      have h4 := starF_line hm h hl j (by omega) h2
      obtain ⟨g1, g2, g3, g4⟩ := eol_spec s hm
      rcases Nat.eq_or_lt_of_le h4 with h5 | h5
      · rcases g4 with g | g
        · omega
        · rw [← h5] at g
          unfold fitB at h3
          unfold isNl at g
          simp at h3 g
          omega
      · omega
theorem nx_line {s : ByteArray} {m : Nat} {c : Int} {b : Bool} {f : Nat → Bool} (hm : m ≤ s.size) (h : ∀ j, j ≤ s.size → f j = true → j ≤ eolN s m) (hl : ∀ j, j < m → f j = false) : ∀ j, j ≤ s.size → nxF s m c b f j = true → j ≤ eolN s m := by
  intro j hj hf
  cases b
  · by_cases h1 : c = 94
    · subst h1; rw [nx_bol] at hf; exact h j hj ((Bool.and_eq_true _ _).mp hf).1
    · by_cases h2 : c = 36
      · subst h2; rw [nx_eol] at hf; exact h j hj ((Bool.and_eq_true _ _).mp hf).1
      · rw [nx_byte h1 h2] at hf
        obtain ⟨h3, h4⟩ := (Bool.and_eq_true _ _).mp hf
        obtain ⟨h5, h6⟩ := (Bool.and_eq_true _ _).mp h3
        have h7 : m < j := by simpa using h5
        obtain ⟨k, rfl⟩ : ∃ k, j = k + 1 := ⟨j - 1, by omega⟩
        have h8 := h k (by omega) h6
        obtain ⟨g1, g2, g3, g4⟩ := eol_spec s hm
        rcases Nat.eq_or_lt_of_le h8 with h9 | h9
        · rcases g4 with g | g
          · omega
          · rw [← h9] at g
            unfold fitB at h4
            unfold isNl at g
            simp at h4 g
            omega
        · omega
  · rw [nx_star] at hf; exact starF_line hm h hl j hj hf
theorem ends_line {p s : ByteArray} {m : Nat} (hm : m ≤ s.size) : ∀ k i f, (∀ j, j < m → f j = false) → (∀ j, j ≤ s.size → f j = true → j ≤ eolN s m) → ∀ j, j ≤ s.size → endsF p s m k i f j = true → j ≤ eolN s m
  | 0, _, _, _, h => h
  | k + 1, i, f, hl, h => by
    by_cases hi : i < p.size
    · rw [ends_step hi]; exact ends_line hm k _ _ (nx_low hl) (nx_line hm h hl)
    · rw [ends_done hi]; exact h
theorem start_line {s : ByteArray} {m : Nat} (hm : m ≤ s.size) : ∀ j, j ≤ s.size → startF m j = true → j ≤ eolN s m := by
  intro j _ h
  have : j = m := by simpa [startF] using h
  have := (eol_spec s hm).1
  omega
theorem topF_uniq {f : Nat → Bool} {n k : Nat} (hk : k < n) (h1 : f k = true) (h2 : ∀ j, k < j → j < n → f j = false) : topF f n = k := by
  rcases topF_range f n with h | ⟨l, g1, g2, g3, g4⟩
  · exfalso
    have : ∀ n, k < n → topF f n ≠ -1 := by
      intro n
      induction n with
      | zero => intro h; omega
      | succ n ih =>
        intro hn
        cases hf : f n
        · rw [topF_miss hf]
          rcases Nat.lt_or_ge k n with h5 | h5
          · exact ih h5
          · obtain rfl : n = k := by omega
            rw [h1] at hf; cases hf
        · rw [topF_hit hf]; omega
    exact this n hk h
  · rcases Nat.lt_trichotomy l k with h | h | h
    · rw [g4 k h hk] at h1; cases h1
    · rw [g1, h]
    · rw [h2 l h g2] at g3; cases g3
theorem me_at {p s : ByteArray} {m : Nat} (hpv : patV p = true) (hpl : place s m = true) : meI p s m = topF (endsF p s m p.size 0 (startF m)) (s.size + 1) := by
  unfold meI; rw [if_pos (by unfold meOk; rw [hpv, hpl]; rfl)]; rfl
/-- A match ends in the line in which it begins. -/
theorem me_line {p s : ByteArray} {m : Nat} (hpl : place s m = true) (hm : m ≤ s.size) : meI p s m = -1 ∨ (patV p = true ∧ (m : Int) ≤ meI p s m ∧ meI p s m ≤ eolN s m) := by
  rcases me_range p s m with h | ⟨h1, h2, h3, h4⟩
  · exact .inl h
  · right
    refine ⟨h1, h3, ?_⟩
    have e := me_at h1 hpl
    rw [e] at h3 ⊢
    rcases topF_range (endsF p s m p.size 0 (startF m)) (s.size + 1) with h | ⟨k, g1, g2, g3, g4⟩
    · omega
    · have := ends_line hm _ _ _ (start_low m) (start_line hm) k (by omega) g3
      omega
theorem dots_all {s : ByteArray} {m : Nat} (hm : m ≤ s.size) : ∀ j, m ≤ j → j ≤ eolN s m → starF s m 46 (startF m) j = true
  | 0, h, _ => by obtain rfl : m = 0 := by omega
                  rfl
  | j + 1, h, hj => by
    rw [starF_s (start_low m)]
    rcases Nat.eq_or_lt_of_le h with h1 | h1
    · rw [← h1]; simp [startF]
    · rw [dots_all hm j (by omega) (by omega)]
      have h2 := (eol_spec s hm).2.2.1 j (by omega) (by omega)
      have : fitB 46 (byteI s j) = true := by
        unfold isNl at h2
        unfold fitB
        simp at h2 ⊢
        exact h2
      rw [this]; simp
theorem me_dots {s : ByteArray} {m : Nat} (hpl : place s m = true) (hm : m ≤ s.size) : meI ⟨#[46, 42]⟩ s m = eolN s m := by
  have hpv : patV ⟨#[46, 42]⟩ = true := by decide +kernel
  rw [me_at hpv hpl]
  have e1 : starAt ⟨#[46, 42]⟩ 0 = true := by decide +kernel
  have e2 : byteI ⟨#[46, 42]⟩ 0 = 46 := by decide +kernel
  have hE : endsF ⟨#[46, 42]⟩ s m (ByteArray.mk #[46, 42]).size 0 (startF m) = starF s m 46 (startF m) := by
    show endsF ⟨#[46, 42]⟩ s m 2 0 (startF m) = _
    rw [ends_step (by decide), e1, if_pos rfl, nx_star, e2, ends_done (by decide)]
  rw [hE]
  have hg := eol_spec s hm
  refine topF_uniq (by omega) (dots_all hm _ hg.1 (Nat.le_refl _)) fun j h1 h2 => ?_
  cases h : starF s m 46 (startF m) j
  · rfl
  · have := starF_line hm (start_line hm) (start_low m) j (by omega) h
    omega
theorem me_empty {s : ByteArray} {m : Nat} (hpl : place s m = true) (hm : m ≤ s.size) : meI ⟨#[]⟩ s m = m := by
  have hpv : patV ⟨#[]⟩ = true := by decide +kernel
  rw [me_at hpv hpl]
  show topF (startF m) (s.size + 1) = m
  exact topF_uniq (by omega) (by simp [startF]) fun j h1 h2 => by simp [startF]; omega
theorem le_at {s : ByteArray} {m : Nat} (hpl : place s m = true) (hm : m ≤ s.size) : leI s (cntN s m) = eolN s m := by
  have hv := (placeS hpl).1
  have hc := cnt_mono s hm
  have hok : lineOk s (cntN s m) = true := by unfold lineOk inI; rw [hv]; simp; omega
  unfold leI
  rw [if_pos hok, Int.toNat_natCast, ls_of s hm, (bol_eol hm).1]
theorem lo_at {s : ByteArray} {m : Nat} (hpl : place s m = true) : loI s m = cntN s m := by unfold loI; rw [if_pos hpl]; rfl
end Go.Proofs.Ytkjippbnpaaaaaa
