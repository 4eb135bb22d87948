/- The plain laws on words: no program here. -/
import Derived.Test.YtibkcocaipbffaaWw
namespace Go.Proofs.Ytibkcocaipbffaa

/-- The class of the byte at k (-1 behind the end). -/
def clN (s : ByteArray) (k : Nat) : Int := if h : k < s.size then clsI s[k].toNat else -1
theorem clN_at {s : ByteArray} {k : Nat} (h : k < s.size) : clN s k = clsI s[k].toNat := by unfold clN; rw [dif_pos h]
theorem cls_zero {c : Int} : clsI c = 0 ↔ (c = 32 ∨ c = 10) := by
  unfold clsI; split
  · simp; assumption
  · split <;> simp <;> omega
theorem back_succ {s : ByteArray} {k : Nat} {f : Int} (h : k < s.size) (hc : clN s k = f) : backN s (k + 1) f = backN s k f := backN_hit h (by rw [← clN_at h]; exact hc)
theorem back_stop {s : ByteArray} {k : Nat} {f : Int} (h : k < s.size) (hc : clN s k ≠ f) : backN s (k + 1) f = k + 1 := backN_miss h (by rw [← clN_at h]; exact hc)
theorem skip_succ {s : ByteArray} {k : Nat} {f : Int} (h : k < s.size) (hc : clN s k = f) : skipN s k f = skipN s (k + 1) f := skipN_hit h (by rw [← clN_at h]; exact hc)
theorem skip_stop {s : ByteArray} {k : Nat} {f : Int} (h : k < s.size) (hc : clN s k ≠ f) : skipN s k f = k := skipN_miss h (by rw [← clN_at h]; exact hc)

theorem back_run {s : ByteArray} {f : Int} {i : Nat} : ∀ k, i ≤ k → k ≤ s.size → (∀ j, i ≤ j → j < k → clN s j = f) → backN s k f = backN s i f
  | 0, hi, _, _ => by obtain rfl : i = 0 := by omega
                      rfl
  | k + 1, hi, hk, h => by
    rcases Nat.lt_or_ge k i with h1 | h1
    · obtain rfl : i = k + 1 := by omega
      rfl
    · rw [back_succ (by omega) (h k h1 (by omega))]
      exact back_run k h1 (by omega) (fun j h2 h3 => h j h2 (by omega))
theorem back_all {s : ByteArray} {f : Int} : ∀ p, p ≤ s.size → ∀ j, backN s p f ≤ j → j < p → clN s j = f
  | 0, _, j, _, hj => absurd hj (by omega)
  | p + 1, hp, j, h1, hj => by
    by_cases hc : clN s p = f
    · rw [back_succ (by omega) hc] at h1
      rcases Nat.lt_or_ge j p with h2 | h2
      · exact back_all p (by omega) j h1 h2
      · obtain rfl : j = p := by omega
        exact hc
    · rw [back_stop (by omega) hc] at h1
      omega
theorem back_edge {s : ByteArray} {f : Int} : ∀ p, p ≤ s.size → ∀ q, backN s p f = q + 1 → clN s q ≠ f
  | 0, _, q, h => by simp [backN] at h
  | p + 1, hp, q, h => by
    by_cases hc : clN s p = f
    · rw [back_succ (by omega) hc] at h
      exact back_edge p (by omega) q h
    · rw [back_stop (by omega) hc] at h
      obtain rfl : p = q := by omega
      exact hc
theorem skip_run {s : ByteArray} {f : Int} {i : Nat} : ∀ k, i ≤ k → k ≤ s.size → (∀ j, i ≤ j → j < k → clN s j = f) → skipN s i f = skipN s k f
  | 0, hi, _, _ => by obtain rfl : i = 0 := by omega
                      rfl
  | k + 1, hi, hk, h => by
    rcases Nat.lt_or_ge k i with h1 | h1
    · obtain rfl : i = k + 1 := by omega
      rfl
    · rw [skip_run k h1 (by omega) (fun j h2 h3 => h j h2 (by omega))]
      exact skip_succ (by omega) (h k h1 (by omega))
theorem skip_end' {s : ByteArray} {p : Nat} {f : Int} (h : s.size ≤ p) : skipN s p f = p := by
  unfold skipN; rw [List.drop_of_length_le (by simpa using h)]; rfl
theorem skip_all {s : ByteArray} {f : Int} : ∀ n p, s.size - p = n → ∀ j, p ≤ j → j < skipN s p f → clN s j = f
  | 0, p, hn, j, h1, h2 => by rw [skip_end' (by omega)] at h2; omega
  | n + 1, p, hn, j, h1, h2 => by
    by_cases hc : clN s p = f
    · rw [skip_succ (by omega) hc] at h2
      rcases Nat.lt_or_ge p j with h3 | h3
      · exact skip_all n (p + 1) (by omega) j h3 h2
      · obtain rfl : j = p := by omega
        exact hc
    · rw [skip_stop (by omega) hc] at h2
      omega
theorem skip_edge {s : ByteArray} {f : Int} : ∀ n p, s.size - p = n → skipN s p f < s.size → clN s (skipN s p f) ≠ f
  | 0, p, hn, h => by rw [skip_end' (by omega)] at h; omega
  | n + 1, p, hn, h => by
    by_cases hc : clN s p = f
    · rw [skip_succ (by omega) hc] at h ⊢
      exact skip_edge n (p + 1) (by omega) h
    · rw [skip_stop (by omega) hc] at h ⊢
      exact hc

theorem wa_of {s : ByteArray} {n : Nat} {f : Int} (hlt : n < s.size) (hc : clN s n = f) (hf : f ≠ 0) : waA s n = backN s n f ∧ waB s n = skipN s n f := by
  rw [clN_at hlt] at hc
  unfold waA waB
  rw [dif_pos hlt, dif_pos hlt, hc, if_neg hf, if_neg hf]
  exact ⟨rfl, rfl⟩
theorem wa_triv {s : ByteArray} {n : Nat} (h : n < s.size → clN s n = 0) : waA s n = n ∧ waB s n = n := by
  unfold waA waB
  by_cases hlt : n < s.size
  · have hc := h hlt
    rw [clN_at hlt] at hc
    rw [dif_pos hlt, dif_pos hlt, if_pos hc, if_pos hc]; exact ⟨rfl, rfl⟩
  · rw [dif_neg hlt, dif_neg hlt]; exact ⟨rfl, rfl⟩
/-- In the word at n (class f): the same beginning and end from every place of it. -/
theorem wa_same {s : ByteArray} {n : Nat} (hn : n ≤ s.size) {k : Nat} (h1 : waA s n ≤ k) (h2 : k < waB s n) : waA s k = waA s n ∧ waB s k = waB s n := by
  by_cases hw : n < s.size ∧ clN s n ≠ 0
  · obtain ⟨hlt, hc⟩ := hw
    generalize hf : clN s n = f at hc
    obtain ⟨ha, hb⟩ := wa_of hlt hf hc
    rw [ha] at h1
    rw [hb] at h2
    have hle := skipN_le s n f hn
    have hall : ∀ j, backN s n f ≤ j → j < skipN s n f → clN s j = f := by
      intro j h3 h4
      rcases Nat.lt_or_ge j n with h5 | h5
      · exact back_all n hn j h3 h5
      · exact skip_all _ n rfl j h5 h4
    have hk : k < s.size := by omega
    obtain ⟨ha', hb'⟩ := wa_of hk (hall k h1 h2) hc
    have e1 : backN s k f = backN s n f := by
      rcases Nat.lt_or_ge k n with h5 | h5
      · exact (back_run n (by omega) hn (fun j h6 h7 => hall j (by omega) (by have := skipN_ge s n f; omega))).symm
      · exact back_run k h5 (by omega) (fun j h6 h7 => hall j (by have := backN_le s f n; omega) (by omega))
    have e2 : skipN s k f = skipN s n f := by
      rcases Nat.lt_or_ge k n with h5 | h5
      · exact skip_run n (by omega) hn (fun j h6 h7 => hall j (by omega) (by have := skipN_ge s n f; omega))
      · exact (skip_run k h5 (by omega) (fun j h6 h7 => hall j (by have := backN_le s f n; omega) (by omega))).symm
    exact ⟨by rw [ha', ha, e1], by rw [hb', hb, e2]⟩
  · obtain ⟨ha, hb⟩ := wa_triv (s := s) (n := n) (fun hlt => Classical.byContradiction fun hc => hw ⟨hlt, hc⟩)
    omega
theorem waA_le {s : ByteArray} {n : Nat} : waA s n ≤ n := by
  unfold waA; split
  · split
    · exact Nat.le_refl _
    · exact backN_le s _ n
  · exact Nat.le_refl _
theorem waB_ge {s : ByteArray} {n : Nat} : n ≤ waB s n := by
  unfold waB; split
  · split
    · exact Nat.le_refl _
    · exact skipN_ge s n _
  · exact Nat.le_refl _
theorem waB_le {s : ByteArray} {n : Nat} (hn : n ≤ s.size) : waB s n ≤ s.size := by
  unfold waB; split
  · split
    · exact hn
    · exact skipN_le s n _ hn
  · exact hn
/-- The word is not empty just where the byte is of a word. -/
theorem wa_lt {s : ByteArray} {n : Nat} : (waA s n < waB s n) ↔ isWord s n = true := by
  unfold waA waB isWord
  by_cases hlt : n < s.size
  · rw [dif_pos hlt, dif_pos hlt, dif_pos hlt]
    by_cases hc : clsI s[n].toNat = 0
    · rw [if_pos hc, if_pos hc]; simp [hc]
    · rw [if_neg hc, if_neg hc]
      have h1 := backN_le s (clsI s[n].toNat) n
      have h2 : skipN s n (clsI s[n].toNat) = skipN s (n + 1) (clsI s[n].toNat) := skipN_hit hlt rfl
      have h3 := skipN_ge s (n + 1) (clsI s[n].toNat)
      simp [hc]; omega
  · rw [dif_neg hlt, dif_neg hlt, dif_neg hlt]; simp
/-- WordLeft's place: its shape. -/
theorem wl_cases {s : ByteArray} {p : Nat} (hp : p ≤ s.size) :
    (wlN s p = 0 ∧ backN s p 0 = 0) ∨ ∃ q f, backN s p 0 = q + 1 ∧ q < s.size ∧ f = clN s q ∧ f ≠ 0 ∧ wlN s p = backN s (q + 1) f ∧ wlN s p ≤ q ∧ clN s (wlN s p) = f := by
  rcases hb : backN s p 0 with _ | q
  · exact .inl ⟨by unfold wlN; rw [hb], rfl⟩
  · have hq : q < s.size := by have := backN_le s 0 p; omega
    have hne := back_edge p hp q hb
    have hw : wlN s p = backN s (q + 1) (clN s q) := by unfold wlN; rw [hb]; simp only []; rw [dif_pos hq, clN_at hq]
    have hle : backN s (q + 1) (clN s q) ≤ q := by rw [back_succ hq rfl]; exact backN_le s _ q
    refine .inr ⟨q, clN s q, rfl, hq, rfl, hne, hw, by rw [hw]; exact hle, ?_⟩
    rw [hw]
    exact back_all (q + 1) hq _ (Nat.le_refl _) (by omega)
theorem wl_lt {s : ByteArray} {p : Nat} (hp : p ≤ s.size) (h0 : p ≠ 0) : wlN s p < p := by
  have := backN_le s 0 p
  rcases wl_cases hp with ⟨h, _⟩ | ⟨q, f, h1, h2, h3, h4, h5, h6, h7⟩ <;> omega
theorem wl_le {s : ByteArray} {p : Nat} (hp : p ≤ s.size) : wlN s p ≤ backN s p 0 := by
  rcases wl_cases hp with ⟨h, _⟩ | ⟨q, f, h1, h2, h3, h4, h5, h6, h7⟩ <;> omega
theorem wl_start {s : ByteArray} {p : Nat} (hp : p ≤ s.size) : waA s (wlN s p) = wlN s p := by
  rcases wl_cases hp with ⟨h, _⟩ | ⟨q, f, h1, h2, h3, h4, h5, h6, h7⟩
  · rw [h]; have := @waA_le s 0; omega
  · have hlt : wlN s p < s.size := by omega
    unfold waA
    rw [dif_pos hlt, ← clN_at hlt, h7, if_neg h4]
    have hbb : ∀ m, m ≤ s.size → backN s m f = wlN s p → backN s (wlN s p) f = wlN s p := by
      intro m hm h
      have h8 := back_run (s := s) (f := f) (i := wlN s p) m (by rw [← h]; exact backN_le s f m) hm (fun j h9 h10 => back_all m hm j (by omega) h10)
      rw [← h8]; exact h
    exact hbb (q + 1) h2 h5.symm
theorem wl_word {s : ByteArray} {p : Nat} (hp : p ≤ s.size) (h0 : wlN s p ≠ 0) : isWord s (wlN s p) = true ∧ wlN s p < s.size := by
  rcases wl_cases hp with ⟨h, _⟩ | ⟨q, f, h1, h2, h3, h4, h5, h6, h7⟩
  · exact absurd h h0
  · have hlt : wlN s p < s.size := by omega
    refine ⟨?_, hlt⟩
    unfold isWord
    rw [dif_pos hlt, ← clN_at hlt, h7]; simp [h4]
theorem wr_le {s : ByteArray} {p : Nat} (hp : p ≤ s.size) : wrN s p ≤ s.size := by
  unfold wrN; split
  · split
    · exact skipN_le s p _ hp
    · exact skipN_le s _ _ (skipN_le s p _ hp)
  · exact hp
theorem wr_gt {s : ByteArray} {p : Nat} (hp : p < s.size) : p < wrN s p := by
  unfold wrN
  rw [dif_pos hp]
  split
  · rename_i hc; rw [skipN_hit hp hc]; exact skipN_ge s (p + 1) 0
  · have h1 := skipN_ge s (skipN s p (clsI s[p].toNat)) 0
    have h2 : skipN s p (clsI s[p].toNat) = skipN s (p + 1) (clsI s[p].toNat) := skipN_hit hp rfl
    have h3 := skipN_ge s (p + 1) (clsI s[p].toNat)
    omega
theorem isWord_iff {s : ByteArray} {k : Nat} (h : k < s.size) : isWord s k = true ↔ clN s k ≠ 0 := by
  unfold isWord; rw [dif_pos h, clN_at h]; simp
theorem wr_word {s : ByteArray} {p : Nat} (h : wrN s p < s.size) : isWord s (wrN s p) = true := by
  rw [isWord_iff h]
  unfold wrN at h ⊢
  by_cases hp : p < s.size
  · rw [dif_pos hp] at h ⊢
    by_cases hc : clsI s[p].toNat = 0
    · rw [if_pos hc] at h ⊢; exact skip_edge _ p rfl h
    · rw [if_neg hc] at h ⊢; exact skip_edge _ _ rfl h
  · rw [dif_neg hp] at h; exact absurd h hp
theorem wr_left {s : ByteArray} {p : Nat} (hp : p ≤ s.size) : wlN s (wrN s p) ≤ p := by
  by_cases hlt : p < s.size
  · have hle := wr_le hp
    have h0 := wl_le hle
    by_cases hc : clsI s[p].toNat = 0
    · have hn : wrN s p = skipN s p 0 := by unfold wrN; rw [dif_pos hlt, if_pos hc]
      have hb : backN s (wrN s p) 0 = backN s p 0 := back_run _ (by rw [hn]; exact skipN_ge s p 0) hle (fun j h1 h2 => skip_all _ p rfl j h1 (by omega))
      have := backN_le s 0 p
      omega
    · generalize hf : clsI s[p].toNat = f at hc
      have hn : wrN s p = skipN s (skipN s p f) 0 := by unfold wrN; rw [dif_pos hlt, hf, if_neg hc]
      have hm1 : p < skipN s p f := by
        have h2 : skipN s p f = skipN s (p + 1) f := skipN_hit hlt hf
        have h3 := skipN_ge s (p + 1) f
        omega
      have hm2 := skipN_le s p f hp
      generalize hm : skipN s p f = m at hn hm1 hm2
      have hall : ∀ j, p ≤ j → j < m → clN s j = f := fun j h1 h2 => skip_all _ p rfl j h1 (by omega)
      have hb : backN s (wrN s p) 0 = backN s m 0 := back_run _ (by rw [hn]; exact skipN_ge s m 0) hle (fun j h1 h2 => skip_all _ m rfl j h1 (by omega))
      obtain ⟨q, rfl⟩ : ∃ q, m = q + 1 := ⟨m - 1, by omega⟩
      have hq : clN s q = f := hall q (by omega) (by omega)
      rw [back_stop (by omega) (by rw [hq]; exact hc)] at hb
      have hw : wlN s (wrN s p) = backN s (q + 1) f := by
        unfold wlN; rw [hb]; simp only []; rw [dif_pos (show q < s.size by omega), ← clN_at (show q < s.size by omega), hq]
      rw [hw, back_run (q + 1) (show p ≤ q + 1 by omega) hm2 hall]
      exact backN_le s f p
  · have hn : wrN s p = p := by unfold wrN; rw [dif_neg hlt]
    rw [hn]
    have := wl_le hp
    have := backN_le s 0 p
    omega
theorem wr_same {s : ByteArray} {p : Nat} (hp : p ≤ s.size) : wrN s (waA s p) = wrN s p := by
  by_cases hlt : p < s.size
  · by_cases hc : clsI s[p].toNat = 0
    · have : waA s p = p := by unfold waA; rw [dif_pos hlt, if_pos hc]
      rw [this]
    · generalize hf : clsI s[p].toNat = f at hc
      have ha : waA s p = backN s p f := by unfold waA; rw [dif_pos hlt, hf, if_neg hc]
      have hle := backN_le s f p
      have hla : backN s p f < s.size := by omega
      have hfa : clsI s[backN s p f].toNat = f := by
        rcases Nat.lt_or_ge (backN s p f) p with h | h
        · rw [← clN_at hla]; exact back_all p hp _ (Nat.le_refl _) h
        · have he : backN s p f = p := by omega
          rw [← clN_at hla, he, clN_at hlt]; exact hf
      rw [ha]
      unfold wrN
      rw [dif_pos hla, dif_pos hlt, hfa, hf, if_neg hc, if_neg hc, skip_run p hle hp (fun j h1 h2 => back_all p hp j h1 h2)]
  · have : waA s p = p := by unfold waA; rw [dif_neg hlt]
    rw [this]
end Go.Proofs.Ytibkcocaipbffaa
