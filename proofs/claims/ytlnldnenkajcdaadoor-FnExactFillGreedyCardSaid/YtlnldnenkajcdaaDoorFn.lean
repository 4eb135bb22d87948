/- The words of a valid text are the library's fields; filling greedily, word by word. -/
import Derived.Test.YtlnldnenkajcdaaDoorFg
import Derived.Lib.Fields
set_option linter.unusedVariables false
set_option linter.unusedSimpArgs false
namespace Go.Proofs.YtlnldnenkajcdaaDoor
open Go.RowKit
theorem allOk_at : ∀ {l : List UInt8}, allOk l = true → ∀ (k : Nat) (b : UInt8), l[k]? = some b → okI b.toNat = true
  | [], _, k, b, h => by simp at h
  | c :: l, h, 0, b, hb => by
    simp only [allOk, Bool.and_eq_true] at h
    simp at hb
    subst hb
    exact h.1
  | c :: l, h, k + 1, b, hb => by
    simp only [allOk, Bool.and_eq_true] at h
    exact allOk_at h.2 k b (by simpa using hb)
theorem sp_ok {b : UInt8} (h : okI b.toNat = true) : Lib.isSp b = (decide ((b.toNat : Int) = 32) || decide ((b.toNat : Int) = 10)) := by
  unfold okI at h
  have h' : (b.toNat : Int) = 10 ∨ (32 ≤ (b.toNat : Int) ∧ (b.toNat : Int) ≤ 126) := by simpa using h
  unfold Lib.isSp
  have e : ∀ c : UInt8, (b == c) = decide (b.toNat = c.toNat) := fun c => by
    rw [Bool.eq_iff_iff, beq_iff_eq, decide_eq_true_eq]
    exact ⟨fun h => by rw [h], fun h => UInt8.toNat_inj.1 h⟩
  rw [e, e, e, e, e, e]
  rw [Bool.eq_iff_iff]
  simp only [Bool.or_eq_true, decide_eq_true_eq]
  have t9 : (9 : UInt8).toNat = 9 := rfl
  have t10 : (10 : UInt8).toNat = 10 := rfl
  have t11 : (11 : UInt8).toNat = 11 := rfl
  have t12 : (12 : UInt8).toNat = 12 := rfl
  have t13 : (13 : UInt8).toNat = 13 := rfl
  have t32 : (32 : UInt8).toNat = 32 := rfl
  rw [t9, t10, t11, t12, t13, t32]
  omega
theorem ba_list {x y : ByteArray} (h : x.data.toList = y.data.toList) : x = y := by
  obtain ⟨⟨l⟩⟩ := x
  obtain ⟨⟨m⟩⟩ := y
  simp only at h
  rw [h]
theorem wRun_fields {s : ByteArray} (hv : valid s.data.toList = true) : ∀ n k out word, k + n = s.size → wRun s (n + 1) k out word = out ++ (Lib.fieldsGo word.data.toList (s.data.toList.drop k)).map (fun l => ⟨l.toArray⟩)
  | 0, k, out, word, h => by
    have hl : s.data.toList.length = s.size := Array.length_toList ..
    have hd : s.data.toList.drop k = [] := List.drop_of_length_le (by omega)
    have hw : wb s k = false := by unfold wb; simp; omega
    rw [hd]
    simp only [wRun, Lib.fieldsGo]
    rw [if_neg (by simp [hw])]
    by_cases hx : word = ⟨#[]⟩
    · rw [if_pos hx, hx]; simp
    · have he := word_ne hx
      rw [ByteArray.toList_eq] at he
      rw [if_neg hx, if_neg (by rw [he]; simp)]
      simp only [List.map_cons, List.map_nil]
  | n + 1, k, out, word, h => by
    have hl : s.data.toList.length = s.size := Array.length_toList ..
    have hk : k < s.size := by omega
    have hdr := List.drop_eq_getElem_cons (l := s.data.toList) (i := k) (by omega)
    have hbe : s.data.toList[k]'(by omega) = s[k] := rfl
    have hok : okI (s[k]).toNat = true := by
      have ha : allOk s.data.toList = true := by unfold valid at hv; rw [Bool.and_eq_true] at hv; exact hv.1
      exact allOk_at ha k _ (List.getElem?_eq_getElem (by omega))
    have hsp := sp_ok hok
    have hwb : wb s k = !Lib.isSp s[k] := by
      rw [hsp]
      unfold wb isNl
      rw [byteI_at hk, decide_eq_true hk, Bool.true_and, Bool.not_or]
      congr 1
    rw [hdr, hbe, wRun]
    simp only [Lib.fieldsGo]
    cases hs : Lib.isSp s[k]
    · rw [hs] at hwb
      rw [if_pos (by rw [hwb]; rfl), if_neg (by simp), wRun_fields hv n (k + 1) out _ (by omega)]
      congr 3
      rw [ByteArray.data_append, Array.toList_append, Lib.extract_data, show k + 1 - k = 1 by omega, hdr, hbe]
      rfl
    · rw [hs] at hwb
      rw [if_neg (by rw [hwb]; simp), if_pos rfl]
      by_cases hx : word = ⟨#[]⟩
      · rw [if_pos hx, wRun_fields hv n (k + 1) out _ (by omega), hx]; simp
      · have he := word_ne hx
        rw [ByteArray.toList_eq] at he
        rw [if_neg hx, if_neg (by rw [he]; simp), wRun_fields hv n (k + 1) _ _ (by omega), List.append_assoc]
        congr 1
/-- The words of a valid text. -/
theorem words_fields {s : ByteArray} (hv : valid s.data.toList = true) : wordsL s = (Lib.fields s.data.toList).map (fun l => ⟨l.toArray⟩) := by
  unfold wordsL
  rw [if_pos hv, wRun_fields hv s.size 0 [] ⟨#[]⟩ (by omega), List.nil_append, List.drop_zero]
  rfl
theorem ascii_of {s : ByteArray} (hv : valid s.data.toList = true) : ∀ (j : Nat) (b : UInt8), s.data.toList[j]? = some b → b.toNat < 128 := fun j b hb => by
  have ha : allOk s.data.toList = true := by unfold valid at hv; rw [Bool.and_eq_true] at hv; exact hv.1
  have h := allOk_at ha j b hb
  unfold okI at h
  have h' : (b.toNat : Int) = 10 ∨ (32 ≤ (b.toNat : Int) ∧ (b.toNat : Int) ≤ 126) := by simpa using h
  omega
theorem txN_size {ws : List ByteArray} {k : Nat} : ∀ m, 0 < m → (txN ws k m).size + 1 = szN ws k m + m
  | 0, h => absurd h (by omega)
  | 1, _ => by
    have e : txN ws k 1 = ws.getD k ⟨#[]⟩ := by rw [txN, if_pos rfl, txN, Nat.add_zero]; exact ba_list (by simp)
    rw [e]; simp [szN]
  | m + 2, _ => by
    have ih := txN_size (ws := ws) (k := k) (m + 1) (by omega)
    rw [txN, szN, if_neg (by omega), ByteArray.size_append, ByteArray.size_append]
    have : (⟨#[32]⟩ : ByteArray).size = 1 := rfl
    omega
/-- What holds when the first j words stand in lines. -/
def GInv (ws : List ByteArray) (W : Int) (j : Nat) (out : List ByteArray) : Prop :=
  (j = 0 ∧ out = []) ∨ ∃ k outs, out = outs ++ [txN ws k (j - k)] ∧ FrInv ws W k outs ∧ k < ws.length ∧ FnInv ws W k j
theorem txN_one {ws : List ByteArray} {j : Nat} (hj : j < ws.length) : txN ws j (j + 1 - j) = ws[j] := by
  rw [show j + 1 - j = 1 by omega, txN, if_pos rfl, txN, Nat.add_zero, getD_at hj]
  exact ba_list (by simp)
theorem GInv.first {ws : List ByteArray} {W : Int} (hj : 0 < ws.length) : GInv ws W 1 [ws[0]] := by
  refine .inr ⟨0, [], ?_, FrInv.start ws W, hj, FnInv.start hj⟩
  rw [List.nil_append, ← txN_one hj]
theorem GInv.next {ws : List ByteArray} {W : Int} {j : Nat} {out : List ByteArray} (h : GInv ws W j out) (hj : j < ws.length) (hp : 0 < out.length) :
    ((out[out.length - 1]'(by omega)).size : Int) + 1 + (ws[j].size : Int) ≤ W ∧ GInv ws W (j + 1) (out.set (out.length - 1) (out[out.length - 1]'(by omega) ++ (⟨#[32]⟩ ++ ws[j]))) ∨
    ¬ ((out[out.length - 1]'(by omega)).size : Int) + 1 + (ws[j].size : Int) ≤ W ∧ GInv ws W (j + 1) (out ++ [ws[j]]) := by
  rcases h with ⟨_, rfl⟩ | ⟨k, outs, rfl, hr, hk, hn⟩
  · simp at hp
  · have hkj : k + 1 ≤ j := hn.1
    have hl : (outs ++ [txN ws k (j - k)]).length - 1 = outs.length := by simp
    have hlast : (outs ++ [txN ws k (j - k)])[(outs ++ [txN ws k (j - k)]).length - 1]'(by simp) = txN ws k (j - k) := by
      simp
    rw [hlast, hl]
    have hs := txN_size (ws := ws) (k := k) (j - k) (by omega)
    have hg := getD_at hj
    have hz : szN ws k (j + 1 - k) = szN ws k (j - k) + ws[j].size := by
      rw [show j + 1 - k = (j - k) + 1 by omega, szN, show k + (j - k) = j by omega, hg]
    by_cases hc : ((txN ws k (j - k)).size : Int) + 1 + (ws[j].size : Int) ≤ W
    · refine .inl ⟨hc, .inr ⟨k, outs, ?_, hr, hk, hn.step hj (by rw [hz]; omega)⟩⟩
      rw [show j + 1 - k = (j - k) + 1 by omega, txN, if_neg (by omega), show k + (j - k) = j by omega, hg, ByteArray.append_assoc]
      simp
    · refine .inr ⟨hc, .inr ⟨j, outs ++ [txN ws k (j - k)], ?_, ?_, hj, FnInv.start hj⟩⟩
      · rw [txN_one hj]
      · exact hr.step hk (hn.done (by rw [hz]; omega)) hkj (by omega)
theorem GInv.done {ws : List ByteArray} {W : Int} {out : List ByteArray} (h : GInv ws W ws.length out) : out = fgR ws W ws.length 0 [] := by
  rcases h with ⟨h0, rfl⟩ | ⟨k, outs, rfl, hr, hk, hn⟩
  · exact (FrInv.start ws W).done (by omega)
  · have he := hn.done (by omega)
    exact (hr.step hk he hn.1 (Nat.le_refl _)).done (by omega)
end Go.Proofs.YtlnldnenkajcdaaDoor
