/- The library's insertion sort, on lists: the plain law. -/
import Derived.Test.YtmdjmaijennmkaaCu
import Derived.Shelf.SlSortCmp.InsertionK
set_option linter.unusedVariables false
set_option linter.unusedSimpArgs false
namespace Go.Proofs.Ytmdjmaijennmkaa
open Go.RowKit

def cmpC (x y : Int × Int) : Int := if loC x < loC y then -1 else if loC x = loC y then 0 else 1
theorem ltC (x y : Int × Int) : ltOf cmpC x y = decide (loC x < loC y) := by
  unfold ltOf cmpC
  split
  · simp_all
  · split <;> simp_all
theorem get_at (d : Array (Int × Int)) (P R : List (Int × Int)) (c : Int × Int) (h : d.toList = P ++ c :: R) : d[P.length]! = c := by
  have h1 : d.toList[P.length]? = some c := by rw [h]; simp
  have h2 : d[P.length]? = some c := by rw [← Array.getElem?_toList]; exact h1
  rw [getElem!_def, h2]
theorem swp_list (d : Array (Int × Int)) (P H : List (Int × Int)) (p c : Int × Int) (h : d.toList = P ++ p :: c :: H) : (Sort.swp d (P.length + 1) P.length).toList = P ++ c :: p :: H := by
  have h1 : d[P.length]! = p := get_at d P (c :: H) p h
  have h2 : d[P.length + 1]! = c := by
    have := get_at d (P ++ [p]) H c (by rw [h]; simp)
    simpa using this
  unfold Sort.swp
  rw [h1, h2, Array.toList_setIfInBounds, Array.toList_setIfInBounds, h]
  apply List.ext_getElem?
  intro j
  rcases Nat.lt_trichotomy j P.length with hj | hj | hj
  · rw [List.getElem?_set_ne (by omega), List.getElem?_set_ne (by omega), List.getElem?_append_left hj, List.getElem?_append_left hj]
  · subst hj
    rw [List.getElem?_set_self (by simp), List.getElem?_append_right (Nat.le_refl _)]; simp
  · rw [List.getElem?_set_ne (by omega)]
    by_cases h3 : j = P.length + 1
    · subst h3
      rw [List.getElem?_set_self (by simp), List.getElem?_append_right (by omega)]; simp
    · rw [List.getElem?_set_ne (by omega), List.getElem?_append_right (by omega), List.getElem?_append_right (by omega)]
      obtain ⟨k, rfl⟩ : ∃ k, j = P.length + (k + 2) := ⟨j - P.length - 2, by omega⟩
      simp
theorem insS_over {P : List (Int × Int)} {p c : Int × Int} (h : loC c < loC p) : insS (P ++ [p]) c = insS P c ++ [p] := by
  induction P with
  | nil => simp [insS, h]
  | cons y P ih =>
    simp only [List.cons_append, insS]
    split
    · rfl
    · rw [ih]; rfl
theorem insS_last {P : List (Int × Int)} {p c : Int × Int} (hs : Srt (P ++ [p])) (h : loC p ≤ loC c) : insS (P ++ [p]) c = P ++ [p] ++ [c] := by
  have := insS_split (P ++ [p]) [] c (fun x hx => ?_) (by simp)
  · simpa using this
  · rcases List.mem_append.1 hx with hx | hx
    · have := (List.pairwise_append.1 hs).2.2 x hx p (by simp)
      omega
    · simp at hx; subst hx; exact h
theorem inner_list : ∀ (n : Nat) (d : Array (Int × Int)) (P H : List (Int × Int)) (c : Int × Int), P.length = n → Srt P → d.toList = P ++ c :: H → (Sort.insInner (ltOf cmpC) 0 n d).toList = insS P c ++ H
  | 0, d, P, H, c, hl, _, hd => by
    obtain rfl := List.eq_nil_of_length_eq_zero hl
    simpa [Sort.insInner, insS] using hd
  | n + 1, d, P, H, c, hl, hs, hd => by
    obtain ⟨P', p, rfl⟩ : ∃ P' p, P = P' ++ [p] := by
      rcases List.eq_nil_or_concat P with h | ⟨P', p, h⟩
      · subst h; simp at hl
      · exact ⟨P', p, by simpa using h⟩
    have hn : P'.length = n := by simpa using hl
    have hd' : d.toList = P' ++ p :: c :: H := by rw [hd]; simp
    have h1 : d[n]! = p := by rw [← hn]; exact get_at d P' (c :: H) p hd'
    have h2 : d[n + 1]! = c := by
      have := get_at d (P' ++ [p]) H c hd
      simpa [hn] using this
    rw [Sort.insInner, h1, h2, ltC]
    by_cases hlt : loC c < loC p
    · rw [if_pos (by simp [hlt])]
      have hsw := swp_list d P' H p c hd'
      rw [hn] at hsw
      rw [inner_list n _ P' (p :: H) c hn (List.pairwise_append.1 hs).1 hsw, insS_over hlt]
      simp
    · rw [if_neg (by simp [hlt]), hd, insS_last hs (by omega)]
      simp
theorem outer_list : ∀ (R : List (Int × Int)) (i : Nat) (d : Array (Int × Int)) (S : List (Int × Int)), S.length = i → Srt S → d.toList = S ++ R → (Sort.insOuter (ltOf cmpC) 0 d.size i d).toList = R.foldl insS S
  | [], i, d, S, hl, _, hd => by
    have hz : d.size = i := by rw [← hl, ← Array.length_toList, hd]; simp
    rw [Sort.insOuter, if_neg (by omega)]
    simpa using hd
  | c :: R, i, d, S, hl, hs, hd => by
    have hz : d.size = i + (R.length + 1) := by rw [← hl, ← Array.length_toList, hd]; simp
    rw [Sort.insOuter, if_pos (by omega)]
    have h1 := inner_list i d S R c hl hs hd
    have hz2 : (Sort.insInner (ltOf cmpC) 0 i d).size = d.size := by rw [← Array.length_toList, h1, hz]; simp [insS_len]; omega
    rw [← hz2]
    exact outer_list R (i + 1) _ (insS S c) (by rw [insS_len, hl]) (insS_srt hs c) h1
theorem sort_list (d : Array (Int × Int)) : (Sort.insertionSort (ltOf cmpC) d 0 d.size).toList = sortC d.toList := by
  unfold Sort.insertionSort
  cases hd : d.toList with
  | nil =>
    have hz : d.size = 0 := by rw [← Array.length_toList, hd]; rfl
    rw [Sort.insOuter, if_neg (by omega), hd]; rfl
  | cons c R =>
    rw [outer_list R 1 d [c] rfl (by simp [Srt]) (by rw [hd]; rfl)]
    rfl
end Go.Proofs.Ytmdjmaijennmkaa
