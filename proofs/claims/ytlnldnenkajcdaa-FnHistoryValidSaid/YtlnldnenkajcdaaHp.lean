/- Histories that are valid, in plain words. No program here. -/
import Derived.Test.YtlnldnenkajcdaaVy
set_option linter.unusedVariables false
set_option linter.unusedSimpArgs false
namespace Go.Proofs.Ytlnldnenkajcdaa
open Go.RowKit
/-- A moment: its parent, its change and the change that leads back. -/
structure Mom where
  p : Int
  a : Int
  b : Int
  x : ByteArray
  c : Int
  d : Int
  y : ByteArray
/-- The first moment is the empty one. -/
def Zer (m : Mom) : Prop := m.p = -1 ∧ m.a = 0 ∧ m.b = 0 ∧ m.x = ⟨#[]⟩ ∧ m.c = 0 ∧ m.d = 0 ∧ m.y = ⟨#[]⟩
/-- The change back is the reverse of the change forth at t. -/
def Bk (t : ByteArray) (m : Mom) : Prop := m.a = m.c ∧ (m.x.size : Int) = m.d ∧ t.extract m.a.toNat (m.a + m.b).toNat = m.y
/-- State k follows from the texts T by the moment m. -/
def Fol (T : List ByteArray) (k : Nat) (m : Mom) : Prop :=
  ∃ (q : Nat) (t : ByteArray), m.p = q ∧ q < k ∧ T[q]? = some t ∧ fitB t m.x m.a m.b = true ∧ T[k]? = some (apX t m.x m.a m.b) ∧ Bk t m
def Good (ms : List Mom) (n : Int) (s : ByteArray) (T : List ByteArray) : Prop :=
  (1 ≤ ms.length ∧ ms.length ≤ 30) ∧ valid s.data.toList = true ∧ (∃ m, ms[0]? = some m ∧ Zer m) ∧ (∃ k : Nat, n = k ∧ k < ms.length ∧ T[k]? = some s) ∧ T.length = ms.length ∧ ∀ k m, 1 ≤ k → ms[k]? = some m → Fol T k m
def HvP (ms : List Mom) (n : Int) (s : ByteArray) : Prop := ∃ T, Good ms n s T
theorem Fol.keep {T T' : List ByteArray} {k : Nat} {m : Mom} (h : Fol T k m) (e : ∀ j, j ≤ k → T'[j]? = T[j]?) : Fol T' k m := by
  obtain ⟨q, t, h1, h2, h3, h4, h5, h6⟩ := h
  exact ⟨q, t, h1, h2, (e q (by omega)).trans h3, h4, (e k (by omega)).trans h5, h6⟩
theorem Good.par {ms : List Mom} {n : Int} {s : ByteArray} {T : List ByteArray} (h : Good ms n s T) {k : Nat} {m : Mom} (hk : 1 ≤ k) (hm : ms[k]? = some m) : 0 ≤ m.p ∧ m.p < k := by
  obtain ⟨q, t, h1, h2, _⟩ := h.2.2.2.2.2 k m hk hm
  omega
theorem fit_valid {s put : ByteArray} {a c : Int} (h : fitB s put a c = true) : valid (apX s put a c).data.toList = true := by
  unfold fitB at h; rw [Bool.and_eq_true] at h; exact h.2
/-- One step back. -/
theorem Good.back {ms : List Mom} {n : Int} {s : ByteArray} {T : List ByteArray} (h : Good ms n s T) {k : Nat} {m : Mom} {x : ByteArray} (hk : 1 ≤ k) (hm : ms[k]? = some m) (hx : T[k]? = some x) :
    fitB x m.y m.c m.d = true ∧ ∃ q : Nat, m.p = q ∧ q < k ∧ T[q]? = some (apX x m.y m.c m.d) := by
  obtain ⟨q, t, h1, h2, h3, h4, h5, h6, h7, h8⟩ := h.2.2.2.2.2 k m hk hm
  have e : x = apX t m.x m.a m.b := by rw [hx] at h5; injection h5
  obtain ⟨g1, g2⟩ := fit_undo h4
  rw [← e, h6, h7, ← h6, h8, h6] at g1 g2
  exact ⟨g1, q, h1, h2, by rw [g2]; exact h3⟩
/-- On the way back: the text of state k is x, wherever the history is one of s. -/
def WayB (ms : List Mom) (n : Int) (s : ByteArray) (k : Nat) (x : ByteArray) : Prop :=
  k < ms.length ∧ valid x.data.toList = true ∧ ∀ T, Good ms n s T → T[k]? = some x
theorem WayB.start {ms : List Mom} {k : Nat} {s : ByteArray} (hk : k < ms.length) (hv : valid s.data.toList = true) : WayB ms k s k s :=
  ⟨hk, hv, fun T h => by obtain ⟨j, h1, _, h2⟩ := h.2.2.2.1; obtain rfl : k = j := by omega
                         exact h2⟩
theorem WayB.step {ms : List Mom} {n : Int} {s x : ByteArray} {k q : Nat} {m : Mom} (h : WayB ms n s k x) (hk : 1 ≤ k) (hm : ms[k]? = some m) (hq : m.p = q) (hqk : q < k) (hf : fitB x m.y m.c m.d = true) : WayB ms n s q (apX x m.y m.c m.d) := by
  obtain ⟨h1, h2, h3⟩ := h
  refine ⟨by omega, fit_valid hf, fun T hT => ?_⟩
  obtain ⟨_, q', e, _, g⟩ := hT.back hk hm (h3 T hT)
  obtain rfl : q = q' := by omega
  exact g
theorem WayB.fail {ms : List Mom} {n : Int} {s x : ByteArray} {k : Nat} {m : Mom} (h : WayB ms n s k x) (hk : 1 ≤ k) (hm : ms[k]? = some m) (hf : fitB x m.y m.c m.d = false) : ¬ HvP ms n s := by
  rintro ⟨T, hT⟩
  have := (hT.back hk hm (h.2.2 T hT)).1
  rw [hf] at this; cases this
theorem par_fail {ms : List Mom} {n : Int} {s : ByteArray} {k : Nat} {m : Mom} (hk : 1 ≤ k) (hm : ms[k]? = some m) (hp : ¬ (0 ≤ m.p ∧ m.p < k)) : ¬ HvP ms n s := fun ⟨_, hT⟩ => hp (hT.par hk hm)
theorem valid_fail {ms : List Mom} {n : Int} {s : ByteArray} (h : valid s.data.toList = false) : ¬ HvP ms n s := fun ⟨_, hT⟩ => by have := hT.2.1; rw [h] at this; cases this
theorem len_fail {ms : List Mom} {n : Int} {s : ByteArray} (h : ¬ (1 ≤ ms.length ∧ ms.length ≤ 30)) : ¬ HvP ms n s := fun ⟨_, hT⟩ => h hT.1
theorem at_fail {ms : List Mom} {n : Int} {s : ByteArray} (h : ¬ (0 ≤ n ∧ n < ms.length)) : ¬ HvP ms n s := fun ⟨_, hT⟩ => by
  obtain ⟨k, h1, h2, _⟩ := hT.2.2.2.1; exact h (by omega)
theorem zer_fail {ms : List Mom} {n : Int} {s : ByteArray} {m : Mom} (hm : ms[0]? = some m) (h : ¬ Zer m) : ¬ HvP ms n s := fun ⟨_, hT⟩ => by
  obtain ⟨m', h1, h2⟩ := hT.2.2.1
  rw [hm] at h1; injection h1 with h1; subst h1; exact h h2
/-- On the way forth: os are the texts of the first states. -/
def WayF (ms : List Mom) (n : Int) (s : ByteArray) (os : List ByteArray) : Prop :=
  1 ≤ os.length ∧ os.length ≤ ms.length ∧ (∀ t ∈ os, valid t.data.toList = true) ∧ (∀ k m, 1 ≤ k → k < os.length → ms[k]? = some m → Fol os k m) ∧ ∀ T, Good ms n s T → T.take os.length = os
theorem WayF.start {ms : List Mom} {n : Int} {s x : ByteArray} (h : WayB ms n s 0 x) : WayF ms n s [x] := by
  obtain ⟨h1, h2, h3⟩ := h
  refine ⟨Nat.le_refl _, h1, fun t ht => by simp at ht; subst ht; exact h2, fun k m hk hl => by simp at hl; omega, fun T hT => ?_⟩
  have h4 := h3 T hT
  cases T with
  | nil => simp at h4
  | cons y T => simp at h4; subst h4; simp
theorem fol_app {os : List ByteArray} {k : Nat} {m : Mom} {y : ByteArray} (h : Fol os k m) (hk : k < os.length) : Fol (os ++ [y]) k m :=
  h.keep fun j hj => List.getElem?_append_left (by omega)
theorem WayF.step {ms : List Mom} {n : Int} {s t : ByteArray} {os : List ByteArray} {q : Nat} {m : Mom} (h : WayF ms n s os) (hm : ms[os.length]? = some m) (hq : m.p = q) (ht : os[q]? = some t) (hf : fitB t m.x m.a m.b = true) (hb : Bk t m) :
    WayF ms n s (os ++ [apX t m.x m.a m.b]) := by
  obtain ⟨h1, h2, h3, h4, h5⟩ := h
  have hlt : os.length < ms.length := (List.getElem?_eq_some_iff.1 hm).1
  have hql : q < os.length := (List.getElem?_eq_some_iff.1 ht).1
  refine ⟨by simp, by simp; omega, ?_, ?_, fun T hT => ?_⟩
  · intro u hu
    rcases List.mem_append.1 hu with hu | hu
    · exact h3 u hu
    · simp at hu; subst hu; exact fit_valid hf
  · intro k m' hk hl hm'
    rcases Nat.lt_or_ge k os.length with hlk | hlk
    · exact fol_app (h4 k m' hk hlk hm') hlk
    · obtain rfl : k = os.length := by simp at hl; omega
      rw [hm] at hm'; injection hm' with hm'; subst hm'
      exact ⟨q, t, hq, hql, (List.getElem?_append_left hql).trans ht, hf, by simp, hb⟩
  · have h6 := h5 T hT
    obtain ⟨q', t', e1, e2, e3, e4, e5, e6⟩ := hT.2.2.2.2.2 os.length m h1 hm
    obtain rfl : q = q' := by omega
    have h7 : T[q]? = os[q]? := by rw [← h6, List.getElem?_take, if_pos e2]
    rw [h7, ht] at e3; injection e3 with e3; subst e3
    rw [List.length_append, List.length_singleton, List.take_add_one, e5, h6]; rfl
theorem WayF.fail {ms : List Mom} {n : Int} {s t : ByteArray} {os : List ByteArray} {q : Nat} {m : Mom} (h : WayF ms n s os) (hm : ms[os.length]? = some m) (hq : m.p = q) (ht : os[q]? = some t) (hb : ¬ (fitB t m.x m.a m.b = true ∧ Bk t m)) : ¬ HvP ms n s := by
  rintro ⟨T, hT⟩
  obtain ⟨h1, h2, h3, h4, h5⟩ := h
  obtain ⟨q', t', e1, e2, e3, e4, e5, e6⟩ := hT.2.2.2.2.2 os.length m h1 hm
  obtain rfl : q = q' := by omega
  have h7 : T[q]? = os[q]? := by rw [← h5 T hT, List.getElem?_take, if_pos e2]
  rw [h7, ht] at e3; injection e3 with e3; subst e3
  exact hb ⟨e4, e6⟩
theorem WayF.done {ms : List Mom} {k : Nat} {s t : ByteArray} {os : List ByteArray} {m : Mom} (h : WayF ms k s os) (hl : os.length = ms.length) (hn : 1 ≤ ms.length ∧ ms.length ≤ 30) (hv : valid s.data.toList = true) (hm : ms[0]? = some m) (hz : Zer m) (ht : os[k]? = some t) : t = s ↔ HvP ms k s := by
  obtain ⟨h1, h2, h3, h4, h5⟩ := h
  have hk : k < os.length := (List.getElem?_eq_some_iff.1 ht).1
  constructor
  · rintro rfl
    exact ⟨os, hn, hv, ⟨m, hm, hz⟩, ⟨k, rfl, by omega, ht⟩, hl, fun j m' hj hm' => h4 j m' hj (by rw [hl]; exact (List.getElem?_eq_some_iff.1 hm').1) hm'⟩
  · rintro ⟨T, hT⟩
    have h6 := h5 T hT
    rw [hl, ← hT.2.2.2.2.1, List.take_length] at h6
    subst h6
    obtain ⟨j, e1, e2, e3⟩ := hT.2.2.2.1
    obtain rfl : k = j := by omega
    rw [ht] at e3; injection e3
/-- What is known of the texts: where K says so, T has the text. -/
def Kno (ms : List Mom) (n : Int) (s : ByteArray) (T : List ByteArray) (K : List Bool) : Prop :=
  T.length = ms.length ∧ K.length = ms.length ∧ (∀ t ∈ T, t.size ≤ 120) ∧ ∀ (j : Nat) (t : ByteArray), K[j]? = some true → T[j]? = some t → valid t.data.toList = true ∧ ∀ G, Good ms n s G → G[j]? = some t
theorem Kno.start (ms : List Mom) (n : Int) (s : ByteArray) : Kno ms n s (List.replicate ms.length ⟨#[]⟩) (List.replicate ms.length false) := by
  refine ⟨by simp, by simp, fun t ht => ?_, fun j t hj => ?_⟩
  · rw [(List.mem_replicate.1 ht).2]; exact Nat.zero_le _
  · rw [List.getElem?_replicate] at hj
    split at hj <;> simp at hj
theorem Kno.set {ms : List Mom} {n : Int} {s x : ByteArray} {T : List ByteArray} {K : List Bool} {k : Nat} (h : Kno ms n s T K) (hk : WayB ms n s k x) : Kno ms n s (T.set k x) (K.set k true) := by
  obtain ⟨h1, h2, h3, h4⟩ := h
  refine ⟨by simpa using h1, by simpa using h2, fun t ht => ?_, fun j t hj ht => ?_⟩
  · rcases List.mem_or_eq_of_mem_set ht with ht | ht
    · exact h3 t ht
    · subst ht; exact valid_size hk.2.1
  · by_cases e : k = j
    · subst e
      rw [List.getElem?_set_self (by rw [h1]; exact hk.1)] at ht
      injection ht with ht
      subst ht
      exact hk.2
    · rw [List.getElem?_set_ne e] at hj ht
      exact h4 j t hj ht
/-- On the reference's way back: state k is to be set. -/
def RefB (ms : List Mom) (n : Nat) (s : ByteArray) (T : List ByteArray) (K : List Bool) (k : Nat) (x : ByteArray) : Prop :=
  Kno ms n s T K ∧ WayB ms n s k x ∧ ((k = n ∧ x = s) ∨ (T[n]? = some s ∧ K[n]? = some true ∧ k ≠ n))
theorem RefB.at_ {ms : List Mom} {n : Nat} {s x : ByteArray} {T : List ByteArray} {K : List Bool} {k : Nat} (h : RefB ms n s T K k x) : Kno ms n s (T.set k x) (K.set k true) ∧ (T.set k x)[n]? = some s ∧ (K.set k true)[n]? = some true := by
  obtain ⟨h1, h2, h3⟩ := h
  have hT := h1.1
  have hK := h1.2.1
  have hk := h2.1
  refine ⟨h1.set h2, ?_⟩
  rcases h3 with ⟨rfl, rfl⟩ | ⟨g1, g2, g3⟩
  · exact ⟨List.getElem?_set_self (by omega), List.getElem?_set_self (by omega)⟩
  · exact ⟨(List.getElem?_set_ne g3).trans g1, (List.getElem?_set_ne g3).trans g2⟩
theorem RefB.step {ms : List Mom} {n : Nat} {s x : ByteArray} {T : List ByteArray} {K : List Bool} {k q : Nat} {m : Mom} (h : RefB ms n s T K k x) (hkn : k ≤ n) (hk : 1 ≤ k) (hm : ms[k]? = some m) (hq : m.p = q) (hqk : q < k) (hf : fitB x m.y m.c m.d = true) :
    RefB ms n s (T.set k x) (K.set k true) q (apX x m.y m.c m.d) :=
  ⟨h.at_.1, h.2.1.step hk hm hq hqk hf, .inr ⟨h.at_.2.1, h.at_.2.2, by omega⟩⟩
/-- On the reference's way forth: the states before k are done. -/
def RefF (ms : List Mom) (n : Nat) (s : ByteArray) (T : List ByteArray) (K : List Bool) (k : Nat) : Prop :=
  Kno ms n s T K ∧ T[n]? = some s ∧ K[n]? = some true ∧ (∀ j, j < k → K[j]? = some true) ∧ (1 ≤ k ∧ k ≤ ms.length) ∧ ∀ j m, 1 ≤ j → j < k → ms[j]? = some m → Fol T j m
theorem RefF.start {ms : List Mom} {n : Nat} {s x : ByteArray} {T : List ByteArray} {K : List Bool} (h : RefB ms n s T K 0 x) : RefF ms n s (T.set 0 x) (K.set 0 true) 1 := by
  obtain ⟨h1, h2, h3⟩ := h.at_
  have hk := h.2.1.1
  refine ⟨h1, h2, h3, fun j hj => ?_, ⟨Nat.le_refl _, hk⟩, fun j m h4 h5 => by omega⟩
  obtain rfl : j = 0 := by omega
  exact List.getElem?_set_self (by rw [h.1.2.1]; exact hk)
theorem RefF.text {ms : List Mom} {n : Nat} {s : ByteArray} {T : List ByteArray} {K : List Bool} {k q : Nat} (h : RefF ms n s T K k) (hq : q < k) : ∃ t, T[q]? = some t ∧ valid t.data.toList = true ∧ ∀ G, Good ms n s G → G[q]? = some t := by
  obtain ⟨h1, h2, h3, h4, h5, h6⟩ := h
  have hq' : q < T.length := by rw [h1.1]; omega
  exact ⟨T[q], List.getElem?_eq_getElem hq', h1.2.2.2 q _ (h4 q hq) (List.getElem?_eq_getElem hq')⟩
theorem RefF.next {ms : List Mom} {n : Nat} {s t : ByteArray} {T : List ByteArray} {K : List Bool} {k q : Nat} {m : Mom} (h : RefF ms n s T K k) (hm : ms[k]? = some m) (hq : m.p = q) (hqk : q < k) (ht : T[q]? = some t) (hf : fitB t m.x m.a m.b = true) : ∀ G, Good ms n s G → G[k]? = some (apX t m.x m.a m.b) := by
  intro G hG
  obtain ⟨t', g1, g2, g3⟩ := h.text hqk
  rw [ht] at g1; injection g1 with g1; subst g1
  obtain ⟨q', t', e1, e2, e3, e4, e5, e6⟩ := hG.2.2.2.2.2 k m h.2.2.2.2.1.1 hm
  obtain rfl : q = q' := by omega
  rw [g3 G hG] at e3; injection e3 with e3; subst e3
  exact e5
theorem RefF.step {ms : List Mom} {n : Nat} {s t : ByteArray} {T : List ByteArray} {K : List Bool} {k q : Nat} {m : Mom} (h : RefF ms n s T K k) (hm : ms[k]? = some m) (hq : m.p = q) (hqk : q < k) (ht : T[q]? = some t) (hf : fitB t m.x m.a m.b = true) (hb : Bk t m) (hy : K[k]? = some true → T[k]? = some (apX t m.x m.a m.b)) :
    RefF ms n s (T.set k (apX t m.x m.a m.b)) (K.set k true) (k + 1) := by
  have hnx := h.next hm hq hqk ht hf
  have hkl : k < ms.length := (List.getElem?_eq_some_iff.1 hm).1
  obtain ⟨h1, h2, h3, h4, h5, h6⟩ := h
  have hTl := h1.1
  have hKl := h1.2.1
  refine ⟨h1.set ⟨hkl, fit_valid hf, hnx⟩, ?_, ?_, fun j hj => ?_, ⟨by omega, by omega⟩, fun j m' hj hjk hm' => ?_⟩
  · by_cases e : k = n
    · subst e
      have := hy h3
      rw [h2] at this; injection this with this
      rw [List.getElem?_set_self (by omega), ← this]
    · rw [List.getElem?_set_ne e]; exact h2
  · by_cases e : k = n
    · subst e; exact List.getElem?_set_self (by omega)
    · rw [List.getElem?_set_ne e]; exact h3
  · by_cases e : k = j
    · subst e; exact List.getElem?_set_self (by omega)
    · rw [List.getElem?_set_ne e]; exact h4 j (by omega)
  · rcases Nat.lt_or_ge j k with hl | hl
    · exact (h6 j m' hj hl hm').keep fun i hi => List.getElem?_set_ne (by omega)
    · obtain rfl : j = k := by omega
      rw [hm] at hm'; injection hm' with hm'; subst hm'
      exact ⟨q, t, hq, hqk, (List.getElem?_set_ne (by omega)).trans ht, hf, List.getElem?_set_self (by omega), hb⟩
theorem RefF.fail {ms : List Mom} {n : Nat} {s t : ByteArray} {T : List ByteArray} {K : List Bool} {k q : Nat} {m : Mom} (h : RefF ms n s T K k) (hm : ms[k]? = some m) (hq : m.p = q) (hqk : q < k) (ht : T[q]? = some t) (hb : ¬ (fitB t m.x m.a m.b = true ∧ Bk t m)) : ¬ HvP ms n s := by
  rintro ⟨G, hG⟩
  obtain ⟨t', g1, g2, g3⟩ := h.text hqk
  rw [ht] at g1; injection g1 with g1; subst g1
  obtain ⟨q', t', e1, e2, e3, e4, e5, e6⟩ := hG.2.2.2.2.2 k m h.2.2.2.2.1.1 hm
  obtain rfl : q = q' := by omega
  rw [g3 G hG] at e3; injection e3 with e3; subst e3
  exact hb ⟨e4, e6⟩
theorem RefF.other {ms : List Mom} {n : Nat} {s t x : ByteArray} {T : List ByteArray} {K : List Bool} {k q : Nat} {m : Mom} (h : RefF ms n s T K k) (hm : ms[k]? = some m) (hq : m.p = q) (hqk : q < k) (ht : T[q]? = some t) (hf : fitB t m.x m.a m.b = true) (hK : K[k]? = some true) (hx : T[k]? = some x) (hne : apX t m.x m.a m.b ≠ x) : ¬ HvP ms n s := by
  rintro ⟨G, hG⟩
  have h1 := h.next hm hq hqk ht hf G hG
  rw [(h.1.2.2.2 k x hK hx).2 G hG] at h1
  injection h1 with h1
  exact hne h1.symm
theorem RefF.done {ms : List Mom} {n : Nat} {s : ByteArray} {T : List ByteArray} {K : List Bool} {m : Mom} (h : RefF ms n s T K ms.length) (hn : 1 ≤ ms.length ∧ ms.length ≤ 30) (hv : valid s.data.toList = true) (hm : ms[0]? = some m) (hz : Zer m) (hk : n < ms.length) : HvP ms n s :=
  ⟨T, hn, hv, ⟨m, hm, hz⟩, ⟨n, rfl, hk, h.2.1⟩, h.1.1, fun j m' hj hm' => h.2.2.2.2.2 j m' hj (List.getElem?_eq_some_iff.1 hm').1 hm'⟩
end Go.Proofs.Ytlnldnenkajcdaa
