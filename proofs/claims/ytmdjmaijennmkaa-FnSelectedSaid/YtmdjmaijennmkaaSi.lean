/- The reference's way of joining: what holds in its loops; a law for append at a step of a region. -/
import Derived.Test.YtmdjmaijennmkaaJo
import Derived.Test.YtmdjmaijennmkaaCs
import Derived.Maps.AppendAt
set_option linter.unusedVariables false
set_option linter.unusedSimpArgs false
namespace Go.Proofs.Ytmdjmaijennmkaa
open Go.RowKit
/-- What holds when j of o have been looked at: c has grown, nx is what was not joined. -/
def SInv (o : List (Int × Int)) (c0 : Int × Int) (j : Nat) (c : Int × Int) (nx : List (Int × Int)) : Prop :=
  ∃ L H, nx = L ++ H ∧ (∀ x ∈ L, hiC x < loC c) ∧ (∀ x ∈ H, hiC c < loC x) ∧ (∀ x ∈ L, ∀ y ∈ o.drop j, hiC x < loC y) ∧
    ((H = [] ∧ insC o c0 = L ++ insC (o.drop j) c) ∨ (H ≠ [] ∧ (∀ x ∈ o.drop j, hiC c < loC x) ∧ insC o c0 = L ++ c :: H ++ o.drop j))
theorem SInv.start (o : List (Int × Int)) (c0 : Int × Int) : SInv o c0 0 c0 [] := ⟨[], [], rfl, by simp, by simp, by simp, .inl ⟨rfl, rfl⟩⟩
theorem drop_apart {o : List (Int × Int)} (h : Apart o) {j : Nat} (hj : j < o.length) : ∀ y ∈ o.drop (j + 1), hiC o[j] < loC y := by
  have h1 : Apart (o.drop j) := List.Pairwise.sublist (List.drop_sublist _ _) h
  rw [List.drop_eq_getElem_cons hj] at h1
  exact (List.pairwise_cons.1 h1).1
theorem SInv.meet {o nx : List (Int × Int)} {c0 c : Int × Int} {j : Nat} (h : SInv o c0 j c nx) (hj : j < o.length) (h1 : loC o[j] ≤ hiC c) (h2 : loC c ≤ hiC o[j]) : SInv o c0 (j + 1) (hull o[j] c) nx := by
  obtain ⟨L, H, e, hL, hH, hd, hc⟩ := h
  have hdr := List.drop_eq_getElem_cons hj
  have hin : o[j] ∈ o.drop j := by rw [hdr]; exact List.mem_cons_self
  have htl : ∀ y ∈ o.drop (j + 1), y ∈ o.drop j := fun y hy => by rw [hdr]; exact List.mem_cons_of_mem _ hy
  rcases hc with ⟨hn, hi⟩ | ⟨_, hb, _⟩
  · subst hn
    refine ⟨L, [], e, fun x hx => ?_, by simp, fun x hx y hy => hd x hx y (htl y hy), .inl ⟨rfl, ?_⟩⟩
    · have := hL x hx
      have := hd x hx o[j] hin
      rw [lo_hull]; omega
    · rw [hi, hdr, ins_pos h1 h2]
  · have := hb o[j] hin
    omega
theorem SInv.miss {o nx : List (Int × Int)} {c0 c : Int × Int} {j : Nat} (h : SInv o c0 j c nx) (ha : Apart o) (hj : j < o.length) (h1 : ¬ (loC o[j] ≤ hiC c ∧ loC c ≤ hiC o[j])) : SInv o c0 (j + 1) c (nx ++ [o[j]]) := by
  obtain ⟨L, H, e, hL, hH, hd, hc⟩ := h
  have hdr := List.drop_eq_getElem_cons hj
  have hin : o[j] ∈ o.drop j := by rw [hdr]; exact List.mem_cons_self
  have htl : ∀ y ∈ o.drop (j + 1), y ∈ o.drop j := fun y hy => by rw [hdr]; exact List.mem_cons_of_mem _ hy
  have hap := drop_apart ha hj
  have hxl := lo_hi o[j]
  have hcl := lo_hi c
  rcases hc with ⟨hn, hi⟩ | ⟨hn, hb, hi⟩
  · subst hn
    rcases Int.lt_or_le (hiC o[j]) (loC c) with h2 | h2
    · refine ⟨L ++ [o[j]], [], by rw [e]; simp, fun x hx => ?_, by simp, fun x hx y hy => ?_, .inl ⟨rfl, ?_⟩⟩
      · rcases List.mem_append.1 hx with hx | hx
        · exact hL x hx
        · simp at hx; subst hx; exact h2
      · rcases List.mem_append.1 hx with hx | hx
        · exact hd x hx y (htl y hy)
        · simp at hx; subst hx; exact hap y hy
      · rw [hi, hdr, ins_low h2]; simp
    · have h3 : hiC c < loC o[j] := by omega
      refine ⟨L, [o[j]], by rw [e]; simp, hL, by simpa using h3, fun x hx y hy => hd x hx y (htl y hy), .inr ⟨by simp, fun x hx => ?_, ?_⟩⟩
      · have := hap x hx; omega
      · rw [hi, hdr, ins_high h3]; simp
  · have h3 : hiC c < loC o[j] := hb _ hin
    refine ⟨L, H ++ [o[j]], by rw [e]; simp, hL, fun x hx => ?_, fun x hx y hy => hd x hx y (htl y hy), .inr ⟨by simp, fun x hx => hb x (htl x hx), ?_⟩⟩
    · rcases List.mem_append.1 hx with hx | hx
      · exact hH x hx
      · simp at hx; subst hx; exact h3
    · rw [hi, hdr]; simp
/-- All have been looked at: where c stands. -/
theorem SInv.done {o nx : List (Int × Int)} {c0 c : Int × Int} {j : Nat} (h : SInv o c0 j c nx) (hj : o.length ≤ j) :
    ∃ p, p ≤ nx.length ∧ insC o c0 = nx.take p ++ [c] ++ nx.drop p ∧ (∀ i (hi : i < nx.length), i < p → ¬ loC nx[i] > loC c) ∧ (∀ i (hi : i < nx.length), p ≤ i → loC nx[i] > loC c) := by
  obtain ⟨L, H, e, hL, hH, _, hc⟩ := h
  have hdr : o.drop j = [] := List.drop_of_length_le hj
  have hcl := lo_hi c
  subst e
  refine ⟨L.length, by simp, ?_, fun i hi hp => ?_, fun i hi hp => ?_⟩
  · rcases hc with ⟨hn, hi⟩ | ⟨hn, hb, hi⟩
    · rw [hi, hdr, hn]; simp [insC]
    · rw [hi, hdr]; simp
  · rw [List.getElem_append_left hp]
    have := hL _ (List.getElem_mem hp)
    have := lo_hi L[i]
    omega
  · rw [List.getElem_append_right hp]
    have := hH _ (List.getElem_mem (l := H) (n := i - L.length) (by simp at hi; omega))
    omega
section
variable {P : Program} {w : World}
theorem own_form_any {w : World} {base e size n : Nat} {v : Value} {xs : List Value} (h : w.ownsRow base e size v n xs) : ∃ A c, v = .slice A n c := by
  rcases h.2 with ⟨h1, h2⟩ | ⟨g, cap, cur, h1, _⟩
  · exact ⟨none, 0, by rw [h1, h2]⟩
  · exact ⟨_, cap, h1⟩
/-- append at a step of a region that draws: nothing may be appended too; where the new slice lies. -/
theorem step_append_at {ops : Array Oper} {o : Oper} {a : Act} {K : Act → World → Prop} {Q : Exit → Act → World → Prop} {E : Prop} (hgd : o.guard = none) (s x : Operand) (t : TypeId)
    (ho : o.op = .call { callee := .builtin .append, args := #[s, x], argTypes := #[t, t] })
    (base : Nat) (e : TypeId) (i : TypeInfo) (z : Value) (size bytes : Nat) (ht : P.underlying t = some (.slice e)) (hi : P.info? e = some i) (hz : i.zero = some z)
    (hsize : i.size = size) (hby : i.bytes = bytes) (hzs : z.cells.size = size) (hsz : 0 < size)
    (v : Value) (n : Nat) (xs : List Value) (hs : a.eval s = v) (hown : w.ownsRow base e size v n xs)
    (ad : Addr) (m c : Nat) (news : List Value) (hx : a.eval x = .slice (some ad) m c) (hl : news.length = m * size) (hnews : ∀ j u, news[j]? = some u → w.cell? (ad.add j) = some u) (h1 : ∀ u ∈ news, u.oneCell' = true)
    (h63 : n + m ≤ maxLen) (hbytes : (n + m) * bytes ≤ 140737488355328) (hbase : base ≤ w.heap.size)
    (h : ∀ A cap w', w'.ownsRow base e size (.slice A (n + m) cap) (n + m) (xs ++ news) → w.grownBy w' v.ownBlock → ((Value.slice A (n + m) cap).ownBlock = v.ownBlock ∨ (Value.slice A (n + m) cap).ownBlock = some w.heap.size) → K (a.put o.dst (.slice A (n + m) cap)) w') :
    if Region.wanted o (yielded ops a.tmps) = true then Oper.wp P o a w K Q else E := by
  have hw : Region.wanted o (yielded ops a.tmps) = true := by simp [Region.wanted, hgd]
  rw [if_pos hw]
  obtain ⟨v', w', hr, h2, h3, _, h5⟩ := run_append_own_at (P := P) w base t o.type e i z size bytes ht hi hz hsize hby hzs hsz v n xs hown ad m c news hl hnews h1 h63 hbytes hbase
  obtain ⟨A, cap, rfl⟩ := own_form_any h2
  unfold Oper.wp execOp
  simp only [ho, resolve, invoke, builtin, Sem.run_bind, Sem.run_pure, Result.andThen_ok, List.map_toArray, List.map_cons, List.map_nil, hs, hx, hr]
  exact h A cap w' h2 h3 h5
end
end Go.Proofs.Ytmdjmaijennmkaa
