/- A region that draws its order, reads in all its operations but the last, and stores in the last: one walk of the lexical order, then the last operation. -/
import Derived.Test.YthcijegcnecnmaaDoorWa
import Derived.Deep.Quiet
set_option linter.unusedVariables false
set_option linter.unusedSimpArgs false
namespace Go.Proofs.YthcijegcnecnmaaDoor
open Go.RowKit
/-- No operation is guarded; each waits for earlier ones alone; the last one waits for all. -/
def lastB (ol : List Oper) : Bool :=
  match ol.getLast? with
  | none => false
  | some s => ol.all (fun o => o.guard.isNone) &&
    ((List.range ol.length).all fun i => match ol[i]? with | some o => o.after.all (fun e => !Region.binds .any e || decide (e.on < i)) | none => true) &&
    ((List.range (ol.length - 1)).all fun j => s.after.any fun e => Region.binds .any e && (e.on == j)) &&
    Region.lexB .any ol.dropLast.toArray
section
variable {P : Program} {l : List Oper} {s : Oper} {C : World → Prop} {Q : Exit → Act → World → Prop}
theorem wanted_none {o : Oper} {ops : Array Oper} {a : Act} (h : o.guard = none) : Region.wanted o (yielded ops a.tmps) = true := by simp [Region.wanted, h]
structure LastOk (l : List Oper) (s : Oper) : Prop where
  gl : ∀ o ∈ l, o.guard = none
  gs : s.guard = none
  al : ∀ (i : Nat) (o : Oper), l[i]? = some o → ∀ e ∈ o.after, Region.binds .any e = true → e.on < i
  la : ∀ e ∈ s.after, Region.binds .any e = true → e.on < l.length
  cov : ∀ j, j < l.length → ∃ e ∈ s.after, Region.binds .any e = true ∧ e.on = j
  lex : Region.lexB .any l.toArray = true
theorem lastOk_of {l : List Oper} {s : Oper} (h : lastB (l ++ [s]) = true) : LastOk l s := by
  unfold lastB at h
  rw [List.getLast?_concat] at h
  simp only [Bool.and_eq_true, List.length_append, List.length_cons, List.length_nil, Nat.add_sub_cancel, List.dropLast_concat] at h
  obtain ⟨⟨⟨h1, h2⟩, h3⟩, h4⟩ := h
  rw [List.all_eq_true] at h1 h2 h3
  refine ⟨fun o ho => ?_, ?_, fun i o hi e he hb => ?_, fun e he hb => ?_, fun j hj => ?_, h4⟩
  · simpa using h1 o (by simp [ho])
  · simpa using h1 s (by simp)
  · have hlt : i < l.length := (List.getElem?_eq_some_iff.1 hi).1
    have := h2 i (by simp; omega)
    rw [List.getElem?_append_left hlt, hi] at this
    simp only [Array.all_eq_true_iff_forall_mem] at this
    have := this e he
    simpa [hb] using this
  · have := h2 l.length (by simp)
    rw [List.getElem?_concat_length] at this
    simp only [Array.all_eq_true_iff_forall_mem] at this
    have := this e he
    simpa [hb] using this
  · have := h3 j (by simpa using hj)
    rw [Array.any_eq_true'] at this
    obtain ⟨e, he, h5⟩ := this
    simp at h5
    exact ⟨e, he, h5.1, h5.2⟩
theorem getD_push {L : Array Bool} {j : Nat} (hj : j < L.size) (b d : Bool) : (L.push b).getD j d = L.getD j d := by
  simp [Array.getD_eq_getD_getElem?, Array.getElem?_push, Nat.ne_of_lt hj]
theorem ready_low (H : LastOk l s) {L : Array Bool} (hL : L.size = l.length) {i : Nat} (hi : i < l.length) : i ∈ Region.ready .any (l ++ [s]).toArray (L.push false) ↔ i ∈ Region.ready .any l.toArray L := by
  unfold Region.ready
  rw [List.mem_filter, List.mem_filter]
  have e1 : (l ++ [s]).toArray[i]? = l[i]? := by simp [List.getElem?_append_left hi]
  have e2 : l.toArray[i]? = l[i]? := by simp
  have eo : l[i]? = some l[i] := List.getElem?_eq_getElem hi
  have hall : (l[i].after.all fun e => !Region.binds .any e || (L.push false).getD e.on false) = (l[i].after.all fun e => !Region.binds .any e || L.getD e.on false) := by
    rw [Bool.eq_iff_iff, Array.all_eq_true_iff_forall_mem, Array.all_eq_true_iff_forall_mem]
    constructor <;>
    · intro h e he
      have := h e he
      cases hb : Region.binds .any e
      · simp
      · have hlt := H.al i _ eo e he hb
        rw [hb] at this
        rw [getD_push (by omega)] at *
        simpa using this
  rw [e1, e2, eo, getD_push (by omega)]
  simp only [Option.map_some, Option.getD_some, hall]
  simp; omega
theorem all_listed (H : LastOk l s) {L : Array Bool} (hL : L.size = l.length) (h : Region.ready .any l.toArray L = []) : ∀ j, j < l.length → L.getD j false = true := by
  intro j
  induction j using Nat.strongRecOn with
  | _ j ih =>
    intro hj
    cases hb : L.getD j false
    · exfalso
      have eo : l[j]? = some l[j] := List.getElem?_eq_getElem hj
      have : j ∈ Region.ready .any l.toArray L := by
        unfold Region.ready
        rw [List.mem_filter]
        refine ⟨by simpa using hj, ?_⟩
        have e2 : l.toArray[j]? = l[j]? := by simp
        have hb2 : L.getD j true = false := by
          rw [Array.getD_eq_getD_getElem?] at hb ⊢
          rw [Array.getElem?_eq_getElem (by omega)] at hb ⊢
          exact hb
        rw [e2, eo, hb2]
        simp only [Option.map_some, Option.getD_some, Bool.not_false, Bool.true_and]
        rw [Array.all_eq_true_iff_forall_mem]
        intro e he
        cases hbi : Region.binds .any e
        · rfl
        · have hlt := H.al j _ eo e he hbi
          simp [ih e.on hlt (by omega)]
      rw [h] at this
      cases this
    · rfl
theorem ready_last (H : LastOk l s) {L : Array Bool} (hL : L.size = l.length) : l.length ∈ Region.ready .any (l ++ [s]).toArray (L.push false) ↔ ∀ j, j < l.length → L.getD j false = true := by
  unfold Region.ready
  rw [List.mem_filter]
  have e1 : (l ++ [s]).toArray[l.length]? = some s := by simp
  have e3 : (L.push false).getD l.length true = false := by rw [← hL]; simp [Array.getD_eq_getD_getElem?]
  rw [e1, e3]
  simp only [Option.map_some, Option.getD_some, Bool.not_false, Bool.true_and]
  rw [Array.all_eq_true_iff_forall_mem]
  constructor
  · rintro ⟨_, h⟩ j hj
    obtain ⟨e, he, hb, rfl⟩ := H.cov j hj
    have := h e he
    rw [hb, getD_push (by omega)] at this
    simpa using this
  · intro h
    refine ⟨by simp, fun e he => ?_⟩
    cases hb : Region.binds .any e
    · rfl
    · have hlt := H.la e he hb
      rw [getD_push (by omega)]
      simp [h e.on hlt]
theorem ready_all (H : LastOk l s) {L : Array Bool} (hL : L.size = l.length) (h : ∀ j, j < l.length → L.getD j false = true) : Region.ready .any (l ++ [s]).toArray (L.push true) = [] := by
  unfold Region.ready
  rw [List.filter_eq_nil_iff]
  intro i hi
  have hi' : i < l.length + 1 := by simpa using hi
  have : (L.push true).getD i true = true := by
    rcases Nat.lt_or_ge i l.length with h1 | h1
    · rw [getD_push (by omega)]
      have h2 := h i h1
      rw [Array.getD_eq_getD_getElem?] at h2 ⊢
      rw [Array.getElem?_eq_getElem (by omega)] at h2 ⊢
      exact h2
    · obtain rfl : i = l.length := by omega
      rw [← hL]; simp [Array.getD_eq_getD_getElem?]
  rw [this]; simp
theorem any_all (H : LastOk l s) {L : Array Bool} (hL : L.size = l.length) (h : ∀ j, j < l.length → L.getD j false = true) (a : Act) (w : World) (hq : Q .normal a w) : ∀ fuel, wpAny P .any (l ++ [s]).toArray Q fuel (L.push true) a w := by
  intro fuel
  have hr := ready_all H hL h
  cases fuel with
  | zero => exact ⟨hr, hq⟩
  | succ f => exact ⟨fun _ => hq, fun i hi => by rw [hr] at hi; cases hi⟩
theorem any_last (H : LastOk l s) : ∀ (fuel : Nat) (L : Array Bool) (a : Act) (w : World), L.size = l.length → C w →
    wpAnyQ P .any l.toArray C (fun a' => ∀ w', C w' → s.wp P a' w' (fun a w => Q .normal a w) Q) fuel L a → wpAny P .any (l ++ [s]).toArray Q (fuel + 1) (L.push false) a w := by
  intro fuel
  induction fuel with
  | zero =>
    intro L a w hL hC h
    have hall := all_listed H hL h.1
    have hq := h.2 w hC
    refine ⟨fun h0 => ?_, fun i hi => ?_⟩
    · have := (ready_last H hL).2 hall
      rw [h0] at this; cases this
    · have hi' : i < l.length + 1 := by
        have := (List.mem_filter.1 hi).1
        simpa using this
      rcases Nat.lt_or_ge i l.length with h1 | h1
      · have := (ready_low H hL h1).1 hi
        rw [h.1] at this; cases this
      · obtain rfl : i = l.length := by omega
        unfold wpOp
        have e1 : (l ++ [s]).toArray[l.length]? = some s := by simp
        rw [e1]
        simp only
        rw [if_pos (wanted_none H.gs)]
        refine .inl (Oper.wp_mono (fun a' w' hq' => ?_) hq)
        have e2 : (L.push false).setIfInBounds l.length true = L.push true := by
          apply Array.ext_getElem?
          intro k
          rw [Array.getElem?_setIfInBounds, Array.getElem?_push, Array.getElem?_push]
          by_cases hk : l.length = k
          · subst hk; simp [hL]
          · rw [if_neg hk, if_neg (by omega), if_neg (by omega)]
        rw [e2]
        exact any_all H hL hall a' w' hq' _
  | succ f ih =>
    intro L a w hL hC h
    by_cases h0 : Region.ready .any l.toArray L = []
    · have hall := all_listed H hL h0
      have hq := h.1 h0 w hC
      refine ⟨fun h2 => ?_, fun i hi => ?_⟩
      · have := (ready_last H hL).2 hall
        rw [h2] at this; cases this
      · have hi' : i < l.length + 1 := by
          have := (List.mem_filter.1 hi).1
          simpa using this
        rcases Nat.lt_or_ge i l.length with h1 | h1
        · have := (ready_low H hL h1).1 hi
          rw [h0] at this; cases this
        · obtain rfl : i = l.length := by omega
          unfold wpOp
          have e1 : (l ++ [s]).toArray[l.length]? = some s := by simp
          rw [e1]
          simp only
          rw [if_pos (wanted_none H.gs)]
          refine .inl (Oper.wp_mono (fun a' w' hq' => ?_) hq)
          have e2 : (L.push false).setIfInBounds l.length true = L.push true := by
            apply Array.ext_getElem?
            intro k
            rw [Array.getElem?_setIfInBounds, Array.getElem?_push, Array.getElem?_push]
            by_cases hk : l.length = k
            · subst hk; simp [hL]
            · rw [if_neg hk, if_neg (by omega), if_neg (by omega)]
          rw [e2]
          exact any_all H hL hall a' w' hq' _
    · obtain ⟨k, hk⟩ := List.exists_mem_of_ne_nil _ h0
      have hkl : k < l.length := by have := (List.mem_filter.1 hk).1; simpa using this
      have hkn : L.getD k true = false := by have := (List.mem_filter.1 hk).2; simp at this; rw [Array.getD_eq_getD_getElem?]; exact this.1
      refine ⟨fun h2 => ?_, fun i hi => ?_⟩
      · have := (ready_low H hL hkl).2 hk
        rw [h2] at this; cases this
      · have hi' : i < l.length + 1 := by
          have := (List.mem_filter.1 hi).1
          simpa using this
        rcases Nat.lt_or_ge i l.length with h1 | h1
        · have hq := h.2 i ((ready_low H hL h1).1 hi)
          have eo : l[i]? = some l[i] := List.getElem?_eq_getElem h1
          have e1 : (l ++ [s]).toArray[i]? = some l[i] := by simp [List.getElem?_append_left h1]
          have e2 : l.toArray[i]? = some l[i] := by simp
          unfold qOp at hq
          rw [e2] at hq
          simp only at hq
          rw [if_pos (wanted_none (H.gl _ (List.getElem_mem h1)))] at hq
          unfold wpOp
          rw [e1]
          simp only
          rw [if_pos (wanted_none (H.gl _ (List.getElem_mem h1)))]
          refine .inl (Oper.wp_of_quiet hC (fun a' w' hC' hK => ?_) hq)
          have e3 : (L.push false).setIfInBounds i true = (L.setIfInBounds i true).push false := by
            apply Array.ext_getElem?
            intro k
            rw [Array.getElem?_setIfInBounds, Array.getElem?_push, Array.getElem?_push, Array.getElem?_setIfInBounds]
            by_cases hk : i = k
            · subst hk; rw [if_pos rfl, if_pos (by simp; omega), if_neg (by simp; omega), if_pos rfl, if_pos (by omega)]
            · simp [hk]
          rw [e3]
          exact ih _ a' w' (by simpa using hL) hC' hK
        · obtain rfl : i = l.length := by omega
          have := (ready_last H hL).1 hi k hkl
          rw [Array.getD_eq_getD_getElem?] at this hkn
          rw [Array.getElem?_eq_getElem (by omega)] at this hkn
          simp at this hkn
          rw [this] at hkn; cases hkn
end
/-- A region that reads, and stores in its last operation. -/
theorem wp_region_quiet_last {P : Program} {C : World → Prop} {id : Nat} {Q : Exit → Act → World → Prop} {a : Act} {w : World} {l : List Oper} {s : Oper} (hm : P.follows .mixedOrders = true) (hB : lastB (l ++ [s]) = true) (hC : C { w with drawn := w.drawn + 1 })
    (h : wpQuiet P l.toArray C (fun a' => ∀ w', C w' → s.wp P a' w' (fun a w => Q .normal a w) Q) l a) : (Code.region id (l ++ [s]).toArray true).wp P Q a w := by
  have H := lastOk_of hB
  refine wp_region_any hm ?_
  have hx := H.lex
  simp only [Region.lexB, Bool.and_eq_true] at hx
  have h2 := wpAnyQ_lex (C := C) (md := .any) hx.1 l 0 (Array.replicate l.toArray.size false) a (by simp) (by simpa using hx.2) h
  have h3 := any_last H l.length (Array.replicate l.toArray.size false) a { w with drawn := w.drawn + 1 } (by simp) hC h2
  have e : (Array.replicate l.toArray.size false).push false = Array.replicate (l ++ [s]).toArray.size false := by
    rw [← Array.replicate_succ]; simp
  rw [e] at h3
  simpa using h3
theorem wp_region_last {P : Program} {C : World → Prop} {id : Nat} {Q : Exit → Act → World → Prop} {a : Act} {w : World} {ol l : List Oper} {s : Oper} (hl : ol = l ++ [s]) (hm : P.follows .mixedOrders = true) (hB : lastB ol = true) (hC : C { w with drawn := w.drawn + 1 })
    (h : wpQuiet P l.toArray C (fun a' => ∀ w', C w' → s.wp P a' w' (fun a w => Q .normal a w) Q) l a) : (Code.region id ol.toArray true).wp P Q a w := by
  subst hl
  exact wp_region_quiet_last hm hB hC h
end Go.Proofs.YthcijegcnecnmaaDoor
