/- The contract of the program's join. -/
import Derived.Test.YtmdjmaijennmkaaSt
import Derived.Test.YtmdjmaijennmkaaAp
import Derived.Test.YtmdjmaijennmkaaOp
import Derived.Test.YtmdjmaijennmkaaMw
set_option linter.unusedVariables false
set_option linter.unusedSimpArgs false
namespace Go.Proofs.Ytmdjmaijennmkaa
open Go.RowKit
/-- What holds at the head of join's loop: o is what has been joined of the first k. -/
def JInv (S : List (Int × Int)) (k : Nat) (o : List (Int × Int)) : Prop :=
  (k = 0 ∧ o = []) ∨ (∃ pre x, o = pre ++ [x] ∧ 0 < k ∧ mgC S = pre ++ runC x (S.drop k))
theorem JInv.first {S : List (Int × Int)} (h : 0 < S.length) : JInv S 1 [S[0]] := by
  cases S with
  | nil => simp at h
  | cons x S => exact .inr ⟨[], x, rfl, by omega, rfl⟩
theorem JInv.grow {S pre : List (Int × Int)} {x : Int × Int} {k : Nat} (h : mgC S = pre ++ runC x (S.drop k)) (hk : k < S.length) (hc : ¬ loC S[k] ≤ hiC x) : JInv S (k + 1) (pre ++ [x] ++ [S[k]]) := by
  refine .inr ⟨pre ++ [x], S[k], rfl, by omega, ?_⟩
  rw [h, List.drop_eq_getElem_cons hk, runC, if_neg hc]; simp
theorem JInv.meet {S pre : List (Int × Int)} {x : Int × Int} {k : Nat} (h : mgC S = pre ++ runC x (S.drop k)) (hk : k < S.length) (hc : loC S[k] ≤ hiC x) : JInv S (k + 1) (pre ++ [(loC x, max (hiC x) (hiC S[k]))]) := by
  refine .inr ⟨pre, _, rfl, by omega, ?_⟩
  rw [h, List.drop_eq_getElem_cons hk, runC, if_pos hc]
theorem JInv.last {S o : List (Int × Int)} {k : Nat} (h : JInv S k o) (hk : S.length ≤ k) : o = mgC S := by
  rcases h with ⟨h1, h2⟩ | ⟨pre, x, h1, h2, h3⟩
  · subst h1
    have : S = [] := List.eq_nil_of_length_eq_zero (by omega)
    subst this; exact h2
  · rw [h3, List.drop_of_length_le hk]; exact h1
theorem own_pairs_len {w : World} {B T n : Nat} {v : Value} {xs : List (Int × Int)} (h : w.ownsRow B T 2 v n (pairs xs)) : xs.length = n := by
  have := h.1; rw [pairs_len] at this; omega
theorem nil_row {w : World} {B : Nat} {ps : List (Int × Int)} (h : Row w B none (pairs ps)) : ps = [] := by
  cases ps with
  | nil => rfl
  | cons x ps =>
    obtain ⟨b, o, e, _⟩ := h.pair (j := 0) (by simp)
    cases e
theorem own_block2 {w : World} {base size n c : Nat} {e : TypeId} {A : Option Addr} {xs : List Value} (h : w.ownsRow base e size (.slice A n c) n xs) : ∀ a, A = some a → base ≤ a.block ∧ a.block < w.heap.size := fun a ha => by
  subst ha
  exact h.lt a.block rfl
theorem pairs_drop (xs : List (Int × Int)) (m : Nat) : pairs (xs.drop m) = (pairs xs).drop (m * 2) := by
  induction xs generalizing m with
  | nil => simp [pairs]
  | cons x xs ih =>
    cases m with
    | zero => rfl
    | succ m => rw [List.drop_succ_cons, ih, pairs_cons, show (m + 1) * 2 = m * 2 + 1 + 1 by omega]; rfl
theorem pairs_take (xs : List (Int × Int)) (m : Nat) : pairs (xs.take m) = (pairs xs).take (m * 2) := by
  induction xs generalizing m with
  | nil => simp [pairs]
  | cons x xs ih =>
    cases m with
    | zero => rfl
    | succ m => rw [List.take_succ_cons, pairs_cons, ih, pairs_cons, show (m + 1) * 2 = m * 2 + 1 + 1 by omega]; rfl
theorem pairs_drop_len (xs : List (Int × Int)) (m : Nat) : (pairs (xs.drop m)).length = (xs.length - m) * 2 := by rw [pairs_len, List.length_drop]
theorem pairs_ones (xs : List (Int × Int)) : ∀ u ∈ pairs xs, u.oneCell' = true := by
  intro u hu
  obtain ⟨j, hj⟩ := List.mem_iff_getElem?.1 hu
  obtain ⟨i, hi', hu'⟩ := pairs_at xs j u hj
  rcases hu' with ⟨_, hu'⟩ | ⟨_, hu'⟩ <;> (rw [List.getElem?_eq_getElem hi'] at hu'; simp at hu'; subst hu'; rfl)
theorem news_drop {w : World} {base T n cap g : Nat} {xs : List (Int × Int)} (h : w.ownsRow base T 2 (.slice (some ⟨g, 0, none⟩) n cap) n (pairs xs)) (m : Nat) :
    ∀ j u, (pairs (xs.drop m))[j]? = some u → w.cell? ((⟨g, m * 2, none⟩ : Addr).add j) = some u := by
  intro j u hj
  rw [pairs_drop, List.getElem?_drop] at hj
  rw [Go.WideShapes.add_plain]
  have hlt : m * 2 + j < (pairs xs).length := (List.getElem?_eq_some_iff.1 hj).1
  rw [h.cellAt (m * 2 + j) (by rw [← h.1]; exact hlt)]; exact hj
theorem news_take {w : World} {base T n cap g : Nat} {xs : List (Int × Int)} (h : w.ownsRow base T 2 (.slice (some ⟨g, 0, none⟩) n cap) n (pairs xs)) (m : Nat) :
    ∀ j u, (pairs (xs.take m))[j]? = some u → w.cell? ((⟨g, 0, none⟩ : Addr).add j) = some u := by
  intro j u hj
  rw [pairs_take, List.getElem?_take] at hj
  rw [Go.WideShapes.add_plain, Nat.zero_add]
  split at hj
  · have hlt : j < (pairs xs).length := (List.getElem?_eq_some_iff.1 hj).1
    rw [h.cellAt j (by rw [← h.1]; exact hlt)]; exact hj
  · cases hj
set_option maxRecDepth 100000 in
theorem iJo_any (A : Option Addr) (c : Nat) (ps : List (Int × Int)) (w : World) (h : Row w w.heap.size A (pairs ps)) (hn : ps.length ≤ 8) :
    Calls Try.prog 49 #[.slice A ps.length c] w (PairsPost (joinR ps) w) := by
  rw [← join_eq]
  obtain ⟨i0, hi, hz0, hz1, hz2⟩ := info_parts infoPair
  have hmf : ∀ (fn : Fn) (first cap : Array Value) (w : World), (Instr.makeFunc fn first cap).run Try.prog w = .ok (.func fn first cap) w := fun _ _ _ _ => rfl
  cases A with
  | none =>
    obtain rfl := nil_row h
    have h0 : w.ownsRow w.heap.size 44 2 (.slice none 0 0) 0 (pairs []) := World.ownsRow_nil _ _ _ _
    have hst := stable_any h0 (by omega)
    have HST := Lib.hid hst
    clear hst h0 h
    go_enter Try.func49, Try.ntmps49
    go_wp2_with fail
    refine HST.out.mono ?_
    rintro e W1 ⟨rfl, ho, hg⟩
    have hb : Below w.heap.size w W1 := (Below.refl _ _).grown hg (Nat.le_refl _) (fun k hk => by cases hk)
    have HB := Lib.hid hb
    clear ho hg hb
    go_wp2_with fail
    refine wp_loop_rounds 1 ?_
    rw [rounds_succ]
    go_wp2_with fail
    go_ret
    exact ⟨none, 0, rfl, World.ownsRow_nil _ _ _ _, HB.out⟩
  | some ad =>
    have hnews : ∀ j u, (pairs ps)[j]? = some u → w.cell? (ad.add j) = some u := by
      intro j u hj
      obtain ⟨b, o, e, _, hc⟩ := h j u hj
      injection e with e
      subst e
      rw [Go.WideShapes.add_plain]; exact hc
    have hones : ∀ u ∈ pairs ps, u.oneCell' = true := by
      intro u hu
      obtain ⟨j, hj⟩ := List.mem_iff_getElem?.1 hu
      obtain ⟨i, hi', hu'⟩ := pairs_at ps j u hj
      rcases hu' with ⟨_, hu'⟩ | ⟨_, hu'⟩ <;> (rw [List.getElem?_eq_getElem hi'] at hu'; simp at hu'; subst hu'; rfl)
    have hnil : w.ownsRow w.heap.size 44 2 (.slice none 0 0) 0 [] := World.ownsRow_nil _ _ _ _
    have hpl := pairs_len ps
    have HN := Lib.hid hnews
    have HO := Lib.hid hones
    have HP := Lib.hid hpl
    clear hnews hones hpl h
    go_enter Try.func49, Try.ntmps49
    go_wp2_with (first | (at_builtin; refine wpList_append_own _ rfl _ _ 25 rfl w.heap.size 44 i0 (.agg #[.int .i64 0, .int .i64 0]) 2 16 Try.underlying25 hi hz0 hz1 hz2 rfl (by decide) _ 0 [] rfl hnil ad ps.length c (pairs ps) rfl HP.out HN.out HO.out (by unfold maxLen; omega) (by omega) (Nat.le_refl _) ?_))
    intro v w1 hown hgrow _
    obtain ⟨As, cs, rfl⟩ := own_form2 hown
    have hb1 : Below w.heap.size w w1 := (Below.refl _ _).grown hgrow (Nat.le_refl _) (fun k hk => by cases hk)
    have hst := stable_any hown hn
    have HST := Lib.hid hst
    have hlt1 := Lib.hid (hown.lt)
    clear hgrow hnil HN HO HP hst hown
    go_wp2_with fail
    refine HST.out.mono ?_
    rintro e W1 ⟨rfl, ho, hg⟩
    have hb2 : Below w.heap.size w W1 := hb1.trans (grown_below hg hb1.size (fun k hk => (hlt1.out k hk).1))
    have hr := Row.of_own2 ho
    have hol := own_block2 ho
    have hfin : ∀ o, JInv (sortC ps) ps.length o → o = joinI ps := fun o h => h.last (Nat.le_of_eq (sort_len ps))
    have hsl := sort_len ps
    generalize sortC ps = S at *
    have HF := Lib.hid hfin
    have HSL := Lib.hid hsl
    have HOL := Lib.hid hol
    have HB2 := Lib.hid hb2
    have hBz : w.heap.size ≤ W1.heap.size := hb2.size
    clear hb1 hg ho hlt1 hfin hsl hol hb2 HST
    go_wp2_with fail
    go_loopw [4, 18] (fun ov iv wr => ∃ (k : Nat) (o : List (Int × Int)), k ≤ ps.length ∧ iv = .int .i64 k ∧ Hid (JInv S k o) ∧ o.length ≤ k ∧ wr.ownsRow w.heap.size 44 2 ov o.length (pairs o) ∧ Below w.heap.size w wr ∧ Row wr W1.heap.size As (pairs S) ∧ W1.heap.size ≤ wr.heap.size ∧ (∀ a, As = some a → ov.ownBlock ≠ some a.block)) (fun _ iv _ => ps.length - (intOf iv).toNat)
    case atStart => exact ⟨0, [], Nat.zero_le _, rfl, Lib.hid (.inl ⟨rfl, rfl⟩), Nat.le_refl _, World.ownsRow_nil _ _ _ _, HB2.out, hr, Nat.le_refl _, fun a _ => by simp [Value.ownBlock]⟩
    case round =>
      obtain ⟨k, o, hk, rfl, hj, hol, hown, hbw, hro, hsz, hne⟩ := hrel
      by_cases hkn : k < ps.length
      · have hkl : k < S.length := by rw [HSL.out]; exact hkn
        obtain ⟨g, q, rfl, hgz, c0, c1⟩ := hro.pair hkl
        have hJ1 := fun h0 : k = 0 => (by subst h0; exact JInv.first hkl : JInv S (k + 1) [S[k]'hkl])
        have hJ2 := fun pre x (h : mgC S = pre ++ runC x (S.drop k)) => JInv.grow h hkl
        have hJ3 := fun pre x (h : mgC S = pre ++ runC x (S.drop k)) => JInv.meet h hkl
        generalize (S[k]'hkl) = y at c0 c1 hJ1 hJ2 hJ3
        obtain ⟨y1, y2⟩ := y
        simp only at c0 c1
        have hk' : (k : Int) < (ps.length : Int) := by omega
        have hk0 : (0 : Int) ≤ (k : Int) := by omega
        have hec := fun W => ends_below y1 y2 W
        generalize loC (y1, y2) = ly at *
        generalize hiC (y1, y2) = hy at *
        have HE := Lib.hid hec
        have HJ := Lib.hid (And.intro hj.out (And.intro hJ1 (And.intro hJ2 hJ3)))
        have hne' := hne _ rfl
        simp only at hne'
        have HW := Lib.hid (And.intro hown (And.intro hbw hro))
        have hgz2 : g < wr.heap.size := by omega
        have hBw : w.heap.size ≤ wr.heap.size := by omega
        clear hec hj hJ1 hJ2 hJ3 hown hbw hro hne
        go_wp2_with fail
        refine (HE.out _).mono ?_
        rintro e W2 ⟨rfl, hb2⟩
        have hb3 : Below wr.heap.size wr W2 := ((Below.refl _ _).alloc (Nat.le_refl _) _).trans (hb2.mono (by simp))
        have hv0 : W2.cell? ⟨wr.heap.size, 0, none⟩ = some (.int .i64 y1) := (hb2.cell (p := ⟨wr.heap.size, 0, none⟩) (by simp)).trans (cell_of_row _ _ 0 _ _ (0, 0) (heap_alloc_new wr _))
        have hv1 : W2.cell? ⟨wr.heap.size, 1, none⟩ = some (.int .i64 y2) := (hb2.cell (p := ⟨wr.heap.size, 1, none⟩) (by simp)).trans (cell_of_row _ _ 1 _ _ (0, 0) (heap_alloc_new wr _))
        have hzW2 : wr.heap.size < W2.heap.size := by have := hb2.size; simp at this; omega
        have hown2 := own_below HW.out.1 hb3
        have HW2 := Lib.hid (And.intro (HW.out.2.1.trans (hb3.mono hBw)) (HW.out.2.2.below (hb3.mono hsz)))
        clear hb2 hb3 c0 c1
        rcases HJ.out.1 with ⟨h0, ho⟩ | ⟨pre, x, ho, hkp, hm⟩
        · subst ho
          have HK0 := Lib.hid h0
          clear h0
          obtain ⟨Ao, co, rfl⟩ := own_form2 hown2
          go_wp2_with (first | (at_builtin; refine wpList_append_lies _ rfl _ _ 25 rfl w.heap.size 44 i0 (.agg #[.int .i64 0, .int .i64 0]) 2 16 Try.underlying25 hi hz0 hz1 hz2 rfl (by decide) _ 0 [] rfl (hown2.alloc _) ⟨W2.heap.size, 0, none⟩ 1 1 [.int .i64 y1, .int .i64 y2] rfl rfl (news2 _ _ _ _) (ones2 _ _) (by omega) (by unfold maxLen; omega) (by omega) (by simp; omega) (W2.heap.size + 1) (by simp) ?_))
          intro gg cap w3 hown3 hgrow hat hlt
          have hb3 : Below w.heap.size w w3 := (HW2.out.1.alloc (by omega) _).grown hgrow (by simp; omega) (fun q hq => (hown2.lt q hq).1)
          have hr3 : Row w3 W1.heap.size _ (pairs S) := (HW2.out.2.below ((Below.refl W1.heap.size W2).alloc (by omega) _)).grown1 hgrow (by simp; omega) (fun a ha => by cases ha; exact hne')
          have hzW3 : W1.heap.size ≤ w3.heap.size := by have := hgrow.size; simp at this; omega
          have hn3 : ∀ a : Addr, some (⟨g, q, none⟩ : Addr) = some a → (Value.slice (some ⟨gg, 0, none⟩) (0 + 1) cap).ownBlock ≠ some a.block := by
            intro a ha
            injection ha with ha
            subst ha
            intro h
            have h : some gg = some g := h
            injection h with h
            rcases hat with h2 | h2
            · exact hne' (h2.trans (congrArg some h))
            · omega
          have HZ := Lib.hid (And.intro (HJ.out.2.1 HK0.out) (And.intro hown3 (And.intro hb3 (And.intro hr3 (And.intro hzW3 hn3)))))
          clear hown3 hb3 hr3 hn3 hgrow hat hown2
          go_wp2_with fail
          go_roundw
          case rel => exact ⟨k + 1, [(y1, y2)], by omega, by go_num, Lib.hid HZ.out.1, by simp, HZ.out.2.1, HZ.out.2.2.1, HZ.out.2.2.2.1, HZ.out.2.2.2.2.1, HZ.out.2.2.2.2.2⟩
          case measure => (simp [intOf] <;> omega)
        · subst ho
          obtain ⟨x1, x2⟩ := x
          have hG := HJ.out.2.2.1 pre _ hm
          have hM := HJ.out.2.2.2 pre _ hm
          have elen : (pre ++ [(x1, x2)]).length = pre.length + 1 := by simp
          rw [elen] at hown2 hol
          obtain ⟨go, co, rfl, hgo, hgol⟩ := hown2.form (by omega)
          obtain ⟨g1, g2⟩ := pairs_get (pre ++ [(x1, x2)]) pre.length (by rw [elen]; omega)
          have ex : (pre ++ [(x1, x2)])[pre.length]'(by rw [elen]; omega) = (x1, x2) := by simp
          rw [ex] at g1 g2
          have p0 : W2.cell? ⟨go, pre.length * 2, none⟩ = some (.int .i64 x1) := (hown2.cellAt (pre.length * 2) (by omega)).trans g1
          have p1 : W2.cell? ⟨go, pre.length * 2 + 1, none⟩ = some (.int .i64 x2) := (hown2.cellAt (pre.length * 2 + 1) (by omega)).trans g2
          have hx := fun W => ends_below x1 x2 W
          generalize hlx : loC (x1, x2) = lx at *
          generalize hhx : hiC (x1, x2) = hx' at *
          have HX := Lib.hid hx
          have HGM := Lib.hid (And.intro hG hM)
          have hm0 : (0 : Int) ≤ (pre.length : Int) := by omega
          have hm1 : (pre.length : Int) < ((pre.length : Int) + 1) := by omega
          clear hx hG hM g1 g2 ex hlx hhx hm
          go_wp2_with fail
          refine (HX.out _).mono ?_
          rintro e W3 ⟨rfl, hb4⟩
          have hown3 := own_below hown2 hb4
          have q0 := (hb4.cell (p := ⟨go, pre.length * 2, none⟩) hgol).trans p0
          have q1 := (hb4.cell (p := ⟨go, pre.length * 2 + 1, none⟩) hgol).trans p1
          have hu0 := (hb4.cell (p := ⟨wr.heap.size, 0, none⟩) hzW2).trans hv0
          have hu1 := (hb4.cell (p := ⟨wr.heap.size, 1, none⟩) hzW2).trans hv1
          have hzW3 : wr.heap.size < W3.heap.size := by have := hb4.size; omega
          have hHW3 := And.intro (HW2.out.1.trans (hb4.mono (by omega))) (HW2.out.2.below (hb4.mono (by omega)))
          have HW3 := Lib.hid hHW3
          clear hHW3 hb4 hown2 p0 p1 hv0 hv1 hzW2
          by_cases hmt : ly ≤ hx'
          · have hst : ∀ v : Int, _ := fun v => two_stores hown3 (k := pre.length) (by rw [elen]; omega) lx v
            have hset : ∀ v : Int, (pre ++ [(x1, x2)]).set pre.length (lx, v) = pre ++ [(lx, v)] := fun v => by
              rw [List.set_append_right _ _ (Nat.le_refl _), Nat.sub_self]; rfl
            have hf0 := hown3.frozenAt (pre.length * 2)
            have hf1 := hown3.frozenAt (pre.length * 2 + 1)
            have hne3 : go ≠ g := fun e => hne' (congrArg some e)
            have HST : Hid (∀ v : Int, v = max hx' hy → ∃ (k' : Nat) (o' : List (Int × Int)), k' ≤ ps.length ∧ Value.int .i64 ((k : Int) + 1) = .int .i64 k' ∧ Hid (JInv S k' o') ∧ o'.length ≤ k' ∧ ((W3.setCell ⟨go, pre.length * 2, none⟩ (.int .i64 lx)).setCell ⟨go, pre.length * 2 + 1, none⟩ (.int .i64 v)).ownsRow w.heap.size 44 2 (.slice (some ⟨go, 0, none⟩) (pre.length + 1) co) o'.length (pairs o') ∧ Below w.heap.size w ((W3.setCell ⟨go, pre.length * 2, none⟩ (.int .i64 lx)).setCell ⟨go, pre.length * 2 + 1, none⟩ (.int .i64 v)) ∧ Row ((W3.setCell ⟨go, pre.length * 2, none⟩ (.int .i64 lx)).setCell ⟨go, pre.length * 2 + 1, none⟩ (.int .i64 v)) W1.heap.size (some ⟨g, q, none⟩) (pairs S) ∧ W1.heap.size ≤ ((W3.setCell ⟨go, pre.length * 2, none⟩ (.int .i64 lx)).setCell ⟨go, pre.length * 2 + 1, none⟩ (.int .i64 v)).heap.size ∧ (∀ a : Addr, some (⟨g, q, none⟩ : Addr) = some a → (Value.slice (some ⟨go, 0, none⟩) (pre.length + 1) co).ownBlock ≠ some a.block)) := Lib.hid (by
              rintro v rfl
              have h1 := hst (max hx' hy)
              rw [hset] at h1
              have el : (pre ++ [(lx, max hx' hy)]).length = pre.length + 1 := by simp
              refine ⟨k + 1, pre ++ [(lx, max hx' hy)], by omega, by go_num, Lib.hid (HGM.out.2 hmt), by rw [el]; omega, by rw [el]; exact h1, (HW3.out.1.setCell (p := ⟨go, pre.length * 2, none⟩) hgo _).setCell (p := ⟨go, pre.length * 2 + 1, none⟩) hgo _, ?_, by simp [World.setCell]; omega, fun a ha => by cases ha; exact hne'⟩
              intro j u hj
              obtain ⟨b, o, e, hb, hc⟩ := HW3.out.2 j u hj
              injection e with e
              injection e with e1 e2
              subst e1 e2
              exact ⟨g, q, rfl, hb, by rw [World.cell?_setCell_far _ _ _ _ hne3, World.cell?_setCell_far _ _ _ _ hne3]; exact hc⟩)
            clear hst hset hown3
            go_wp2_with fail
            all_goals
              go_roundw
              case rel => exact HST.out _ (by omega)
              case measure => (simp [intOf] <;> omega)
          · have hmt' : decide (ly ≤ hx') = false := decide_eq_false hmt
            have hjn := HGM.out.1 (by omega)
            have ep := pairs_snoc (pre ++ [(x1, x2)]) y1 y2
            have HJN := Lib.hid (And.intro hjn ep)
            clear hjn ep
            go_wp2_with (first | (at_builtin; refine wpList_append_lies _ rfl _ _ 25 rfl w.heap.size 44 i0 (.agg #[.int .i64 0, .int .i64 0]) 2 16 Try.underlying25 hi hz0 hz1 hz2 rfl (by decide) _ (pre.length + 1) _ rfl (hown3.alloc _) ⟨W3.heap.size, 0, none⟩ 1 1 [.int .i64 y1, .int .i64 y2] rfl rfl (news2 _ _ _ _) (ones2 _ _) (by omega) (by unfold maxLen; omega) (by omega) (by simp; omega) (W3.heap.size + 1) (by simp) ?_))
            intro gg cap w3 hown4 hgrow hat hlt
            have hb3 : Below w.heap.size w w3 := (HW3.out.1.alloc (by omega) _).grown hgrow (by simp; omega) (fun q hq => (hown3.lt q hq).1)
            have hr3 : Row w3 W1.heap.size _ (pairs S) := (HW3.out.2.below ((Below.refl W1.heap.size W3).alloc (by omega) _)).grown1 hgrow (by simp; omega) (fun a ha => by cases ha; exact hne')
            have hzz3 : W1.heap.size ≤ w3.heap.size := by have := hgrow.size; simp at this; omega
            have hn3 : ∀ a : Addr, some (⟨g, q, none⟩ : Addr) = some a → (Value.slice (some ⟨gg, 0, none⟩) (pre.length + 1 + 1) cap).ownBlock ≠ some a.block := by
              intro a ha
              injection ha with ha
              subst ha
              intro h
              have h : some gg = some g := h
              injection h with h
              rcases hat with h2 | h2
              · exact hne' (h2.trans (congrArg some h))
              · omega
            have el : (pre ++ [(x1, x2)] ++ [(y1, y2)]).length = pre.length + 1 + 1 := by simp
            rw [← HJN.out.2] at hown4
            have HZ := Lib.hid (And.intro hown4 (And.intro hb3 (And.intro hr3 (And.intro hzz3 hn3))))
            clear hown4 hb3 hr3 hn3 hgrow hat hown3
            go_wp2_with fail
            go_roundw
            case rel => exact ⟨k + 1, pre ++ [(x1, x2)] ++ [(y1, y2)], by omega, by go_num, Lib.hid HJN.out.1, by rw [el]; omega, by rw [el]; exact HZ.out.1, HZ.out.2.1, HZ.out.2.2.1, HZ.out.2.2.2.1, HZ.out.2.2.2.2⟩
            case measure => (simp [intOf] <;> omega)
      · obtain rfl : k = ps.length := by omega
        have he := HF.out o hj.out
        subst he
        obtain ⟨Ao, co, rfl⟩ := own_form2 hown
        have HZ := Lib.hid (And.intro hown hbw)
        clear hown hbw hro hne hj
        go_wp2_with fail
        go_ret
        exact ⟨Ao, co, rfl, HZ.out⟩
end Go.Proofs.Ytmdjmaijennmkaa
