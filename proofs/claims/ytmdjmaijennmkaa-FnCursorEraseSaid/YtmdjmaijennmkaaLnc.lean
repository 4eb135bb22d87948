/- The law that what was typed at places is erased again: plain laws, and the walk. -/
import Derived.Test.YtmdjmaijennmkaaDt
set_option linter.unusedVariables false
set_option linter.unusedSimpArgs false
namespace Go.Proofs.Ytmdjmaijennmkaa
open Go.RowKit
def zB : ByteArray := ⟨#[122]⟩
theorem round_trip (sl : List UInt8) (x : UInt8) : ∀ (E : List (Int × Int)) (a : Nat) (pre : List UInt8), fits sl.length E a → (∀ c ∈ E, c.1 = c.2) →
    tyFrom (pre ++ tyFrom sl [x] E a) [] ((cuFrom 1 E a pre.length).map wideC) pre.length = sl.drop a ∧ cuFrom 0 ((cuFrom 1 E a pre.length).map wideC) pre.length a = E := by
  intro E
  induction E with
  | nil => intro a pre _ _; simp [tyFrom, cuFrom]
  | cons c E ih =>
    intro a pre h hd
    obtain ⟨h1, h2, h3, h4⟩ := h
    have hc := hd c (by simp)
    obtain ⟨c1, c2⟩ := c
    simp only at h1 h2 h3 h4 hc
    subst hc
    obtain ⟨p, rfl⟩ := Int.eq_ofNat_of_zero_le (show 0 ≤ c1 by omega)
    have hap : a ≤ p := by omega
    have hps : p ≤ sl.length := by omega
    have e0 : (p : Int).toNat = p := rfl
    rw [e0] at h4
    obtain ⟨i1, i2⟩ := ih p (pre ++ ((sl.drop a).take (p - a) ++ [x])) h4 (fun c hc => hd c (by simp [hc]))
    have hlen : (pre ++ ((sl.drop a).take (p - a) ++ [x])).length = pre.length + (p - a) + 1 := by
      simp only [List.length_append, List.length_take, List.length_drop, List.length_cons, List.length_nil]; omega
    rw [hlen] at i1 i2
    have hw : wideC (((pre.length + (p - a) + 1 : Nat) : Int), ((pre.length + (p - a) + 1 : Nat) : Int)) = (((pre.length + (p - a) : Nat) : Int), ((pre.length + (p - a) + 1 : Nat) : Int)) := by
      unfold wideC loC hiC
      simp only
      rw [if_pos (by omega)]
      exact Prod.ext (by simp only; omega) (by simp only; omega)
    have e1 : ((pre.length + (p - a) : Nat) : Int).toNat = pre.length + (p - a) := rfl
    have e2 : ((pre.length + (p - a) + 1 : Nat) : Int).toNat = pre.length + (p - a) + 1 := rfl
    have hout : pre ++ tyFrom sl [x] ((((p : Nat) : Int), ((p : Nat) : Int)) :: E) a = (pre ++ ((sl.drop a).take (p - a) ++ [x])) ++ tyFrom sl [x] E p := by
      simp only [tyFrom, e0, List.append_assoc]
    have hcu : (cuFrom 1 ((((p : Nat) : Int), ((p : Nat) : Int)) :: E) a pre.length).map wideC = (((pre.length + (p - a) : Nat) : Int), ((pre.length + (p - a) + 1 : Nat) : Int)) :: (cuFrom 1 E p (pre.length + (p - a) + 1)).map wideC := by
      simp only [cuFrom, e0, List.map_cons, hw]
    rw [hcu, hout]
    constructor
    · simp only [tyFrom, e1, e2, i1]
      have hpl : pre.length + (p - a) - pre.length = p - a := by omega
      rw [hpl]
      have e4 : (((pre ++ ((sl.drop a).take (p - a) ++ [x])) ++ tyFrom sl [x] E p).drop pre.length).take (p - a) = (sl.drop a).take (p - a) := by
        simp only [List.append_assoc]
        rw [List.drop_left, List.take_append_of_le_length (by rw [List.length_take, List.length_drop]; omega), List.take_of_length_le (by rw [List.length_take]; omega)]
      have e5 : sl.drop p = (sl.drop a).drop (p - a) := by rw [List.drop_drop]; congr 1; omega
      rw [e4, List.append_nil, e5, List.take_append_drop]
    · simp only [cuFrom, e1, e2, Nat.add_zero]
      have hpl : a + (pre.length + (p - a) - pre.length) = p := by omega
      rw [hpl, i2]
theorem typed_back {s : ByteArray} {l : List (Int × Int)} (h : tyOk s zB l = true) (hd : ∀ c ∈ l, c.1 = c.2) : erS (tyS s zB l) (tyC s zB l) = s ∧ erC (tyS s zB l) (tyC s zB l) = l := by
  unfold tyOk at h
  rw [Bool.and_eq_true] at h
  obtain ⟨hv, hval⟩ := h
  have hf := cu_fits hv
  have hap := (cuV_iff.1 hv).1
  have hpl := (cuV_iff.1 hv).2
  have h8 := (plV_iff.1 hpl).2.2
  have hs : s.size = s.data.toList.length := by simp
  have hm : l.map endsC = l := by
    have : l.map endsC = l.map id := List.map_congr_left fun c hc => by
      have h1 := hd c hc
      obtain ⟨c1, c2⟩ := c
      simp only at h1
      subst h1
      unfold endsC loC hiC
      exact Prod.ext (by simp only [id]; omega) (by simp only [id]; omega)
    rw [this, List.map_id]
  rw [hm] at hf
  have e1 : tyS s zB l = tyX s zB l := by unfold tyS; rw [if_pos hv, if_pos hval]
  have e2 : tyC s zB l = cuFrom 1 l 0 0 := by
    unfold tyC
    rw [if_pos hv, if_pos hval, hm]
    exact joinR_id (cuFrom_apart (by decide) l 0 0)
  have hx : (tyX s zB l).data.toList = tyFrom s.data.toList zB.data.toList l 0 := by unfold tyX; rw [hm]
  have hcp : plV (tyX s zB l) (cuFrom 1 l 0 0) = true := cu_pl (wth := zB) hf h8 hx hval
  have hcv : cuV (tyX s zB l) (cuFrom 1 l 0 0) = true := cuV_iff.2 ⟨cuFrom_apart (by decide) l 0 0, hcp⟩
  rw [hs] at hf
  obtain ⟨r1, r2⟩ := round_trip s.data.toList 122 l 0 [] hf hd
  rw [e1, e2]
  constructor
  · unfold erS erX
    rw [if_pos hcv, hx]
    have e3 : tyFrom (tyFrom s.data.toList zB.data.toList l 0) [] ((cuFrom 1 l 0 0).map wideC) 0 = s.data.toList := r1
    rw [e3]
  · unfold erC
    rw [if_pos hcv]
    have e3 : cuFrom 0 ((cuFrom 1 l 0 0).map wideC) 0 0 = l := r2
    rw [e3, joinR_id hap]
theorem c_small2 {s : ByteArray} {l : List (Int × Int)} (h : cuV s l = true) : l.length ≤ 8 := (plV_iff.1 (cuV_iff.1 h).2).2.2
theorem tyC_small2 (s put : ByteArray) (l : List (Int × Int)) : (tyC s put l).length ≤ 8 := by
  unfold tyC
  split
  · rename_i h
    split
    · exact Nat.le_trans (joinR_len _) (by rw [cuFrom_len]; simpa using c_small2 h)
    · exact c_small2 h
  · simp
set_option maxHeartbeats 2000000 in
set_option maxRecDepth 100000 in
theorem law_FnCursorErase (A : Option Addr) (n c : Nat) (zs : List Int) (w : World) (h : IsBytes w A n c zs) :
    Calls Try.prog 11 #[.slice A n c] w fun e w' => e = .returned (.bool true) ∧ Below w.heap.size w w' := by
  have hn0 : n ≤ maxLen := by obtain ⟨_, h1, h2, _⟩ := h; omega
  unfold maxLen at hn0
  by_cases hn : n ≤ 1048576
  rotate_left
  · go_enter Try.func11, Try.ntmps11
    go_wp2
    go_ret
    exact ⟨rfl, Below.refl _ _⟩
  have HD := Lib.hid (dDrawTypeAll A n c zs w h)
  clear h
  go_enter Try.func11, Try.ntmps11
  go_wp2_with fail
  refine HD.out.mono ?_
  rintro e W1 ⟨s, A1, c1, ys, put, rfl, hs, hput, hl, hr1, hb1⟩
  have hsm : s.size ≤ maxLen := by unfold maxLen; omega
  have hc1 := fun A c W h => iTA_any s put A c ys W hsm (by omega) h (by omega)
  have hc2 := fun A c W h => sTA_any s put A _ c ys W hsm (by omega) h rfl (by omega)
  have hc3 := fun A c W h => iTA_any s zB A c ys W hsm (by decide) h (by omega)
  have hxm : tyOk s zB ys = true → (tyS s zB ys).size ≤ maxLen := fun ho => by
    have ho' := ho
    unfold tyOk at ho'
    rw [Bool.and_eq_true] at ho'
    have := ty_size (put := zB) ho'.1 (by decide)
    unfold tyS; rw [if_pos ho'.1, if_pos ho'.2]; exact this
  have hback := fun h1 h2 => typed_back (s := s) (l := ys) h1 h2
  have hzl := tyC_small2 s zB ys
  have hc4 := fun (hm : (tyS s zB ys).size ≤ maxLen) A c W h => iEA_any (tyS s zB ys) A c (tyC s zB ys) W hm h (by omega)
  generalize tyS s put ys = x at *
  generalize tyC s put ys = xs at *
  generalize tyOk s put ys = xb at *
  generalize tyS s zB ys = tx at *
  generalize tyC s zB ys = txs at *
  generalize tyOk s zB ys = tb at *
  generalize erS tx txs = bx at *
  generalize erC tx txs = bxs at *
  have H1 := Lib.hid hc1
  have H2 := Lib.hid hc2
  have H3 := Lib.hid hc3
  have H4 := Lib.hid hc4
  have HM := Lib.hid hxm
  have HB := Lib.hid hback
  clear hc1 hc2 hc3 hc4 hxm hback
  go_wp2_with fail
  refine (H1.out _ _ _ hr1).mono ?_
  rintro e W2 ⟨A2, c2, rfl, ho2, hb2⟩
  have hr12 := row_on hr1 hb2
  have hbw2 := below_on hb1 hb2
  clear ho2 hr1 hb1 hb2
  go_wp2_with fail
  refine (H2.out _ _ _ hr12).mono ?_
  rintro e W3 ⟨A3, c3, rfl, ho3, hb3⟩
  have hr13 := row_on hr12 hb3
  have hbw3 := below_on hbw2 hb3
  clear ho3 hr12 hbw2 hb3 H1 H2
  go_wp2_with fail
  go_loopw [12] (fun iv wr => ∃ k : Nat, k ≤ ys.length ∧ iv = .int .i64 k ∧ (∀ j (hj : j < ys.length), j < k → ys[j].1 = ys[j].2) ∧ ∃ q, wr = W3.drewN q) (fun iv _ => ys.length - (intOf iv).toNat)
  case atStart => exact ⟨0, Nat.zero_le _, rfl, fun j hj h => by omega, 0, rfl⟩
  case round =>
    obtain ⟨k, hk, rfl, hall, q, rfl⟩ := hrel
    have HA := Lib.hid hall
    clear hall
    by_cases hkx : k < ys.length
    · obtain ⟨g, z, rfl, hgz, cw0, cw1⟩ := hr13.pair hkx
      have hk' : (k : Int) < (ys.length : Int) := by omega
      have hk0 : (0 : Int) ≤ (k : Int) := by omega
      have hnew : Hid (ys[k].1 = ys[k].2 → (∀ j (hj : j < ys.length), j < k + 1 → ys[j].1 = ys[j].2)) := Lib.hid (by
        intro ht j hj hjk
        rcases Nat.lt_or_ge j k with h | h
        · exact HA.out j hj h
        · obtain rfl : j = k := by omega
          exact ht)
      generalize (ys[k]'hkx).1 = a1 at *
      generalize (ys[k]'hkx).2 = a2 at *
      by_cases hxy : a1 = a2
      · subst hxy
        have HN := Lib.hid (hnew.out rfl)
        clear hnew
        go_wp2_with fail
        go_quiet (fail)
        go_wp2_with fail
        go_roundw
        case rel => exact ⟨k + 1, by omega, by go_num, HN.out, _, rfl⟩
        case measure => (simp [intOf] <;> omega)
      · have e1 : (a1 == a2) = false := by simp [hxy]
        clear hxy hnew
        go_wp2_with fail
        go_quiet (fail)
        go_wp2_with fail
        refine (alive_any _).mono ?_
        rintro e w' ⟨rfl, rfl⟩
        go_wp2_with fail
        go_ret
        exact ⟨rfl, by first | exact below_drewN hbw3 _ | exact below_drewN (below_drewN hbw3 _) _⟩
    · obtain rfl : k = ys.length := by omega
      have hdd : ∀ y ∈ ys, y.1 = y.2 := fun y hy => by
        obtain ⟨j, hj, rfl⟩ := List.getElem_of_mem hy
        exact HA.out j hj hj
      have HDD := Lib.hid hdd
      have hb6 := drewN_on W3 q
      generalize W3.drewN q = W6 at *
      have hr16 := row_on hr13 hb6
      have hbw6 := below_on hbw3 hb6
      clear hr13 hbw3 hb6 HA hdd
      have h3 := H3.out _ c1 _ hr16
      rw [show zB = (⟨#[122]⟩ : ByteArray) from rfl] at h3
      have H5 := Lib.hid h3
      clear h3
      go_wp2_with fail
      refine H5.out.mono ?_
      rintro e W7 ⟨A7, c7, rfl, ho7, hb7⟩
      have hr17 := row_on hr16 hb7
      have hr7 := Row.of_own2 ho7
      have hbw7 := below_on hbw6 hb7
      clear hr16 hbw6 hb7 ho7 H3 H5
      cases tb
      · go_wp2_with fail
        refine (alive_any _).mono ?_
        rintro e w' ⟨rfl, rfl⟩
        go_wp2_with fail
        go_ret
        exact ⟨rfl, hbw7⟩
      · obtain ⟨b1, b2⟩ := HB.out rfl HDD.out
        subst b1 b2
        go_wp2_with fail
        refine (H4.out (HM.out (by trivial)) _ _ _ hr7).mono ?_
        rintro e W8 ⟨A8, c8, rfl, ho8, hb8⟩
        have hr18 := row_on hr17 hb8
        have hr8 := Row.of_own2 ho8
        have hbw8 := below_on hbw7 hb8
        clear hr17 hbw7 hb8 ho8
        go_wp2_with fail
        refine (sameCursors_same A8 A1 _ _ c8 c1 _ W8 hr8 hr18 rfl rfl (by omega)).mono ?_
        rintro e w' ⟨rfl, q4, rfl⟩
        have hfin := below_drewN hbw8 q4
        go_wp2_with fail
        all_goals (go_ret; exact ⟨by first | rfl | simp, hfin⟩)
end Go.Proofs.Ytmdjmaijennmkaa
