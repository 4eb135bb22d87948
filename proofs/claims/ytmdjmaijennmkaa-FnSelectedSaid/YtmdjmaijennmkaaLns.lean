/- The law on Selected, walked. -/
import Derived.Test.YtmdjmaijennmkaaDs
import Derived.Test.YtmdjmaijennmkaaSf
import Derived.Test.YtmdjmaijennmkaaSi
set_option linter.unusedVariables false
set_option linter.unusedSimpArgs false
namespace Go.Proofs.Ytmdjmaijennmkaa
open Go.RowKit Go.Sort
def swp (c : Int × Int) : Int × Int := (c.2, c.1)
theorem lo_swp (c : Int × Int) : loC (swp c) = loC c := by unfold loC swp; exact Int.min_comm ..
theorem hi_swp (c : Int × Int) : hiC (swp c) = hiC c := by unfold hiC swp; exact Int.max_comm ..
theorem apC_swp : ∀ l : List (Int × Int), apC (l.map swp) = apC l
  | [] => rfl
  | [x] => rfl
  | x :: y :: l => by
    have ih := apC_swp (y :: l)
    simp only [List.map_cons] at ih ⊢
    rw [apC_two, apC_two, ih, lo_swp, hi_swp]
theorem allIn_swp (n : Nat) : ∀ l : List (Int × Int), allIn n (l.map swp) = allIn n l
  | [] => rfl
  | x :: l => by
    simp only [List.map_cons, allIn, allIn_swp n l, inC, lo_swp, hi_swp]
/-- With both places exchanged the same is selected. -/
theorem se_turn (s : ByteArray) (l : List (Int × Int)) : seL s (l.map swp) = seL s l := by
  have h : cuV s (l.map swp) = cuV s l := by unfold cuV plV; rw [apC_swp, allIn_swp, List.length_map]
  unfold seL
  rw [h, List.map_map]
  have : cutC s ∘ swp = cutC s := by funext c; simp [cutC, lo_swp, hi_swp]
  rw [this]
theorem take_swp {l : List (Int × Int)} {k : Nat} (hk : k < l.length) {a b : Int} (ha : l[k].1 = a) (hb : l[k].2 = b) : pairs ((l.take k).map swp) ++ [.int .i64 b, .int .i64 a] = pairs ((l.take (k + 1)).map swp) := by
  rw [List.take_succ_eq_append_getElem hk, List.map_append, List.map_singleton]
  subst ha hb
  show _ = pairs (_ ++ [(l[k].2, l[k].1)])
  rw [pairs_snoc]
theorem sel_at {s : ByteArray} {l : List (Int × Int)} (h : cuV s l = true) : (seL s l).length = l.length ∧ ∀ k (hk : k < l.length) (hk2 : k < (seL s l).length), ∃ a b : Nat, loC l[k] = (a : Int) ∧ hiC l[k] = (b : Int) ∧ a ≤ b ∧ b ≤ s.size ∧ (((seL s l)[k]).size : Int) = (b : Int) - (a : Int) := by
  have hl := se_len h
  refine ⟨hl, fun k hk hk2 => ?_⟩
  obtain ⟨a, b, h1, h2, h3, h4, h5⟩ := se_at h hk
  rw [List.getElem?_eq_getElem hk2] at h5
  injection h5 with h5
  refine ⟨a, b, h1, h2, h3, h4, ?_⟩
  rw [h5, ByteArray.size_extract]
  omega
theorem sameTexts_same (A C : Option Addr) (n m c d : Nat) (ss : List ByteArray) (w : World) (h1 : Row w w.heap.size A (strVals ss)) (h2 : Row w w.heap.size C (strVals ss)) (hn : ss.length = n) (hm : ss.length = m) (hmax : n ≤ 3000000) :
    Calls Try.prog 35 #[.slice A n c, .slice C m d] w fun e w' => e = .returned (.bool true) ∧ ∃ q, w' = w.drewN q := by
  obtain rfl : n = m := by omega
  go_enter Try.func35, Try.ntmps35
  go_wp2_with fail
  go_loopw [5] (fun i wr => ∃ k : Nat, k ≤ n ∧ i = .int .i64 k ∧ ∃ q, wr = w.drewN q) (fun i _ => n - (intOf i).toNat)
  case atStart => exact ⟨0, Nat.zero_le _, rfl, 0, rfl⟩
  case round =>
    obtain ⟨k, hk, rfl, q, rfl⟩ := hrel
    by_cases hkn : k < n
    · have hkl : k < ss.length := by omega
      obtain ⟨b, o, rfl, hb, hc1⟩ := h1.str (j := k) hkl
      obtain ⟨b', o', rfl, hb', hc2⟩ := h2.str (j := k) hkl
      generalize ss[k]'hkl = x at hc1 hc2
      have hk' : (k : Int) < (n : Int) := by omega
      have hk0 : (0 : Int) ≤ (k : Int) := by omega
      go_wp2_with fail
      go_quiet (fail)
      go_wp2_with fail
      go_roundw
      case rel => exact ⟨k + 1, by omega, by go_num, _, rfl⟩
      case measure => (simp [intOf] <;> omega)
    · go_wp2_with fail
      go_ret
      exact ⟨rfl, q, rfl⟩
set_option maxHeartbeats 16000000 in
set_option maxRecDepth 100000 in
theorem law_FnSelected (A : Option Addr) (n c : Nat) (zs : List Int) (w : World) (h : IsBytes w A n c zs) :
    Calls Try.prog 9 #[.slice A n c] w fun e w' => e = .returned (.bool true) ∧ Below w.heap.size w w' := by
  have hn0 : n ≤ maxLen := by obtain ⟨_, h1, h2, _⟩ := h; omega
  unfold maxLen at hn0
  by_cases hn : n ≤ 1048576
  rotate_left
  · go_enter Try.func9, Try.ntmps9
    go_wp2
    go_ret
    exact ⟨rfl, Below.refl _ _⟩
  have HD := Lib.hid (dDrawSelected A n c zs w h)
  clear h
  go_enter Try.func9, Try.ntmps9
  go_wp2_with fail
  refine HD.out.mono ?_
  rintro e W1 ⟨s, A1, c1, ys, rfl, hs, hl, ho1, hb1⟩
  have hsm : s.size ≤ maxLen := by unfold maxLen; omega
  have hr1 := Row.of_own2 ho1
  have hc1 := fun A c W h => iSe_any s A _ c ys W hsm h rfl (by omega)
  have hc2 := fun A c W h => sSe_any s A _ c ys W hsm h rfl (by omega)
  have hc3 := fun A n c W h (hn : (ys.map swp).length = n) => iSe_any s A n c (ys.map swp) W hsm h hn (by simp at hn; omega)
  rw [se_turn] at hc3
  have hc4 := fun A c W h => sCV_any s A _ c ys W hsm h rfl (by omega)
  have hsel := sel_at (s := s) (l := ys)
  have hno : cuV s ys = false → seL s ys = [] := fun h => by unfold seL; rw [h]; rfl
  have hle := (se_small s ys).1
  generalize seL s ys = ss at *
  generalize cuV s ys = vy at *
  have H1 := Lib.hid hc1
  have H2 := Lib.hid hc2
  have H3 := Lib.hid hc3
  have H4 := Lib.hid hc4
  have HSEL := Lib.hid hsel
  have HNO := Lib.hid hno
  clear hc1 hc2 hc3 hc4 hsel hno ho1
  go_wp2_with fail
  refine (H1.out _ _ _ hr1).mono ?_
  rintro e W2 ⟨A2, c2, rfl, ho2, hb2⟩
  have hr12 := row_on hr1 hb2
  have hr2 := Row.of_own ho2
  have hbw2 := below_on hb1 hb2
  clear ho2 hr1 hb1 hb2
  go_wp2_with fail
  refine (H2.out _ _ _ hr12).mono ?_
  rintro e W3 ⟨A3, c3, rfl, ho3, hb3⟩
  have hr13 := row_on hr12 hb3
  have hr23 := row_on hr2 hb3
  have hr3 := Row.of_own ho3
  have hbw3 := below_on hbw2 hb3
  clear ho3 hr12 hr2 hbw2 hb3 H1 H2
  go_wp2_with fail
  refine (sameTexts_same A2 A3 _ _ c2 c3 ss W3 hr23 hr3 rfl rfl (by omega)).mono ?_
  rintro e w' ⟨rfl, q4, rfl⟩
  have hb4 := drewN_on W3 q4
  generalize W3.drewN q4 = W4 at *
  have hr14 := row_on hr13 hb4
  have hr24 := row_on hr23 hb4
  have hbw4 := below_on hbw3 hb4
  clear hr13 hr23 hr3 hbw3 hb4
  go_wp2_with fail
  refine (H4.out _ _ _ hr14).mono ?_
  rintro e W5 ⟨rfl, hb5⟩
  have hr15 := row_on hr14 hb5
  have hr25 := row_on hr24 hb5
  have hbw5 := below_on hbw4 hb5
  clear hr14 hr24 hbw4 hb5 H4
  cases vy
  · have h0 := HNO.out rfl
    subst h0
    clear HNO HSEL
    go_wp2_with fail
    refine (alive_any _).mono ?_
    rintro e w' ⟨rfl, rfl⟩
    go_wp2_with fail
    go_ret
    exact ⟨rfl, hbw5⟩
  obtain ⟨s1, s2⟩ := HSEL.out rfl
  have HS2 := Lib.hid s2
  have HR1 := Lib.hid hr15
  have HR2 := Lib.hid hr25
  have HB5 := Lib.hid hbw5
  obtain ⟨B, hB⟩ : ∃ B, W5.heap.size = B := ⟨_, rfl⟩
  have hmade : (W5.alloc (.cells #[] 44)).ownsRow B 44 2 (.slice (some ⟨W5.heap.size, 0, none⟩) 0 0) 0 [] := World.ownsRow_made W5 #[] 0 (by omega) (by decide) rfl
  have hbm : Below B W5 (W5.alloc (.cells #[] 44)) := (Below.refl _ _).alloc (by omega) _
  have HM := Lib.hid (And.intro hmade hbm)
  rw [hB] at HR1 HR2
  have HBB := Lib.hid hB
  obtain ⟨i0, hi, hz0, hz1, hz2⟩ := info_parts infoPair
  clear hr15 hr25 HNO HSEL s2 hmade hbm hbw5 hB
  go_wp2_with fail
  go_loopw [6, 7] (fun tv kv wr => ∃ k : Nat, k ≤ ys.length ∧ kv = .int .i64 k ∧ wr.ownsRow B 44 2 tv k (pairs ((ys.take k).map swp)) ∧ Below B W5 wr ∧ B ≤ wr.heap.size) (fun _ kv _ => ys.length - (intOf kv).toNat)
  case atStart => exact ⟨0, Nat.zero_le _, rfl, HM.out.1, HM.out.2, by rw [← HBB.out]; simp⟩
  case round =>
    obtain ⟨k, hk, rfl, hown, hbw, hsz⟩ := hrel
    by_cases hkx : k < ys.length
    · have hks : k < ss.length := by omega
      obtain ⟨g, z, rfl, hgz, c0, c1⟩ := (HR1.out.below hbw).pair hkx
      obtain ⟨p, q, hp, hq, hpq, hqs, hszz⟩ := HS2.out k hkx hks
      have htk := take_swp hkx rfl rfl
      have hss := fun W (hb : Below B W5 W) => (HR2.out.below hb).str hks
      generalize (ys[k]'hkx) = y at c0 c1 hp hq htk
      obtain ⟨y1, y2⟩ := y
      simp only at c0 c1 htk
      generalize (ss[k]'hks) = x at hszz hss
      have hxe : (x.size : Int) = (q : Int) - (p : Int) := hszz
      have hmin : min y1 y2 = (p : Int) := hp
      have hmax : max y1 y2 = (q : Int) := hq
      have HC0 : Hid (∀ W', Below B W5 W' → W'.cell? ⟨g, z + k * 2, none⟩ = some (.int .i64 y1)) := Lib.hid (fun W' hb => (hb.cell (p := ⟨g, z + k * 2, none⟩) hgz).trans ((hbw.cell (p := ⟨g, z + k * 2, none⟩) hgz).symm.trans c0))
      have HC1 : Hid (∀ W', Below B W5 W' → W'.cell? ⟨g, z + k * 2 + 1, none⟩ = some (.int .i64 y2)) := Lib.hid (fun W' hb => (hb.cell (p := ⟨g, z + k * 2 + 1, none⟩) hgz).trans ((hbw.cell (p := ⟨g, z + k * 2 + 1, none⟩) hgz).symm.trans c1))
      have hk' : (k : Int) < (ys.length : Int) := by omega
      have hk0 : (0 : Int) ≤ (k : Int) := by omega
      have HT := Lib.hid htk
      have HSS := Lib.hid hss
      have HXE := Lib.hid (And.intro hmin (And.intro hmax hxe))
      have HOW := Lib.hid (And.intro hown hbw)
      have hown1 := hown.alloc (.cells #[.int .i64 y2, .int .i64 y1] 44)
      clear hszz hxe htk hss hp hq hmin hmax
      go_wp2_with fail
      go_region_held3 (fun w' => w'.cell? ⟨g, z + k * 2, none⟩ = some (.int .i64 y1) ∧ w'.cell? ⟨g, z + k * 2 + 1, none⟩ = some (.int .i64 y2)) (go_keep)
        ((refine step_append_at (by rfl) _ _ _ (by rfl) B 44 i0 (.agg #[.int .i64 0, .int .i64 0]) 2 16 Try.underlying25 hi hz0 hz1 hz2 rfl (by omega) _ k (pairs ((ys.take k).map swp)) (by rfl) hown1.drew ⟨wr.heap.size, 0, none⟩ 1 1 [.int .i64 y2, .int .i64 y1] (by rfl) rfl (news2 _ 44 _ _) (ones2 _ _) (by unfold maxLen; omega) (by omega) (by simp; omega) ?_; intro A6 cap6 w6 hown6 hg6 hat6; have hb6 : Below B W5 w6 := ((HOW.out.2.alloc hsz (.cells #[.int .i64 y2, .int .i64 y1] 44)).drew).grown hg6 (by simp; omega) (fun q hq => (hown1.lt q hq).1); have k0 := HC0.out _ hb6; have k1 := HC1.out _ hb6))
      all_goals
        rw [HT.out] at hown6
        have hzz6 : B ≤ w6.heap.size := by have := hg6.size; simp at this; omega
        obtain ⟨g', z', rfl, hgz', d0⟩ := HSS.out _ hb6
        have HF := Lib.hid (And.intro hown6 (And.intro hb6 hzz6))
        obtain ⟨hmin, hmax, hxe⟩ := HXE.out
        have x5 : IntKind.i64.wrap ((q : Int) - (p : Int)) = (q : Int) - (p : Int) := IntWalk.i64_in _ (by omega)
        have hks' : (k : Int) < (ss.length : Int) := by omega
        clear hown6 hb6 hg6 hat6 hown1 hown c0 c1 HXE HSS HT hbw HOW
        go_wp2_with fail
        go_quiet (fail)
        go_wp2_with fail
        go_roundw
        case rel => exact ⟨k + 1, by omega, by go_num, HF.out.1, below_drewN HF.out.2.1 _, HF.out.2.2⟩
        case measure => (simp [intOf] <;> omega)
    · obtain rfl : k = ys.length := by omega
      obtain ⟨A6, c6, rfl⟩ := own_form2 hown
      have hr6 := Row.of_own2 hown
      rw [List.take_length] at hr6
      have hr2 := (HR2.out.below hbw).more hsz
      have hbw6 := HB5.out.trans (hbw.mono (by have := HB5.out.size; have := HBB.out; omega))
      have hlm : (ys.map swp).length = ys.length := List.length_map ..
      clear hown hbw HR1 HR2 HM HS2
      go_wp2_with fail
      refine (H3.out _ _ _ _ hr6 hlm).mono ?_
      rintro e W7 ⟨A7, c7, rfl, ho7, hb7⟩
      have hr7 := Row.of_own ho7
      have hr27 := row_on hr2 hb7
      have hbw7 := below_on hbw6 hb7
      clear ho7 hb7 hr2 hr6 hbw6
      go_wp2_with fail
      refine (sameTexts_same A7 A2 _ _ c7 c2 ss W7 hr7 hr27 (by omega) (by omega) (by omega)).mono ?_
      rintro e w' ⟨rfl, q8, rfl⟩
      have hfin := below_drewN hbw7 q8
      go_wp2_with fail
      all_goals (go_ret; exact ⟨by first | rfl | simp, hfin⟩)
end Go.Proofs.Ytmdjmaijennmkaa
