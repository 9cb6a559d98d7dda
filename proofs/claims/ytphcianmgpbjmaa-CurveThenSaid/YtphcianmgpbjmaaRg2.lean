/- Gamma of the reference. -/
import Derived.Test.YtphcianmgpbjmaaRd
namespace Go.Proofs.Ytphcianmgpbjmaa
open Go.RowKit

theorem pow24_17 {a k b m : Nat} (ha : a < 16777216) (hb : b < 16777216) (hk : k ≤ 8) (hm : m ≤ 8) : a ^ k * b ^ m < 16777216 ^ 17 :=
  Nat.lt_of_lt_of_le (pow24_lt2 a k b m ha hb) (Nat.pow_le_pow_right (by omega) (by omega))

theorem gamP_at {num den n i h L : Nat} (hh : 1 ≤ h) (hL : 65535 ^ den * i ^ num = L) : gamP num den n i (h - 1) = decide (L < h ^ den * (n - 1) ^ num) := by
  unfold gamP
  rw [hL, Nat.sub_add_cancel hh]

set_option maxHeartbeats 2000000 in
set_option maxRecDepth 100000 in
theorem refGamma_yes (num den n : Nat) (w : World) (hnum1 : 1 ≤ num) (hnum : num ≤ 8) (hden1 : 1 ≤ den) (hden : den ≤ 8) (hn1 : 2 ≤ n) (hn : n ≤ 257) :
    Calls Try.prog 28 #[.int .i64 num, .int .i64 den, .int .i64 n] w fun e w' =>
      ∃ v, e = .returned (.agg #[v, .int .i64 0]) ∧ w'.ownsRow w.heap.size 3 1 v n (vals (gamV num den n) n) ∧ Below w.heap.size w w' := by
  obtain ⟨i0, hi, hz0, hz1, hz2⟩ := info_parts Try.infoI
  have P1 : pts (n : Int) = true := pts_t (by omega) (by omega)
  obtain ⟨w0, h0⟩ : ∃ w0, w.alloc (.cells #[.slice none 0 0, .int .i64 0] 43) = w0 := ⟨_, rfl⟩
  have hb0 : Below w.heap.size w w0 := by rw [← h0]; exact (Below.refl _ w).alloc (Nat.le_refl _) _
  have hz0' : w0.heap.size = w.heap.size + 1 := by rw [← h0]; simp
  have r0 : w0.cell? ⟨w.heap.size, 0, none⟩ = some (.slice none 0 0) := by rw [← h0, World.cell?_alloc_at _ _ _ _ rfl]; rfl
  have r1 : w0.cell? ⟨w.heap.size, 1, none⟩ = some (.int .i64 0) := by rw [← h0, World.cell?_alloc_at _ _ _ _ rfl]; rfl
  have f0 : w0.frozen? ⟨w.heap.size, 0, none⟩ = false := by rw [← h0]; simp [go_sem]
  have f1 : w0.frozen? ⟨w.heap.size, 1, none⟩ = false := by rw [← h0]; simp [go_sem]
  have hm := Lib.hid (made_empty w0)
  rw [hz0'] at hm
  have d1 : decide ((num : Int) < 1) = false := decide_eq_false (by omega)
  have d2 : decide ((8 : Int) < num) = false := decide_eq_false (by omega)
  have d3 : decide ((den : Int) < 1) = false := decide_eq_false (by omega)
  have d4 : decide ((8 : Int) < den) = false := decide_eq_false (by omega)
  go_enter Try.func28, Try.ntmps28
  go_wp2_with (first | (go_at_call 38; refine (refPoints_same _ _).mono ?_; rintro e w1 ⟨rfl, rfl⟩))
  have HB0 := Lib.hid hb0
  go_loopw [8, 9] (fun v i wr => ∃ k : Nat, k ≤ n ∧ i = .int .i64 k ∧ wr.ownsRow (w.heap.size + 1) 3 1 v k (vals (gamV num den n) k) ∧ Below (w.heap.size + 1) w0 wr) (fun _ i _ => n - (intOf i).toNat)
  case atStart => exact ⟨0, by omega, rfl, hm.out, (Below.refl _ w0).alloc (by omega) _⟩
  case round =>
    obtain ⟨k, hk, rfl, hrow, hB⟩ := hrel
    have hsz := hB.size
    by_cases hlt : k < n
    · have HR := Lib.hid hrow
      clear hrow
      go_wp2_with fail
      refine (refRaised_any 65535 den k num wr (by omega) (by omega) hden hnum).mono ?_
      rintro e w1 ⟨lim, rfl, ho1, hb1⟩
      have HL : Sl w1 w1.heap.size lim 17 (i24 (65535 ^ den * k ^ num)) := Sl.own ho1
      have hLb := Lib.hid (pow24_17 (a := 65535) (b := k) (by omega) (by omega) hden hnum)
      obtain ⟨L, hL⟩ : ∃ L, 65535 ^ den * k ^ num = L := ⟨_, rfl⟩
      rw [hL] at HL hLb
      have HLe := Lib.hid hL
      replace hB := hB.trans (hb1.mono (by omega))
      have hrow1 := Lib.hid (own_below' HR.out hb1)
      have hsz1 := hb1.size
      clear hL ho1 hb1
      go_wp2
      go_loopw [11, 12] (fun x y w2 => ∃ a c : Nat, a ≤ c ∧ c ≤ 65535 ∧ x = .int .i64 a ∧ y = .int .i64 c ∧ Hid (a = 0 ∨ gamP num den n k (a - 1) = false) ∧ Hid (c = 65535 ∨ gamP num den n k c = true) ∧ Below w1.heap.size w1 w2) (fun x y _ => (intOf y - intOf x).toNat)
      case atStart => exact ⟨0, 65535, by omega, by omega, rfl, rfl, Lib.hid (.inl rfl), Lib.hid (.inl rfl), Below.refl _ _⟩
      case round =>
        obtain ⟨a, c, hac, hc', rfl, rfl, ha', hb', hb2⟩ := hrel
        have hsz2 := hb2.size
        by_cases hlt2 : a < c
        · obtain ⟨h, hh, h1, h2⟩ : ∃ h : Nat, Hid (((a : Int) + c + 1) / 2 = (h : Int)) ∧ a < h ∧ h ≤ c := ⟨(a + c + 1) / 2, Lib.hid (by omega), by omega, by omega⟩
          have HL2 := HL.on hb2
          have en : (n : Int) - 1 = ((n - 1 : Nat) : Int) := by omega
          go_wp2_with fail
          rw [hh.out]
          have EN := Lib.hid en
          clear en
          refine (refRaised_any h den (n - 1) num _ (by omega) (by omega) hden hnum).mono ?_
          rintro e w3 ⟨pw, rfl, ho3, hb3⟩
          have HP : Sl w3 w3.heap.size pw 17 (i24 (h ^ den * (n - 1) ^ num)) := Sl.own ho3
          have hPb := Lib.hid (pow24_17 (a := h) (b := n - 1) (by omega) (by omega) hden hnum)
          have HL3 := HL2.on hb3
          have hge := Lib.hid (gamP_at (n := n) (show 1 ≤ h by omega) HLe.out)
          replace hb3 := hb2.trans (hb3.mono hsz2)
          clear ho3
          go_wp2_with fail
          refine (above_any hPb.out hLb.out HP HL3).mono ?_
          rintro e w4 ⟨rfl, q⟩
          rw [← hge.out]
          have hb4 := hb3.trans (q.below _)
          clear q HP HL3
          cases hp : gamP num den n k (h - 1) with
          | true =>
            have HP := Lib.hid hp
            clear hp
            go_wp2
            go_roundw
            case rel => exact ⟨a, h - 1, by omega, by omega, rfl, by go_num, ha', Lib.hid (.inr HP.out), hb4⟩
            case measure => simp [intOf]; omega
          | false =>
            have HP := Lib.hid hp
            clear hp
            go_wp2
            go_roundw
            case rel => exact ⟨h, c, by omega, by omega, rfl, rfl, Lib.hid (.inr HP.out), hb', hb4⟩
            case measure => simp [intOf]; omega
        · obtain rfl : a = c := by omega
          have E : (a : Int) = gamV num den n k := by
            have := Found.eq (p := gamP num den n k) ⟨hc', ha'.out, hb'.out⟩ (gamP_stays num den n k)
            unfold gamV
            rw [← this]
          have HE := Lib.hid E
          clear E
          have hrow2 := Lib.hid (own_below' hrow1.out hb2)
          have hbx := hB.trans (hb2.mono (by omega))
          clear HL
          go_wp2_with (at_builtin; refine wpList_append_own _ rfl _ _ 23 rfl (w.heap.size + 1) 3 i0 (.int .i64 0) 1 8 Try.underlying23 hi hz0 hz1 hz2 rfl (by decide) _ k (vals (gamV num den n) k) rfl (hrow2.out.alloc _) ⟨wr.heap.size, 0, none⟩ 1 1 [.int .i64 a] rfl rfl (cell_one_new _ _ _) (by simp [Value.oneCell']) (by unfold maxLen; omega) (by omega) (by simp; omega) ?_; intro v' w3 hown' hgrow _)
          have hB3 : Below (w.heap.size + 1) w0 w3 := (hbx.alloc (by omega) _).grown hgrow (by simp; omega) (fun j hj => (hrow2.out.lt j hj).1)
          rw [HE.out, ← vals_snoc (gamV num den n) k] at hown'
          have HO' := Lib.hid hown'
          clear hown' hgrow
          go_roundw
          case rel => exact ⟨k + 1, by omega, by go_num, HO'.out, hB3⟩
          case measure => simp [intOf]; omega
    · obtain rfl : k = n := by omega
      have q0 := (hB.cell (p := ⟨w.heap.size, 0, none⟩) (by show w.heap.size < _; omega)).trans r0
      have q1 := (hB.cell (p := ⟨w.heap.size, 1, none⟩) (by show w.heap.size < _; omega)).trans r1
      have g0 := (hB.frozen (p := ⟨w.heap.size, 0, none⟩) (by show w.heap.size < _; omega)).trans f0
      have g1 := (hB.frozen (p := ⟨w.heap.size, 1, none⟩) (by show w.heap.size < _; omega)).trans f1
      obtain ⟨m, rfl⟩ : ∃ m, k = m + 1 := ⟨k - 1, by omega⟩
      obtain ⟨gb, cap', rfl⟩ := ownsRow_succ hrow
      have HO := Lib.hid hrow
      clear hrow
      have hz5 : w.heap.size < wr.heap.size := by omega
      go_wp2
      refine bodyPost_ret (v := .agg #[.slice (some ⟨gb, 0, none⟩) (m + 1) cap', .int .i64 0]) (by simp [results, Try.results28, go_sem, *]) rfl ?_
      refine ⟨_, rfl, ?_, ?_⟩
      · refine own_le (base := w.heap.size + 1) ?_ (by omega)
        exact ownsRow_setCell_below (ownsRow_setCell_below HO.out (by show w.heap.size < _; omega) _) (by show w.heap.size < _; omega) _
      · exact (((HB0.out).trans (hB.mono (by omega))).setCell (p := ⟨w.heap.size, 0, none⟩) (Nat.le_refl _) _).setCell (p := ⟨w.heap.size, 1, none⟩) (Nat.le_refl _) _

set_option maxHeartbeats 1000000 in
theorem refGamma_no (num den n : Int) (w : World) (h : ¬ gamOk num den n) :
    Calls Try.prog 28 #[.int .i64 num, .int .i64 den, .int .i64 n] w fun e w' => e = .returned (.agg #[.slice none 0 0, .int .i64 1]) ∧ Below w.heap.size w w' := by
  have hB := Lib.hid ((Below.refl w.heap.size w).alloc (Nat.le_refl _) (.cells #[.slice none 0 0, .int .i64 1] 43))
  unfold gamOk at h
  by_cases hp : 2 ≤ n ∧ n ≤ 257
  · have P1 : pts n = true := pts_t hp.1 hp.2
    have hc : decide (num < 1) = true ∨ (decide (num < 1) = false ∧ decide (8 < num) = true) ∨ (decide (num < 1) = false ∧ decide (8 < num) = false ∧ decide (den < 1) = true) ∨ (decide (num < 1) = false ∧ decide (8 < num) = false ∧ decide (den < 1) = false ∧ decide (8 < den) = true) := by
      simp only [decide_eq_true_eq, decide_eq_false_iff_not]
      omega
    clear h hp
    rcases hc with c1 | ⟨c1, c2⟩ | ⟨c1, c2, c3⟩ | ⟨c1, c2, c3, c4⟩
    all_goals (
      go_enter Try.func28, Try.ntmps28
      go_wp2_with (first | (go_at_call 38; refine (refPoints_same _ _).mono ?_; rintro e w1 ⟨rfl, rfl⟩))
      refine bodyPost_ret (v := .agg #[.slice none 0 0, .int .i64 1]) (by simp [results, Try.results28, go_sem]) rfl ?_
      exact ⟨rfl, hB.out⟩)
  · have P1 : pts n = false := pts_f hp
    have hc : decide (num < 1) = true ∨ (decide (num < 1) = false ∧ decide (8 < num) = true) ∨ (decide (num < 1) = false ∧ decide (8 < num) = false ∧ decide (den < 1) = true) ∨ (decide (num < 1) = false ∧ decide (8 < num) = false ∧ decide (den < 1) = false ∧ decide (8 < den) = true) ∨ (decide (num < 1) = false ∧ decide (8 < num) = false ∧ decide (den < 1) = false ∧ decide (8 < den) = false) := by
      simp only [decide_eq_true_eq, decide_eq_false_iff_not]
      omega
    clear h hp
    rcases hc with c1 | ⟨c1, c2⟩ | ⟨c1, c2, c3⟩ | ⟨c1, c2, c3, c4⟩ | ⟨c1, c2, c3, c4⟩
    all_goals (
      go_enter Try.func28, Try.ntmps28
      go_wp2_with (first | (go_at_call 38; refine (refPoints_same _ _).mono ?_; rintro e w1 ⟨rfl, rfl⟩))
      refine bodyPost_ret (v := .agg #[.slice none 0 0, .int .i64 1]) (by simp [results, Try.results28, go_sem]) rfl ?_
      exact ⟨rfl, hB.out⟩)

/-- The shape of an owned row. -/
theorem own_shape {w : World} {base size n : Nat} {e : TypeId} {v : Value} {xs : List Value} (h : w.ownsRow base e size v n xs) : ∃ a cap, v = .slice a n cap := by
  rcases h.2 with ⟨rfl, h0⟩ | ⟨g, cap, cur, rfl, _⟩
  · exact ⟨none, 0, by rw [h0]⟩
  · exact ⟨_, _, rfl⟩

open Classical in
/-- The error of Gamma. -/
noncomputable def gamE (num den n : Int) : Int := if gamOk num den n then 0 else 1
open Classical in
/-- The number of points that Gamma returns. -/
noncomputable def gamN (num den n : Int) : Nat := if gamOk num den n then n.toNat else 0
theorem gamE_yes {num den n : Int} (h : gamOk num den n) : gamE num den n = 0 := if_pos h
theorem gamE_no {num den n : Int} (h : ¬ gamOk num den n) : gamE num den n = 1 := if_neg h
theorem gamN_yes {num den n : Int} (h : gamOk num den n) : gamN num den n = n.toNat := if_pos h
theorem gamN_no {num den n : Int} (h : ¬ gamOk num den n) : gamN num den n = 0 := if_neg h
theorem gamN_le (num den n : Int) : gamN num den n ≤ 257 := by
  by_cases h : gamOk num den n
  · rw [gamN_yes h]; unfold gamOk at h; omega
  · rw [gamN_no h]; omega

theorem gamma_any (num den n : Int) (w : World) :
    Calls Try.prog 27 #[.int .i64 num, .int .i64 den, .int .i64 n] w fun e w' => ∃ v, e = .returned (.tuple #[v, .int .i64 (gamE num den n)]) ∧
      w'.ownsRow w.heap.size 3 1 v (gamN num den n) (vals (gamV num.toNat den.toNat n.toNat) (gamN num den n)) ∧ Below w.heap.size w w' := by
  by_cases h : gamOk num den n
  · rw [gamE_yes h, gamN_yes h]
    obtain ⟨h1, h2, h3, h4, h5, h6⟩ := h
    obtain ⟨a, rfl⟩ := Int.eq_ofNat_of_zero_le (show 0 ≤ num by omega)
    obtain ⟨b, rfl⟩ := Int.eq_ofNat_of_zero_le (show 0 ≤ den by omega)
    obtain ⟨c, rfl⟩ := Int.eq_ofNat_of_zero_le (show 0 ≤ n by omega)
    exact gamma_yes a b c w (by omega) (by omega) (by omega) (by omega) (by omega) (by omega)
  · rw [gamE_no h, gamN_no h]
    exact (gamma_no num den n w h).mono fun _ _ ⟨he, hb⟩ => ⟨_, he, World.ownsRow_nil _ _ _ _, hb⟩

theorem refGamma_any (num den n : Int) (w : World) :
    Calls Try.prog 28 #[.int .i64 num, .int .i64 den, .int .i64 n] w fun e w' => ∃ v, e = .returned (.agg #[v, .int .i64 (gamE num den n)]) ∧
      w'.ownsRow w.heap.size 3 1 v (gamN num den n) (vals (gamV num.toNat den.toNat n.toNat) (gamN num den n)) ∧ Below w.heap.size w w' := by
  by_cases h : gamOk num den n
  · rw [gamE_yes h, gamN_yes h]
    obtain ⟨h1, h2, h3, h4, h5, h6⟩ := h
    obtain ⟨a, rfl⟩ := Int.eq_ofNat_of_zero_le (show 0 ≤ num by omega)
    obtain ⟨b, rfl⟩ := Int.eq_ofNat_of_zero_le (show 0 ≤ den by omega)
    obtain ⟨c, rfl⟩ := Int.eq_ofNat_of_zero_le (show 0 ≤ n by omega)
    exact refGamma_yes a b c w (by omega) (by omega) (by omega) (by omega) (by omega) (by omega)
  · rw [gamE_no h, gamN_no h]
    exact (refGamma_no num den n w h).mono fun _ _ ⟨he, hb⟩ => ⟨_, he, World.ownsRow_nil _ _ _ _, hb⟩

end Go.Proofs.Ytphcianmgpbjmaa
