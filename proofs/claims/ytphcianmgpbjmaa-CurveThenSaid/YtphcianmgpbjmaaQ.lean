/- Made: what it returns. -/
import Derived.Test.YtphcianmgpbjmaaO
import Derived.Test.YtphcianmgpbjmaaP
namespace Go.Proofs.Ytphcianmgpbjmaa
open Go.RowKit

/-- The numbers after k rounds of the scaling. -/
def mixV (n : Nat) (g : Nat → Int) (k j : Nat) : Int := if j < k then madeV n g j else rawP n g j

theorem vals_congr {f h : Nat → Int} {k : Nat} (e : ∀ j, j < k → f j = h j) : vals f k = vals h k :=
  List.map_congr_left fun j hj => by rw [e j (List.mem_range.1 hj)]
theorem vals_set {f h : Nat → Int} {k m : Nat} (e : ∀ j, j ≠ k → h j = f j) : vals h m = (vals f m).set k (.int .i64 (h k)) := by
  refine List.ext_getElem? fun j => ?_
  by_cases hj : j < m
  · by_cases hjk : k = j
    · subst hjk
      rw [vals_get hj, List.getElem?_set_self (by rw [vals_len]; exact hj)]
    · rw [vals_get hj, List.getElem?_set_ne hjk, vals_get hj, e j (Ne.symm hjk)]
  · rw [List.getElem?_eq_none (by rw [vals_len]; omega), List.getElem?_eq_none (by rw [List.length_set, vals_len]; omega)]

theorem ownsRow_base {w : World} {B e size n cap gb : Nat} {xs : List Value} (h : w.ownsRow B e size (.slice (some ⟨gb, 0, none⟩) n cap) n xs) : B ≤ gb := (h.lt gb rfl).1

theorem mixV_round {n : Nat} (h0 : n ≠ 0) (g : Nat → Int) {K k : Nat} {L T : Int} (hK : K = min n 256) (hk : k < K + 1) (hL : lowV n g = L) (hT : tot n g = T) (ht : 0 < T) :
    mixV n g k k = rawP n g k ∧ 0 ≤ rawP n g k ∧ rawP n g k ≤ 16776960 ∧ 0 ≤ rawP n g k * (65535 - L) ∧ rawP n g k * (65535 - L) ≤ 16776960 * 65535 ∧ 0 ≤ rawP n g k * (65535 - L) / T ∧ rawP n g k * (65535 - L) / T ≤ 16776960 * 65535 := by
  have hr := rawP_bd h0 g (k := k) (by unfold madeN; rw [if_neg h0]; omega)
  have hl := lowV_bd n g
  have htb := tot_bd n g
  rw [hL] at hl
  rw [hT] at hr htb
  obtain ⟨p1, p2⟩ := mul_bd (a := rawP n g k) (b := 65535 - L) (A := 16776960) (B := 65535) hr.1 (by omega) (by omega) (by omega)
  exact ⟨if_neg (by omega), hr.1, by omega, p1, p2, Int.ediv_nonneg p1 (by omega), Int.le_trans (Int.ediv_le_self _ p1) p2⟩

theorem mixV_next {n : Nat} (_h0 : n ≠ 0) (g : Nat → Int) {K k : Nat} {L T : Int} (_hK : K = min n 256) (_hk : k < K + 1) (hL : lowV n g = L) (hT : tot n g = T) (ht : 0 < T) :
    vals (mixV n g (k + 1)) (K + 1) = (vals (mixV n g k) (K + 1)).set k (.int .i64 (L + rawP n g k * (65535 - L) / T)) := by
  rw [vals_set (f := mixV n g k) (k := k) (fun j hj => by unfold mixV; by_cases h : j < k <;> simp [h] <;> omega)]
  congr 3
  unfold mixV madeV
  rw [if_pos (by omega), hL, hT, if_pos ht]

theorem mixV_end {w : World} {B e size n K : Nat} {g : Nat → Int} {v : Value} (h : w.ownsRow B e size v (K + 1) (vals (mixV n g (K + 1)) (K + 1))) : w.ownsRow B e size v (K + 1) (vals (madeV n g) (K + 1)) := by
  rw [vals_congr (f := madeV n g) (h := mixV n g (K + 1)) (fun j hj => (if_pos hj).symm)]; exact h
theorem mixV_none {w : World} {B e size n K : Nat} {g : Nat → Int} {v : Value} (ht : ¬ 0 < tot n g) (h : w.ownsRow B e size v (K + 1) (vals (mixV n g 0) (K + 1))) : w.ownsRow B e size v (K + 1) (vals (madeV n g) (K + 1)) := by
  rw [vals_congr (f := madeV n g) (h := mixV n g 0) (fun j _ => (if_neg ht).trans (if_neg (by omega)).symm)]; exact h

theorem vals_snoc (f : Nat → Int) (k : Nat) : vals f (k + 1) = vals f k ++ [.int .i64 (f k)] := by simp [vals, List.range_succ]

set_option maxHeartbeats 4000000 in
set_option maxRecDepth 100000 in
theorem made_some {g : Nat → Int} {n B : Nat} {v : Value} {w : World} (hn : n ≤ 9223372036854775807) (hs : Sl w B v n g) (hB : B ≤ w.heap.size) (h0 : n ≠ 0) :
    Calls Try.prog 17 #[v] w fun e w' => ∃ v', e = .returned v' ∧ w'.ownsRow w.heap.size 3 1 v' (madeN n) (vals (madeV n g) (madeN n)) ∧ Below w.heap.size w w' := by
  obtain ⟨i0, hi, hz0, hz1, hz2⟩ := info_parts Try.infoI
  obtain ⟨b, off, cap, rfl, hcap, hbB, hc⟩ := hs.roomy (by omega)
  obtain ⟨K, hK⟩ : ∃ K, K = min n 256 := ⟨_, rfl⟩
  have hK1 : K ≤ n := by omega
  have hK2 : K ≤ 256 := by omega
  have hK3 : K = n ∨ K = 256 := by omega
  have HN := Lib.hid (show madeN n = K + 1 by unfold madeN; rw [if_neg h0, hK])
  have hK0 : 1 ≤ K := by omega
  have HT0 := Lib.hid (show tot n g = psum g K by unfold tot; rw [hK])
  have HK := Lib.hid hK
  clear hK
  have hbw : b < w.heap.size := by omega
  have a1 := and_ffff
  have a2 := and_7
  have a3 := and_fff
  have hm := Lib.hid (World.ownsRow_lit w #[.int .i64 0] 1 (base := w.heap.size) (e := 3) (size := 1) (Nat.le_refl _) (by unfold maxLen; omega) rfl)
  go_enter Try.func17, Try.ntmps17
  go_wp2
  go_loopw [3, 4, 5] (fun c s i wr => ∃ k : Nat, k ≤ K ∧ i = .int .i64 k ∧ s = .int .i64 (psum g k) ∧ wr.ownsRow w.heap.size 3 1 c (k + 1) (vals (psum g) (k + 1)) ∧ Below w.heap.size w wr) (fun _ _ i _ => K - (intOf i).toNat)
  case atStart => exact ⟨0, by omega, rfl, rfl, hm.out, (Below.refl _ w).alloc (Nat.le_refl _) _⟩
  case round =>
    obtain ⟨k, hk, rfl, rfl, hown, hB1⟩ := hrel
    have hps := psum_bd g k
    by_cases hlt : k < K
    · have hk1 : k < n := by omega
      have d1 : decide ((k : Int) < n) = true := decide_eq_true (by omega)
      have d2 : decide ((k : Int) < 256) = true := decide_eq_true (by omega)
      have c1 := hc.below hB1 hbw k hk1
      have i1 : 0 ≤ (k : Int) ∧ (k : Int) < n := by omega
      have HO := Lib.hid hown
      have hsz := hB1.size
      have gm0 : 0 ≤ g k % 65536 := by omega
      have gm1 : g k % 65536 ≤ 65535 := by omega
      clear hown
      go_wp2_with (at_builtin; refine wpList_append_own _ rfl _ _ 23 rfl w.heap.size 3 i0 (.int .i64 0) 1 8 Try.underlying23 hi hz0 hz1 hz2 rfl (by decide) _ (k + 1) (vals (psum g) (k + 1)) rfl (HO.out.alloc _) ⟨wr.heap.size, 0, none⟩ 1 1 [.int .i64 (psum g k + g k % 65536)] rfl rfl (cell_one_new _ _ _) (by simp [Value.oneCell']) (by unfold maxLen; omega) (by omega) (by simp; omega) ?_; intro v' w3 hown' hgrow _)
      have hB3 : Below w.heap.size w w3 := (hB1.alloc hsz _).grown hgrow (by simp; omega) (fun j hj => (HO.out.lt j hj).1)
      have HO' := Lib.hid hown'
      clear hown' hgrow
      go_roundw
      case rel => exact ⟨k + 1, by omega, by go_num, rfl, by rw [vals_snoc (psum g) (k + 1)]; exact HO'.out, hB3⟩
      case measure => simp [intOf]; omega
    · obtain rfl : K = k := by omega
      obtain ⟨gb, cap', rfl⟩ := ownsRow_succ hown
      obtain ⟨T, hT⟩ : ∃ T, psum g K = T := ⟨_, rfl⟩
      have HT := Lib.hid (HT0.out.trans hT)
      have hT0 : 0 ≤ T := by omega
      have hT1 : T ≤ 16776960 := by omega
      rw [hT]
      clear hT hps
      replace hown : wr.ownsRow w.heap.size 3 1 (.slice (some ⟨gb, 0, none⟩) (K + 1) cap') (K + 1) (vals (mixV n g 0) (K + 1)) := by
        rw [vals_congr (f := mixV n g 0) (h := psum g) (fun j _ => (if_neg (by omega)).trans (rawP_pos h0 g j))]; exact hown
      have HO := Lib.hid hown
      clear hown
      have hcr := hc.below hB1 hbw
      have c0 := hcr.zero (by omega)
      by_cases h2 : 2 < n
      · have c1 := hcr 1 (by omega)
        have i0' : 0 ≤ (1 : Int) ∧ (1 : Int) < n := by omega
        have i0'' : (0 : Int) < n := by omega
        have dl : decide ((2 : Int) < n) = true := decide_eq_true (by omega)
        by_cases h3 : g 0 % 8 = 3
        · have d3 : (g 0 % 8 == 3) = true := by simp [h3]
          obtain ⟨L, hL⟩ : ∃ L, g 1 % 4096 = L := ⟨_, rfl⟩
          have HL := Lib.hid (show lowV n g = L by unfold lowV; rw [if_pos ⟨h2, h3⟩]; exact hL)
          have hl0 : 0 ≤ L := by omega
          have hl1 : L ≤ 4095 := by omega
          clear h3
          by_cases hKn : K < n
          · have hK6 : K = 256 := by omega
            have dk : decide ((K : Int) < n) = true := decide_eq_true (by omega)
            have dk' : decide ((K : Int) < 256) = false := decide_eq_false (by omega)
            clear hK6
            by_cases ht : 0 < T
            · have htd : decide (0 < T) = true := by simpa using ht
              go_wp2
              go_loopw [7] (fun i wr => ∃ k : Nat, k ≤ K + 1 ∧ i = .int .i64 k ∧ wr.ownsRow w.heap.size 3 1 (.slice (some ⟨gb, 0, none⟩) (K + 1) cap') (K + 1) (vals (mixV n g k) (K + 1)) ∧ Below w.heap.size w wr) (fun i _ => K + 1 - (intOf i).toNat)
              case atStart => exact ⟨0, by omega, rfl, HO.out, hB1⟩
              case round =>
                obtain ⟨k, hk, rfl, hown, hB⟩ := hrel
                by_cases hlt : k < K + 1
                · have hR := Lib.hid (mixV_round h0 g (K := K) HK.out hlt HL.out HT.out ht)
                  obtain ⟨R, hRe⟩ : ∃ R, rawP n g k = R := ⟨_, rfl⟩
                  have c1 : wr.cell? ⟨gb, k, none⟩ = some (.int .i64 R) := by rw [hown.cellAt k (by omega), vals_get hlt, hR.out.1, hRe]
                  have fr : wr.frozen? ⟨gb, k, none⟩ = false := hown.frozenAt k
                  obtain ⟨r0, r1, r2, r3, r4, r5⟩ := hR.out.2
                  rw [hRe] at r0 r1 r2 r3 r4 r5
                  have i1 : 0 ≤ (k : Int) ∧ (k : Int) < (K : Int) + 1 := by omega
                  obtain ⟨hst, _⟩ := hown.stored k (.int .i64 (L + R * (65535 - L) / T))
                  have HS := Lib.hid hst
                  have HO := Lib.hid hown
                  have hRe' := Lib.hid hRe
                  clear hst hown hRe
                  go_wp2
                  go_roundw
                  case rel => exact ⟨k + 1, by omega, by go_num, by rw [mixV_next h0 g HK.out hlt HL.out HT.out ht, hRe'.out]; exact HS.out, hB.setCell (ownsRow_base HO.out) _⟩
                  case measure => simp [intOf]; omega
                · obtain rfl : k = K + 1 := by omega
                  have HO := Lib.hid hown
                  clear hown
                  go_wp2
                  go_ret
                  exact ⟨_, rfl, by rw [HN.out]; exact mixV_end HO.out, hB⟩
            · have htd : decide (0 < T) = false := by simpa using ht
              go_wp2
              refine wp_loop_rounds 1 ?_
              rw [rounds_succ]
              go_wp2
              go_ret
              exact ⟨_, rfl, by rw [HN.out]; exact mixV_none (by rw [HT.out]; omega) HO.out, hB1⟩
          · have dk : decide ((K : Int) < n) = false := decide_eq_false (by omega)
            by_cases ht : 0 < T
            · have htd : decide (0 < T) = true := by simpa using ht
              go_wp2
              go_loopw [7] (fun i wr => ∃ k : Nat, k ≤ K + 1 ∧ i = .int .i64 k ∧ wr.ownsRow w.heap.size 3 1 (.slice (some ⟨gb, 0, none⟩) (K + 1) cap') (K + 1) (vals (mixV n g k) (K + 1)) ∧ Below w.heap.size w wr) (fun i _ => K + 1 - (intOf i).toNat)
              case atStart => exact ⟨0, by omega, rfl, HO.out, hB1⟩
              case round =>
                obtain ⟨k, hk, rfl, hown, hB⟩ := hrel
                by_cases hlt : k < K + 1
                · have hR := Lib.hid (mixV_round h0 g (K := K) HK.out hlt HL.out HT.out ht)
                  obtain ⟨R, hRe⟩ : ∃ R, rawP n g k = R := ⟨_, rfl⟩
                  have c1 : wr.cell? ⟨gb, k, none⟩ = some (.int .i64 R) := by rw [hown.cellAt k (by omega), vals_get hlt, hR.out.1, hRe]
                  have fr : wr.frozen? ⟨gb, k, none⟩ = false := hown.frozenAt k
                  obtain ⟨r0, r1, r2, r3, r4, r5⟩ := hR.out.2
                  rw [hRe] at r0 r1 r2 r3 r4 r5
                  have i1 : 0 ≤ (k : Int) ∧ (k : Int) < (K : Int) + 1 := by omega
                  obtain ⟨hst, _⟩ := hown.stored k (.int .i64 (L + R * (65535 - L) / T))
                  have HS := Lib.hid hst
                  have HO := Lib.hid hown
                  have hRe' := Lib.hid hRe
                  clear hst hown hRe
                  go_wp2
                  go_roundw
                  case rel => exact ⟨k + 1, by omega, by go_num, by rw [mixV_next h0 g HK.out hlt HL.out HT.out ht, hRe'.out]; exact HS.out, hB.setCell (ownsRow_base HO.out) _⟩
                  case measure => simp [intOf]; omega
                · obtain rfl : k = K + 1 := by omega
                  have HO := Lib.hid hown
                  clear hown
                  go_wp2
                  go_ret
                  exact ⟨_, rfl, by rw [HN.out]; exact mixV_end HO.out, hB⟩
            · have htd : decide (0 < T) = false := by simpa using ht
              go_wp2
              refine wp_loop_rounds 1 ?_
              rw [rounds_succ]
              go_wp2
              go_ret
              exact ⟨_, rfl, by rw [HN.out]; exact mixV_none (by rw [HT.out]; omega) HO.out, hB1⟩
        · have d3 : (g 0 % 8 == 3) = false := by simp [h3]
          have HL := Lib.hid (show lowV n g = 0 by unfold lowV; rw [if_neg (fun h => h3 h.2)])
          clear h3
          by_cases hKn : K < n
          · have hK6 : K = 256 := by omega
            have dk : decide ((K : Int) < n) = true := decide_eq_true (by omega)
            have dk' : decide ((K : Int) < 256) = false := decide_eq_false (by omega)
            clear hK6
            by_cases ht : 0 < T
            · have htd : decide (0 < T) = true := by simpa using ht
              go_wp2
              go_loopw [7] (fun i wr => ∃ k : Nat, k ≤ K + 1 ∧ i = .int .i64 k ∧ wr.ownsRow w.heap.size 3 1 (.slice (some ⟨gb, 0, none⟩) (K + 1) cap') (K + 1) (vals (mixV n g k) (K + 1)) ∧ Below w.heap.size w wr) (fun i _ => K + 1 - (intOf i).toNat)
              case atStart => exact ⟨0, by omega, rfl, HO.out, hB1⟩
              case round =>
                obtain ⟨k, hk, rfl, hown, hB⟩ := hrel
                by_cases hlt : k < K + 1
                · have hR := Lib.hid (mixV_round h0 g (K := K) HK.out hlt HL.out HT.out ht)
                  obtain ⟨R, hRe⟩ : ∃ R, rawP n g k = R := ⟨_, rfl⟩
                  have c1 : wr.cell? ⟨gb, k, none⟩ = some (.int .i64 R) := by rw [hown.cellAt k (by omega), vals_get hlt, hR.out.1, hRe]
                  have fr : wr.frozen? ⟨gb, k, none⟩ = false := hown.frozenAt k
                  obtain ⟨r0, r1, r2, r3, r4, r5⟩ := hR.out.2
                  rw [hRe] at r0 r1 r2 r3 r4 r5
                  have e0 := Lib.hid (show (0 : Int) + R * (65535 - 0) / T = R * 65535 / T by rw [Int.zero_add, Int.sub_zero])
                  rw [Int.sub_zero] at r2 r3 r4 r5
                  have i1 : 0 ≤ (k : Int) ∧ (k : Int) < (K : Int) + 1 := by omega
                  obtain ⟨hst, _⟩ := hown.stored k (.int .i64 (R * 65535 / T))
                  have HS := Lib.hid hst
                  have HO := Lib.hid hown
                  have hRe' := Lib.hid hRe
                  clear hst hown hRe
                  go_wp2
                  go_roundw
                  case rel => exact ⟨k + 1, by omega, by go_num, by rw [mixV_next h0 g HK.out hlt HL.out HT.out ht, hRe'.out, e0.out]; exact HS.out, hB.setCell (ownsRow_base HO.out) _⟩
                  case measure => simp [intOf]; omega
                · obtain rfl : k = K + 1 := by omega
                  have HO := Lib.hid hown
                  clear hown
                  go_wp2
                  go_ret
                  exact ⟨_, rfl, by rw [HN.out]; exact mixV_end HO.out, hB⟩
            · have htd : decide (0 < T) = false := by simpa using ht
              go_wp2
              refine wp_loop_rounds 1 ?_
              rw [rounds_succ]
              go_wp2
              go_ret
              exact ⟨_, rfl, by rw [HN.out]; exact mixV_none (by rw [HT.out]; omega) HO.out, hB1⟩
          · have dk : decide ((K : Int) < n) = false := decide_eq_false (by omega)
            by_cases ht : 0 < T
            · have htd : decide (0 < T) = true := by simpa using ht
              go_wp2
              go_loopw [7] (fun i wr => ∃ k : Nat, k ≤ K + 1 ∧ i = .int .i64 k ∧ wr.ownsRow w.heap.size 3 1 (.slice (some ⟨gb, 0, none⟩) (K + 1) cap') (K + 1) (vals (mixV n g k) (K + 1)) ∧ Below w.heap.size w wr) (fun i _ => K + 1 - (intOf i).toNat)
              case atStart => exact ⟨0, by omega, rfl, HO.out, hB1⟩
              case round =>
                obtain ⟨k, hk, rfl, hown, hB⟩ := hrel
                by_cases hlt : k < K + 1
                · have hR := Lib.hid (mixV_round h0 g (K := K) HK.out hlt HL.out HT.out ht)
                  obtain ⟨R, hRe⟩ : ∃ R, rawP n g k = R := ⟨_, rfl⟩
                  have c1 : wr.cell? ⟨gb, k, none⟩ = some (.int .i64 R) := by rw [hown.cellAt k (by omega), vals_get hlt, hR.out.1, hRe]
                  have fr : wr.frozen? ⟨gb, k, none⟩ = false := hown.frozenAt k
                  obtain ⟨r0, r1, r2, r3, r4, r5⟩ := hR.out.2
                  rw [hRe] at r0 r1 r2 r3 r4 r5
                  have e0 := Lib.hid (show (0 : Int) + R * (65535 - 0) / T = R * 65535 / T by rw [Int.zero_add, Int.sub_zero])
                  rw [Int.sub_zero] at r2 r3 r4 r5
                  have i1 : 0 ≤ (k : Int) ∧ (k : Int) < (K : Int) + 1 := by omega
                  obtain ⟨hst, _⟩ := hown.stored k (.int .i64 (R * 65535 / T))
                  have HS := Lib.hid hst
                  have HO := Lib.hid hown
                  have hRe' := Lib.hid hRe
                  clear hst hown hRe
                  go_wp2
                  go_roundw
                  case rel => exact ⟨k + 1, by omega, by go_num, by rw [mixV_next h0 g HK.out hlt HL.out HT.out ht, hRe'.out, e0.out]; exact HS.out, hB.setCell (ownsRow_base HO.out) _⟩
                  case measure => simp [intOf]; omega
                · obtain rfl : k = K + 1 := by omega
                  have HO := Lib.hid hown
                  clear hown
                  go_wp2
                  go_ret
                  exact ⟨_, rfl, by rw [HN.out]; exact mixV_end HO.out, hB⟩
            · have htd : decide (0 < T) = false := by simpa using ht
              go_wp2
              refine wp_loop_rounds 1 ?_
              rw [rounds_succ]
              go_wp2
              go_ret
              exact ⟨_, rfl, by rw [HN.out]; exact mixV_none (by rw [HT.out]; omega) HO.out, hB1⟩
      · have dl : decide ((2 : Int) < n) = false := decide_eq_false (by omega)
        have HL := Lib.hid (show lowV n g = 0 by unfold lowV; rw [if_neg (fun h => h2 h.1)])
        by_cases ht : 0 < T
        · have htd : decide (0 < T) = true := by simpa using ht
          go_wp2
          go_loopw [7] (fun i wr => ∃ k : Nat, k ≤ K + 1 ∧ i = .int .i64 k ∧ wr.ownsRow w.heap.size 3 1 (.slice (some ⟨gb, 0, none⟩) (K + 1) cap') (K + 1) (vals (mixV n g k) (K + 1)) ∧ Below w.heap.size w wr) (fun i _ => K + 1 - (intOf i).toNat)
          case atStart => exact ⟨0, by omega, rfl, HO.out, hB1⟩
          case round =>
            obtain ⟨k, hk, rfl, hown, hB⟩ := hrel
            by_cases hlt : k < K + 1
            · have hR := Lib.hid (mixV_round h0 g (K := K) HK.out hlt HL.out HT.out ht)
              obtain ⟨R, hRe⟩ : ∃ R, rawP n g k = R := ⟨_, rfl⟩
              have c1 : wr.cell? ⟨gb, k, none⟩ = some (.int .i64 R) := by rw [hown.cellAt k (by omega), vals_get hlt, hR.out.1, hRe]
              have fr : wr.frozen? ⟨gb, k, none⟩ = false := hown.frozenAt k
              obtain ⟨r0, r1, r2, r3, r4, r5⟩ := hR.out.2
              rw [hRe] at r0 r1 r2 r3 r4 r5
              have e0 := Lib.hid (show (0 : Int) + R * (65535 - 0) / T = R * 65535 / T by rw [Int.zero_add, Int.sub_zero])
              rw [Int.sub_zero] at r2 r3 r4 r5
              have i1 : 0 ≤ (k : Int) ∧ (k : Int) < (K : Int) + 1 := by omega
              obtain ⟨hst, _⟩ := hown.stored k (.int .i64 (R * 65535 / T))
              have HS := Lib.hid hst
              have HO := Lib.hid hown
              have hRe' := Lib.hid hRe
              clear hst hown hRe
              go_wp2
              go_roundw
              case rel => exact ⟨k + 1, by omega, by go_num, by rw [mixV_next h0 g HK.out hlt HL.out HT.out ht, hRe'.out, e0.out]; exact HS.out, hB.setCell (ownsRow_base HO.out) _⟩
              case measure => simp [intOf]; omega
            · obtain rfl : k = K + 1 := by omega
              have HO := Lib.hid hown
              clear hown
              go_wp2
              go_ret
              exact ⟨_, rfl, by rw [HN.out]; exact mixV_end HO.out, hB⟩
        · have htd : decide (0 < T) = false := by simpa using ht
          go_wp2
          refine wp_loop_rounds 1 ?_
          rw [rounds_succ]
          go_wp2
          go_ret
          exact ⟨_, rfl, by rw [HN.out]; exact mixV_none (by rw [HT.out]; omega) HO.out, hB1⟩

set_option maxHeartbeats 1000000 in
theorem made_none {g : Nat → Int} {B : Nat} {v : Value} {w : World} (hs : Sl w B v 0 g) :
    Calls Try.prog 17 #[v] w fun e w' => ∃ v', e = .returned v' ∧ w'.ownsRow w.heap.size 3 1 v' 2 (vals (madeV 0 g) 2) ∧ Below w.heap.size w w' := by
  obtain ⟨i0, hi, hz0, hz1, hz2⟩ := info_parts Try.infoI
  obtain ⟨a, cap, rfl⟩ := hs.shape
  have hm := Lib.hid (World.ownsRow_lit w #[.int .i64 0] 1 (base := w.heap.size) (e := 3) (size := 1) (Nat.le_refl _) (by unfold maxLen; omega) rfl)
  clear hs
  go_enter Try.func17, Try.ntmps17
  go_wp2
  refine wp_loop_rounds 1 ?_
  rw [rounds_succ]
  go_wp2_with (at_builtin; refine wpList_append_own _ rfl _ _ 23 rfl w.heap.size 3 i0 (.int .i64 0) 1 8 Try.underlying23 hi hz0 hz1 hz2 rfl (by decide) _ 1 [.int .i64 0] rfl (hm.out.alloc _) ⟨w.heap.size + 1, 0, none⟩ 1 1 [.int .i64 65535] rfl rfl (by have := cell_one_new (w.alloc (.cells #[.int .i64 0] 3)) (.int .i64 65535) 3; simpa using this) (by simp [Value.oneCell']) (by unfold maxLen; omega) (by omega) (by simp; omega) ?_; intro v' w3 hown' hgrow _)
  have HO := Lib.hid hown'
  have hB3 : Below w.heap.size w w3 := (((Below.refl _ w).alloc (Nat.le_refl _) _).alloc (by simp) _).grown hgrow (by simp; omega) (fun j hj => by have h : some w.heap.size = some j := hj; cases h; exact Nat.le_refl _)
  obtain ⟨gb, cap', rfl⟩ := ownsRow_succ hown'
  clear hown' hgrow
  go_wp2
  refine wp_loop_rounds 1 ?_
  rw [rounds_succ]
  go_wp2
  go_ret
  exact ⟨_, rfl, HO.out, hB3⟩

theorem made_any {g : Nat → Int} {n B : Nat} {v : Value} {w : World} (hn : n ≤ 9223372036854775807) (hs : Sl w B v n g) (hB : B ≤ w.heap.size) :
    Calls Try.prog 17 #[v] w fun e w' => ∃ v', e = .returned v' ∧ w'.ownsRow w.heap.size 3 1 v' (madeN n) (vals (madeV n g) (madeN n)) ∧ Below w.heap.size w w' := by
  by_cases h0 : n = 0
  · subst h0; exact made_none hs
  · exact made_some hn hs hB h0

end Go.Proofs.Ytphcianmgpbjmaa
