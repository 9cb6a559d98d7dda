/- The reference's large numbers: digits of 24 bits. -/
import Derived.Test.YtphcianmgpbjmaaSolve
namespace Go.Proofs.Ytphcianmgpbjmaa
open Go.RowKit

/-- The k-th digit of V. -/
def d24 (V k : Nat) : Nat := V / 16777216 ^ k % 16777216
theorem d24_lt (V k : Nat) : d24 V k < 16777216 := Nat.mod_lt _ (by omega)
theorem p24_pos (k : Nat) : 0 < 16777216 ^ k := Nat.pow_pos (by omega)
/-- What is carried into the k-th digit of V f. -/
def c24 (V f k : Nat) : Nat := (V % 16777216 ^ k) * f / 16777216 ^ k
theorem c24_zero (V f : Nat) : c24 V f 0 = 0 := by simp [c24, Nat.mod_one]
theorem part24 (V f k : Nat) : (V % 16777216 ^ (k + 1)) * f / 16777216 ^ k = d24 V k * f + c24 V f k := by
  have h : V % 16777216 ^ (k + 1) = V % 16777216 ^ k + 16777216 ^ k * d24 V k := Nat.mod_pow_succ
  rw [h, Nat.add_mul, Nat.mul_assoc, Nat.add_mul_div_left _ _ (p24_pos k), Nat.add_comm]
  rfl
theorem c24_next (V f k : Nat) : (d24 V k * f + c24 V f k) / 16777216 = c24 V f (k + 1) := by
  rw [← part24, Nat.div_div_eq_div_mul, ← Nat.pow_succ]
  rfl
theorem d24_next (V f k : Nat) : (d24 V k * f + c24 V f k) % 16777216 = d24 (V * f) k := by
  rw [← part24]
  unfold d24
  have h : V * f = (V % 16777216 ^ (k + 1)) * f + 16777216 ^ k * (16777216 * (V / 16777216 ^ (k + 1) * f)) := by
    rw [← Nat.mul_assoc, ← Nat.pow_succ, ← Nat.mul_assoc, ← Nat.add_mul, Nat.mod_add_div]
  rw [h, Nat.add_mul_div_left _ _ (p24_pos k), Nat.add_mul_mod_self_left]
theorem c24_lt (V f k : Nat) (hf : f < 16777216) : c24 V f k < 16777216 := by
  refine Nat.div_lt_of_lt_mul ?_
  have h1 : V % 16777216 ^ k < 16777216 ^ k := Nat.mod_lt _ (p24_pos k)
  exact Nat.lt_of_le_of_lt (Nat.mul_le_mul_right f (Nat.le_of_lt h1)) (Nat.mul_lt_mul_of_pos_left hf (p24_pos k))
theorem c24_last (V f n : Nat) (hV : V < 16777216 ^ n) (hf : f < 16777216) : c24 V f n = d24 (V * f) n := by
  have h := c24_lt V f n hf
  unfold c24 d24 at *
  rw [Nat.mod_eq_of_lt hV] at h ⊢
  rw [Nat.mod_eq_of_lt h]
theorem mul24 (V f n : Nat) (hV : V < 16777216 ^ n) (hf : f < 16777216) : V * f < 16777216 ^ (n + 1) := by
  rw [Nat.pow_succ]
  rcases Nat.eq_zero_or_pos f with rfl | hp
  · rw [Nat.mul_zero]; exact Nat.mul_pos (p24_pos n) (by omega)
  · exact Nat.mul_lt_mul'' hV hf
theorem d24_high (V n k : Nat) (hV : V < 16777216 ^ n) (hk : n ≤ k) : d24 V k = 0 := by
  unfold d24
  rw [Nat.div_eq_of_lt (Nat.lt_of_lt_of_le hV (Nat.pow_le_pow_right (by omega) hk)), Nat.zero_mod]
theorem d24_up (V k : Nat) : V / 16777216 ^ k = 16777216 * (V / 16777216 ^ (k + 1)) + d24 V k := by
  unfold d24
  have := Nat.div_add_mod (V / 16777216 ^ k) 16777216
  rw [Nat.div_div_eq_div_mul, ← Nat.pow_succ] at this
  exact this.symm
/-- Numbers that agree above digit k. -/
def Alike (A B k : Nat) : Prop := A / 16777216 ^ k = B / 16777216 ^ k
theorem Alike.next {A B k : Nat} (h : Alike A B (k + 1)) (hd : d24 A k = d24 B k) : Alike A B k := by
  unfold Alike at *
  rw [d24_up A k, d24_up B k, h, hd]
theorem Alike.above {A B k : Nat} (h : Alike A B (k + 1)) (hd : d24 A k ≠ d24 B k) : decide (d24 B k < d24 A k) = decide (B < A) := by
  unfold Alike at h
  refine decide_eq_decide.2 ⟨fun hlt => ?_, fun hlt => ?_⟩
  · refine Nat.lt_of_not_le fun hle => ?_
    have := Nat.div_le_div_right (c := 16777216 ^ k) hle
    rw [d24_up A k, d24_up B k, h] at this
    omega
  · have := Nat.div_le_div_right (c := 16777216 ^ k) (Nat.le_of_lt hlt)
    rw [d24_up A k, d24_up B k, h] at this
    omega

/-- The digits, as integers. -/
def i24 (V k : Nat) : Int := (d24 V k : Nat)
theorem i24_bd (V k : Nat) : 0 ≤ i24 V k ∧ i24 V k ≤ 16777215 := by
  have := d24_lt V k
  unfold i24
  omega

theorem and_ffffff (x : Int) : bits .and .i64 x 16777215 = x % 16777216 := and_mask 24 x (by omega)

set_option maxHeartbeats 2000000 in
theorem refTimes_any {V f n B : Nat} {v : Value} {w : World} (hn : n ≤ 1000) (hf : f < 16777216) (hV : V < 16777216 ^ n) (hB : B ≤ w.heap.size) (hs : Sl w B v n (i24 V)) :
    Calls Try.prog 55 #[v, .int .i64 f] w fun e w' => ∃ v', e = .returned v' ∧ w'.ownsRow w.heap.size 3 1 v' (n + 1) (vals (i24 (V * f)) (n + 1)) ∧ Below w.heap.size w w' := by
  obtain ⟨i0, hi, hz0, hz1, hz2⟩ := info_parts Try.infoI
  obtain ⟨a, cap, rfl⟩ := hs.shape
  have hm := Lib.hid (made_empty w)
  have am := and_ffffff
  go_enter Try.func55, Try.ntmps55
  go_wp2
  go_loopw [5, 6, 7] (fun o c i wr => ∃ k : Nat, k ≤ n ∧ i = .int .i64 k ∧ c = .int .i64 (c24 V f k : Nat) ∧ wr.ownsRow w.heap.size 3 1 o k (vals (i24 (V * f)) k) ∧ Below w.heap.size w wr) (fun _ _ i _ => n - (intOf i).toNat)
  case atStart => exact ⟨0, by omega, rfl, by rw [c24_zero]; rfl, hm.out, (Below.refl _ w).alloc (Nat.le_refl _) _⟩
  case round =>
    obtain ⟨k, hk, rfl, rfl, hown, hB1⟩ := hrel
    have hsz := hB1.size
    have hc1 := c24_lt V f k hf
    by_cases hlt : k < n
    · obtain ⟨b, off, cap', he, hbB, hc⟩ := hs.at (by omega)
      cases he
      have c1 := hc.below hB1 (by omega) k hlt
      have i1 : 0 ≤ (k : Int) ∧ (k : Int) < n := by omega
      have hd := d24_lt V k
      obtain ⟨q1, q2⟩ := mul_bd (a := ((d24 V k : Nat) : Int)) (b := (f : Int)) (A := 16777215) (B := 16777215) (by omega) (by omega) (by omega) (by omega)
      have E : i24 V k * (f : Int) + (c24 V f k : Nat) = ((d24 V k * f + c24 V f k : Nat) : Int) := by unfold i24; simp
      obtain ⟨M, hM⟩ : ∃ M, d24 V k * f + c24 V f k = M := ⟨_, rfl⟩
      have m1 : M % 16777216 = d24 (V * f) k := by rw [← hM]; exact d24_next V f k
      have m2 : M / 16777216 = c24 V f (k + 1) := by rw [← hM]; exact c24_next V f k
      rw [hM] at E
      have hM2 : M < 281474976710656 := by
        have : ((d24 V k * f : Nat) : Int) ≤ 16777215 * 16777215 := by simpa using q2
        omega
      have q1' : 0 ≤ i24 V k * (f : Int) := q1
      have q2' : i24 V k * (f : Int) ≤ 16777215 * 16777215 := q2
      have m3 : (M : Int) % 16777216 = i24 (V * f) k := by unfold i24; omega
      have m4 : (M : Int) / 16777216 = ((c24 V f (k + 1) : Nat) : Int) := by omega
      clear m1 m2 hM q1 q2
      have HO := Lib.hid hown
      clear hown
      go_wp2_with (at_builtin; refine wpList_append_own _ rfl _ _ 22 rfl w.heap.size 3 i0 (.int .i64 0) 1 8 Try.underlying22 hi hz0 hz1 hz2 rfl (by decide) _ k (vals (i24 (V * f)) k) rfl (HO.out.alloc _) ⟨wr.heap.size, 0, none⟩ 1 1 [.int .i64 (i24 (V * f) k)] rfl rfl (cell_one_new _ _ _) (by simp [Value.oneCell']) (by unfold maxLen; omega) (by omega) (by simp; omega) ?_; intro v' w3 hown' hgrow _)
      have hB3 : Below w.heap.size w w3 := (hB1.alloc hsz _).grown hgrow (by simp; omega) (fun j hj => (HO.out.lt j hj).1)
      have HO' := Lib.hid hown'
      clear hown' hgrow
      go_roundw
      case rel => exact ⟨k + 1, by omega, by go_num, rfl, by rw [vals_snoc (i24 (V * f)) k]; exact HO'.out, hB3⟩
      case measure => simp [intOf]; omega
    · obtain rfl : k = n := by omega
      have HO := Lib.hid hown
      clear hown
      have L := c24_last V f k hV hf
      rw [L]
      go_wp2_with (at_builtin; refine wpList_append_own _ rfl _ _ 22 rfl w.heap.size 3 i0 (.int .i64 0) 1 8 Try.underlying22 hi hz0 hz1 hz2 rfl (by decide) _ k (vals (i24 (V * f)) k) rfl (HO.out.alloc _) ⟨wr.heap.size, 0, none⟩ 1 1 [.int .i64 (d24 (V * f) k : Nat)] rfl rfl (cell_one_new _ _ _) (by simp [Value.oneCell']) (by unfold maxLen; omega) (by omega) (by simp; omega) ?_; intro v' w3 hown' hgrow _)
      have hB3 : Below w.heap.size w w3 := (hB1.alloc hsz _).grown hgrow (by simp; omega) (fun j hj => (HO.out.lt j hj).1)
      have HO' := Lib.hid hown'
      clear hown' hgrow
      go_wp2
      go_ret
      exact ⟨_, rfl, by rw [vals_snoc (i24 (V * f)) k]; exact HO'.out, hB3⟩

theorem pow24_lt (a k : Nat) (h : a < 16777216) : a ^ k < 16777216 ^ (k + 1) := by
  have h1 : a ^ k ≤ 16777216 ^ k := Nat.pow_le_pow_left (Nat.le_of_lt h) k
  have h2 : 16777216 ^ k < 16777216 ^ (k + 1) := Nat.pow_lt_pow_right (by omega) (by omega)
  omega
theorem pow24_lt2 (a k b m : Nat) (ha : a < 16777216) (hb : b < 16777216) : a ^ k * b ^ m < 16777216 ^ (k + m + 1) := by
  have h1 : a ^ k ≤ 16777216 ^ k := Nat.pow_le_pow_left (Nat.le_of_lt ha) k
  have h3 : b ^ m ≤ 16777216 ^ m := Nat.pow_le_pow_left (Nat.le_of_lt hb) m
  have h2 : 16777216 ^ (k + m) < 16777216 ^ (k + m + 1) := Nat.pow_lt_pow_right (by omega) (by omega)
  have h4 := Nat.mul_le_mul h1 h3
  rw [← Nat.pow_add] at h4
  omega

theorem made_one (w : World) : (w.alloc (.cells #[.int .i64 1] 3)).ownsRow w.heap.size 3 1 (.slice (some ⟨w.heap.size, 0, none⟩) 1 1) 1 (vals (i24 1) 1) :=
  World.ownsRow_lit w #[.int .i64 1] 1 (base := w.heap.size) (e := 3) (size := 1) (Nat.le_refl _) (by unfold maxLen; omega) rfl

set_option maxHeartbeats 2000000 in
theorem refRaised_any (a n b m : Nat) (w : World) (ha : a < 16777216) (hb : b < 16777216) (hn : n ≤ 8) (hm : m ≤ 8) :
    Calls Try.prog 48 #[.int .i64 a, .int .i64 n, .int .i64 b, .int .i64 m] w fun e w' => ∃ v', e = .returned v' ∧ w'.ownsRow w.heap.size 3 1 v' 17 (vals (i24 (a ^ n * b ^ m)) 17) ∧ Below w.heap.size w w' := by
  obtain ⟨i0, hi, hz0, hz1, hz2⟩ := info_parts Try.infoI
  have H1 := Lib.hid (made_one w)
  go_enter Try.func48, Try.ntmps48
  go_wp2
  go_loopw [9, 10] (fun l i wr => ∃ k : Nat, k ≤ n ∧ i = .int .i64 k ∧ wr.ownsRow w.heap.size 3 1 l (k + 1) (vals (i24 (a ^ k)) (k + 1)) ∧ Below w.heap.size w wr) (fun _ i _ => n - (intOf i).toNat)
  case atStart => exact ⟨0, by omega, rfl, by rw [Nat.pow_zero]; exact H1.out, (Below.refl _ w).alloc (Nat.le_refl _) _⟩
  case round =>
    obtain ⟨k, hk, rfl, hown, hB1⟩ := hrel
    have hsz := hB1.size
    by_cases hlt : k < n
    · have hS : Sl wr wr.heap.size _ (k + 1) (i24 (a ^ k)) := Sl.own hown
      have HO := Lib.hid hown
      clear hown
      go_wp2_with fail
      refine (refTimes_any (by omega) ha (pow24_lt a k ha) (Nat.le_refl _) hS).mono ?_
      rintro e w2 ⟨l', rfl, ho, hb2⟩
      rw [← Nat.pow_succ] at ho
      have HO2 := Lib.hid (own_le ho hsz)
      replace hb2 := hB1.trans (hb2.mono hsz)
      clear ho hS
      go_wp2
      go_roundw
      case rel => exact ⟨k + 1, by omega, by go_num, HO2.out, hb2⟩
      case measure => simp [intOf]; omega
    · obtain rfl : k = n := by omega
      have HO := Lib.hid hown
      clear hown
      go_wp2
      go_loopw [9, 11] (fun l i wr => ∃ j : Nat, j ≤ m ∧ i = .int .i64 j ∧ wr.ownsRow w.heap.size 3 1 l (k + j + 1) (vals (i24 (a ^ k * b ^ j)) (k + j + 1)) ∧ Below w.heap.size w wr) (fun _ i _ => m - (intOf i).toNat)
      case atStart => exact ⟨0, by omega, rfl, by rw [Nat.pow_zero, Nat.mul_one]; exact HO.out, hB1⟩
      case round =>
        obtain ⟨j, hj, rfl, hown, hB2⟩ := hrel
        have hsz2 := hB2.size
        by_cases hlt2 : j < m
        · have hS : Sl _ _ _ (k + j + 1) (i24 (a ^ k * b ^ j)) := Sl.own hown
          clear hown HO
          go_wp2_with fail
          refine (refTimes_any (by omega) hb (pow24_lt2 a k b j ha hb) (Nat.le_refl _) hS).mono ?_
          rintro e w2 ⟨l', rfl, ho, hb2⟩
          rw [Nat.mul_assoc, ← Nat.pow_succ] at ho
          have HO2 := Lib.hid (own_le ho hsz2)
          replace hb2 := hB2.trans (hb2.mono hsz2)
          clear ho hS
          go_wp2
          go_roundw
          case rel => exact ⟨j + 1, by omega, by go_num, HO2.out, hb2⟩
          case measure => simp [intOf]; omega
        · obtain rfl : j = m := by omega
          obtain ⟨V, hV⟩ : ∃ V, a ^ k * b ^ j = V := ⟨_, rfl⟩
          have HVl := Lib.hid (show V < 16777216 ^ (k + j + 1) by rw [← hV]; exact pow24_lt2 a k b j ha hb)
          rw [hV] at hown
          have HV := Lib.hid hV
          have HO3 := Lib.hid hown
          clear hown hV HO
          go_wp2
          go_loopw [9] (fun l wr => ∃ s : Nat, k + j + 1 ≤ s ∧ s ≤ 17 ∧ wr.ownsRow w.heap.size 3 1 l s (vals (i24 V) s) ∧ (∃ a' c', l = .slice a' s c') ∧ Below w.heap.size w wr) (fun l _ => 17 - (match l with | .slice _ s _ => s | _ => 0))
          case atStart =>
            refine ⟨k + j + 1, Nat.le_refl _, by omega, HO3.out, ?_, hB2⟩
            obtain ⟨g', c', h'⟩ := ownsRow_succ HO3.out
            exact ⟨_, _, h'⟩
          case round =>
            obtain ⟨s, hs1, hs2, hown, ⟨a', c', rfl⟩, hB3⟩ := hrel
            have hsz3 := hB3.size
            by_cases hlt3 : s < 17
            · have HO4 := Lib.hid hown
              clear hown HO3
              have Z : i24 V s = 0 := by
                unfold i24
                rw [d24_high V _ s HVl.out hs1]; rfl
              go_wp2_with (at_builtin; refine wpList_append_own _ rfl _ _ 22 rfl w.heap.size 3 i0 (.int .i64 0) 1 8 Try.underlying22 hi hz0 hz1 hz2 rfl (by decide) _ s (vals (i24 V) s) rfl (HO4.out.alloc _) ⟨wr.heap.size, 0, none⟩ 1 1 [.int .i64 0] rfl rfl (cell_one_new _ _ _) (by simp [Value.oneCell']) (by unfold maxLen; omega) (by omega) (by simp; omega) ?_; intro v' w3 hown' hgrow _)
              have hB5 : Below w.heap.size w w3 := (hB3.alloc hsz3 _).grown hgrow (by simp; omega) (fun j hj => (HO4.out.lt j hj).1)
              obtain ⟨g', c2, rfl⟩ := ownsRow_succ hown'
              have HO' := Lib.hid hown'
              clear hown' hgrow
              go_roundw
              case rel => exact ⟨s + 1, by omega, by omega, by rw [vals_snoc (i24 V) s, Z]; exact HO'.out, ⟨_, _, rfl⟩, hB5⟩
              case measure => simp; omega
            · obtain rfl : s = 17 := by omega
              have HO4 := Lib.hid hown
              clear hown HO3
              go_wp2
              go_ret
              exact ⟨_, rfl, by rw [HV.out]; exact HO4.out, hB3⟩

theorem Alike.start {A B n : Nat} (hA : A < 16777216 ^ n) (hB : B < 16777216 ^ n) : Alike A B n := by
  unfold Alike
  rw [Nat.div_eq_of_lt hA, Nat.div_eq_of_lt hB]
theorem Alike.end {A B : Nat} (h : Alike A B 0) : A = B := by simpa [Alike] using h

set_option maxHeartbeats 2000000 in
theorem above_any {U V B : Nat} {v u : Value} {w : World} (hU : U < 16777216 ^ 17) (hV : V < 16777216 ^ 17) (hs : Sl w B v 17 (i24 U)) (ht : Sl w B u 17 (i24 V)) :
    Calls Try.prog 49 #[v, u] w fun e w' => e = .returned (.bool (decide (V < U))) ∧ Drawn w w' := by
  obtain ⟨b, off, cap, rfl, _, hc⟩ := hs.at (by omega)
  obtain ⟨b', off', cap', rfl, _, hc'⟩ := ht.at (by omega)
  have hst := Lib.hid (Alike.start hU hV)
  clear hU hV
  go_enter Try.func49, Try.ntmps49
  go_wp2
  go_loopw [5] (fun i wr => ∃ k : Nat, k ≤ 17 ∧ i = .int .i64 ((k : Int) - 1) ∧ Hid (Alike U V k) ∧ ∃ q : Nat, wr = w.drewN q) (fun i _ => (intOf i + 1).toNat)
  case atStart => exact ⟨17, by omega, rfl, hst, 0, rfl⟩
  case round =>
    obtain ⟨k, hk, rfl, hA, q, rfl⟩ := hrel
    by_cases h0 : k = 0
    · subst h0
      have E := hA.out.end
      have E' : decide (V < U) = false := decide_eq_false (by omega)
      clear hA
      have HE := Lib.hid E'
      clear E' E
      go_wp2
      go_ret
      exact ⟨ret_bool HE.out.symm, .of _⟩
    · obtain ⟨j, rfl⟩ : ∃ j, k = j + 1 := ⟨k - 1, by omega⟩
      have c1 := hc j (by omega)
      have c2 := hc' j (by omega)
      have i1 : 0 ≤ (j : Int) ∧ (j : Int) < 17 := by omega
      have e1 : ((j + 1 : Nat) : Int) - 1 = (j : Int) := by omega
      rw [e1]
      by_cases hd : d24 U j = d24 V j
      · have hA' := Lib.hid (hA.out.next hd)
        have e2 : (i24 U j == i24 V j) = true := by unfold i24; simp [hd]
        have e3 : i24 U j = i24 V j := by unfold i24; rw [hd]
        clear hA hd
        go_wp2
        go_quiet (fail)
        go_wp2
        go_roundw
        case rel => exact ⟨j, by omega, rfl, hA', _, rfl⟩
        case measure => simp [intOf]
      · have hA' := Lib.hid (hA.out.above hd)
        have e2 : (i24 U j == i24 V j) = false := by unfold i24; simp; omega
        have e3 : ¬ i24 U j = i24 V j := by unfold i24; omega
        have e4 : decide (i24 V j < i24 U j) = decide (V < U) := by rw [← hA'.out]; unfold i24; simp
        clear hA hd
        go_wp2
        go_quiet (fail)
        go_wp2
        go_quiet (fail)
        go_wp2
        go_ret
        exact ⟨rfl, ((Drawn.of q).on _).on _⟩

end Go.Proofs.Ytphcianmgpbjmaa
