/- Digits of natural numbers: plain arithmetic. -/
import Derived.Test.YtphcianmgpbjmaaG
namespace Go.Proofs.Ytphcianmgpbjmaa
open Go.RowKit

/-- The k-th word of V. -/
def dig (V k : Nat) : Nat := V / 18446744073709551616 ^ k % 18446744073709551616
theorem dig_u (V k : Nat) : U64 (dig V k) := Nat.mod_lt _ (by omega)

theorem dig_split (V k : Nat) : V % 18446744073709551616 ^ (k + 1) = V % 18446744073709551616 ^ k + 18446744073709551616 ^ k * dig V k := Nat.mod_pow_succ

theorem pow_pos' (k : Nat) : 0 < 18446744073709551616 ^ k := Nat.pow_pos (by omega)

theorem part_dig (V f k : Nat) : (V % 18446744073709551616 ^ (k + 1)) * f / 18446744073709551616 ^ k = dig V k * f + (V % 18446744073709551616 ^ k) * f / 18446744073709551616 ^ k := by
  rw [dig_split, Nat.add_mul, Nat.mul_assoc, Nat.add_mul_div_left _ _ (pow_pos' k), Nat.add_comm]

theorem carry_dig (V f : Nat) : ∀ k, carry (dig V) f k = (V % 18446744073709551616 ^ k) * f / 18446744073709551616 ^ k
  | 0 => by simp [carry, Nat.mod_one]
  | k + 1 => by
    show hi64 (dig V k * f + carry (dig V) f k) = _
    rw [carry_dig V f k, ← part_dig, Nat.pow_succ (m := k), ← Nat.div_div_eq_div_mul]
    rw [← Nat.pow_succ]
    rfl

theorem word_dig (V f k : Nat) : word (dig V) f k = dig (V * f) k := by
  unfold word
  rw [carry_dig, ← part_dig]
  unfold lo64 dig
  have h : V * f = (V % 18446744073709551616 ^ (k + 1)) * f + 18446744073709551616 ^ k * (18446744073709551616 * (V / 18446744073709551616 ^ (k + 1) * f)) := by
    rw [← Nat.mul_assoc, ← Nat.pow_succ, ← Nat.mul_assoc, ← Nat.add_mul, Nat.mod_add_div]
  rw [h, Nat.add_mul_div_left _ _ (pow_pos' k), Nat.add_mul_mod_self_left]

/-- The digits of a product: times. -/
theorem times_dig (V f : Nat) (hf : U64 f) (w : World) :
    Calls Try.prog 54 #[.agg #[.int .u64 (dig V 0 : Nat), .int .u64 (dig V 1 : Nat), .int .u64 (dig V 2 : Nat), .int .u64 (dig V 3 : Nat)], .int .u64 f] w fun e w' =>
      e = .returned (.agg #[.int .u64 (dig (V * f) 0 : Nat), .int .u64 (dig (V * f) 1 : Nat), .int .u64 (dig (V * f) 2 : Nat), .int .u64 (dig (V * f) 3 : Nat)]) ∧ Below w.heap.size w w' := by
  refine (times_any (dig V) f (dig_u V) hf w).mono ?_
  rintro e w' ⟨rfl, hb⟩
  refine ⟨?_, hb⟩
  unfold W4
  rw [word_dig, word_dig, word_dig, word_dig]

theorem dig_one (k : Nat) (hk : 1 ≤ k) : dig 1 k = 0 := by
  unfold dig
  have h : 18446744073709551616 ^ 1 ≤ 18446744073709551616 ^ k := Nat.pow_le_pow_right (by omega) hk
  rw [Nat.div_eq_of_lt (by omega)]

/-- The two new blocks of raised. -/
theorem raised_new (w : World) :
    Four ((w.alloc (.cells #[.int .u64 0, .int .u64 0, .int .u64 0, .int .u64 0] 64)).alloc (.cells #[.int .u64 1, .int .u64 0, .int .u64 0, .int .u64 0] 64)) w.heap.size (fun _ => 0) ∧
    Four ((w.alloc (.cells #[.int .u64 0, .int .u64 0, .int .u64 0, .int .u64 0] 64)).alloc (.cells #[.int .u64 1, .int .u64 0, .int .u64 0, .int .u64 0] 64)) (w.heap.size + 1) (dig 1) ∧
    Below w.heap.size w ((w.alloc (.cells #[.int .u64 0, .int .u64 0, .int .u64 0, .int .u64 0] 64)).alloc (.cells #[.int .u64 1, .int .u64 0, .int .u64 0, .int .u64 0] 64)) := by
  refine ⟨?_, ?_, ((Below.refl _ w).alloc (Nat.le_refl _) _).alloc (by simp) _⟩
  · exact (Below.heap_alloc _ _ _ (by simp)).trans (heap_alloc_new w _)
  · have := heap_alloc_new (w.alloc (.cells #[.int .u64 0, .int .u64 0, .int .u64 0, .int .u64 0] 64)) (.cells #[.int .u64 1, .int .u64 0, .int .u64 0, .int .u64 0] 64)
    rw [World.size_alloc] at this
    unfold Four
    rw [this, dig_one 1 (by omega), dig_one 2 (by omega), dig_one 3 (by omega)]
    rfl

/-- Four stores into a block of four words. -/
theorem Four.put {w : World} {b : Nat} {l : Nat → Nat} (h : Four w b l) (l' : Nat → Nat) :
    Four ((((w.setCell ⟨b, 0, none⟩ (.int .u64 (l' 0 : Nat))).setCell ⟨b, 1, none⟩ (.int .u64 (l' 1 : Nat))).setCell ⟨b, 2, none⟩ (.int .u64 (l' 2 : Nat))).setCell ⟨b, 3, none⟩ (.int .u64 (l' 3 : Nat))) b l' := by
  have g1 := h.set (j := 0) (l' := fun i => if i = 0 then l' 0 else l i) (by omega) rfl (fun i hi => if_neg hi)
  have g2 := g1.set (j := 1) (l' := fun i => if i ≤ 1 then l' i else l i) (by omega) rfl (fun i hi => by by_cases h0 : i = 0 <;> by_cases h1 : i ≤ 1 <;> simp [h0, h1] <;> omega)
  have g3 := g2.set (j := 2) (l' := fun i => if i ≤ 2 then l' i else l i) (by omega) rfl (fun i hi => by by_cases h0 : i ≤ 1 <;> by_cases h1 : i ≤ 2 <;> simp [h0, h1] <;> omega)
  have g4 := g3.set (j := 3) (l' := fun i => if i ≤ 3 then l' i else l i) (by omega) rfl (fun i hi => by by_cases h0 : i ≤ 2 <;> by_cases h1 : i ≤ 3 <;> simp [h0, h1] <;> omega)
  exact g4

set_option maxHeartbeats 2000000 in
theorem raised_any (a n b m : Nat) (ha : U64 a) (hb : U64 b) (hn : n ≤ 1000) (hm : m ≤ 1000) (w : World) :
    Calls Try.prog 45 #[.int .u64 a, .int .i64 n, .int .u64 b, .int .i64 m] w fun e w' => e = .returned (W4 (dig (a ^ n * b ^ m))) ∧ Below w.heap.size w w' := by
  have H0 := Lib.hid (raised_new w)
  go_enter Try.func45, Try.ntmps45
  go_wp2
  go_loopw [12] (fun i wr => ∃ k : Nat, k ≤ n ∧ i = .int .i64 k ∧ Four wr w.heap.size (fun _ => 0) ∧ Four wr (w.heap.size + 1) (dig (a ^ k)) ∧ Below w.heap.size w wr) (fun i _ => n - (intOf i).toNat)
  case atStart =>
    exact ⟨0, by omega, rfl, H0.out.1, by rw [Nat.pow_zero]; exact H0.out.2.1, H0.out.2.2⟩
  case round =>
    obtain ⟨k, hk, rfl, hR, hF, hB⟩ := hrel
    by_cases hlt : k < n
    · have m0 := hF.c0
      have m1 := hF.c1
      have m2 := hF.c2
      have m3 := hF.c3
      have hcc := hF.lt
      go_wp2_with fail
      with_reducible refine (times_dig (a ^ k) a ha wr).mono ?_
      rintro e w1 ⟨rfl, hb1⟩
      rw [show a ^ k * a = a ^ (k + 1) from by rw [Nat.pow_succ]]
      have hF1 := hF.below hb1 hcc
      have hR1 := hR.below hb1 hR.lt
      have hB1 := hB.trans (hb1.mono hB.size)
      have p0 := hF1.c0
      have p1 := hF1.c1
      have p2 := hF1.c2
      have p3 := hF1.c3
      have pf := hF1.free
      have hP := Lib.hid (hF1.put (dig (a ^ (k + 1))))
      clear m0 m1 m2 m3
      go_wp2
      go_roundw
      case rel => exact ⟨k + 1, by omega, by go_num, (((hR1.keep (by omega)).keep (by omega)).keep (by omega)).keep (by omega), hP.out, (((hB1.setCell (by simp) _).setCell (by simp) _).setCell (by simp) _).setCell (by simp) _⟩
      case measure => simp [intOf]; omega
    · obtain rfl : n = k := by omega
      go_wp2
      go_loopw [19] (fun i wr => ∃ k : Nat, k ≤ m ∧ i = .int .i64 k ∧ Four wr w.heap.size (fun _ => 0) ∧ Four wr (w.heap.size + 1) (dig (a ^ n * b ^ k)) ∧ Below w.heap.size w wr) (fun i _ => m - (intOf i).toNat)
      case atStart =>
        exact ⟨0, by omega, rfl, hR, by rw [Nat.pow_zero, Nat.mul_one]; exact hF, hB⟩
      case round =>
        obtain ⟨k, hk, rfl, hR, hF, hB⟩ := hrel
        by_cases hlt : k < m
        · have m0 := hF.c0
          have m1 := hF.c1
          have m2 := hF.c2
          have m3 := hF.c3
          have hcc := hF.lt
          go_wp2_with fail
          with_reducible refine (times_dig (a ^ n * b ^ k) b hb wr).mono ?_
          rintro e w1 ⟨rfl, hb1⟩
          rw [show a ^ n * b ^ k * b = a ^ n * b ^ (k + 1) from by rw [Nat.pow_succ, Nat.mul_assoc]]
          have hF1 := hF.below hb1 hcc
          have hR1 := hR.below hb1 hR.lt
          have hB1 := hB.trans (hb1.mono hB.size)
          have p0 := hF1.c0
          have p1 := hF1.c1
          have p2 := hF1.c2
          have p3 := hF1.c3
          have pf := hF1.free
          have hP := Lib.hid (hF1.put (dig (a ^ n * b ^ (k + 1))))
          clear m0 m1 m2 m3
          go_wp2
          go_roundw
          case rel => exact ⟨k + 1, by omega, by go_num, (((hR1.keep (by omega)).keep (by omega)).keep (by omega)).keep (by omega), hP.out, (((hB1.setCell (by simp) _).setCell (by simp) _).setCell (by simp) _).setCell (by simp) _⟩
          case measure => simp [intOf]; omega
        · obtain rfl : m = k := by omega
          have m0 := hF.c0
          have m1 := hF.c1
          have m2 := hF.c2
          have m3 := hF.c3
          have r0 := hR.c0
          have r1 := hR.c1
          have r2 := hR.c2
          have r3 := hR.c3
          have hfr := hR.free
          go_wp2
          refine bodyPost_ret (v := W4 (dig (a ^ n * b ^ m))) (by simp [results, Try.results45, go_sem, W4, r0, r1, r2, r3]) rfl ⟨rfl, ?_⟩
          exact (((hB.setCell (by simp) _).setCell (by simp) _).setCell (by simp) _).setCell (by simp) _

/-- Numbers below 2^256 are compared by their words, from the last one down. -/
theorem dig_cmp {U V : Nat} (k : Nat) (h : ∀ j, k < j → j < 4 → dig U j = dig V j) (hU : U < 18446744073709551616 ^ 4) (hV : V < 18446744073709551616 ^ 4) (hk : k < 4) (hne : dig U k ≠ dig V k) :
    (dig U k < dig V k ↔ U < V) := by
  have top : ∀ X, X < 18446744073709551616 ^ 4 → X = X % 18446744073709551616 ^ 4 := fun X hX => (Nat.mod_eq_of_lt hX).symm
  have s0 := dig_split U 0
  have s1 := dig_split U 1
  have s2 := dig_split U 2
  have s3 := dig_split U 3
  have t0 := dig_split V 0
  have t1 := dig_split V 1
  have t2 := dig_split V 2
  have t3 := dig_split V 3
  have u0 := dig_u U 0
  have u1 := dig_u U 1
  have u2 := dig_u U 2
  have u3 := dig_u U 3
  have v0 := dig_u V 0
  have v1 := dig_u V 1
  have v2 := dig_u V 2
  have v3 := dig_u V 3
  have hu := top U hU
  have hv := top V hV
  unfold U64 at u0 u1 u2 u3 v0 v1 v2 v3
  simp only [Nat.pow_zero, Nat.mod_one, Nat.zero_add, Nat.one_mul, Nat.reducePow, Nat.reduceAdd] at s0 s1 s2 s3 t0 t1 t2 t3 hu hv
  rcases k with _ | _ | _ | _ | k <;> try simp only [Nat.zero_add, Nat.reduceAdd] at hne ⊢
  · have e1 := h 1 (by omega) (by omega)
    have e2 := h 2 (by omega) (by omega)
    have e3 := h 3 (by omega) (by omega)
    omega
  · have e2 := h 2 (by omega) (by omega)
    have e3 := h 3 (by omega) (by omega)
    omega
  · have e3 := h 3 (by omega) (by omega)
    omega
  · omega
  · omega
theorem dig_eq {U V : Nat} (h : ∀ j, j < 4 → dig U j = dig V j) (hU : U < 18446744073709551616 ^ 4) (hV : V < 18446744073709551616 ^ 4) : U = V := by
  have s0 := dig_split U 0
  have s1 := dig_split U 1
  have s2 := dig_split U 2
  have s3 := dig_split U 3
  have t0 := dig_split V 0
  have t1 := dig_split V 1
  have t2 := dig_split V 2
  have t3 := dig_split V 3
  have hu : U = U % 18446744073709551616 ^ 4 := (Nat.mod_eq_of_lt hU).symm
  have hv : V = V % 18446744073709551616 ^ 4 := (Nat.mod_eq_of_lt hV).symm
  rw [hu, hv, s3, t3, s2, t2, s1, t1, s0, t0, h 0 (by omega), h 1 (by omega), h 2 (by omega), h 3 (by omega)]
  simp [Nat.mod_one]

end Go.Proofs.Ytphcianmgpbjmaa
