/- The curve that the statements build of a list of integers: plain arithmetic. -/
import Derived.Test.YtmilljlkcbljpaaB
namespace Go.Proofs.Ytmilljlkcbljpaa
open Go.RowKit

/-- 'x & (2^k - 1)' of an int. -/
theorem and_mask (k : Nat) (x : Int) (hk : k ≤ 62) : bits .and .i64 x (((2 ^ k - 1 : Nat) : Int)) = x % ((2 ^ k : Nat) : Int) := by
  have hp : 2 ^ k ≤ 2 ^ 62 := Nat.pow_le_pow_right (by omega) hk
  have h1 : 0 < 2 ^ k := Nat.pow_pos (by omega)
  have h2 : (BitVec.ofInt 64 (((2 ^ k - 1 : Nat) : Int))).toNat = 2 ^ k - 1 := by
    rw [BitVec.ofInt_natCast, BitVec.toNat_ofNat]; exact Nat.mod_eq_of_lt (by omega)
  show IntKind.i64.wrap ((BitVec.ofInt 64 x &&& BitVec.ofInt 64 (((2 ^ k - 1 : Nat) : Int))).toNat : Int) = _
  rw [BitVec.toNat_and, h2, Nat.and_two_pow_sub_one_eq_mod, BitVec.toNat_ofInt, IntKind.wrap_i64]
  have h3 : (x % ((2 ^ 64 : Nat) : Int)).toNat % 2 ^ k < 2 ^ k := Nat.mod_lt _ h1
  have h4 : (((x % ((2 ^ 64 : Nat) : Int)).toNat % 2 ^ k : Nat) : Int) = x % ((2 ^ k : Nat) : Int) := by
    rw [Int.natCast_emod, Int.toNat_of_nonneg (Int.emod_nonneg _ (by omega))]
    refine Int.emod_emod_of_dvd x ?_
    exact Int.natCast_dvd_natCast.2 (Nat.pow_dvd_pow 2 (by omega))
  rw [h4]
  have h5 := Int.emod_nonneg x (show ((2 ^ k : Nat) : Int) ≠ 0 by omega)
  have h6 := Int.emod_lt_of_pos x (show (0 : Int) < ((2 ^ k : Nat) : Int) by omega)
  omega
theorem and_ffff (x : Int) : bits .and .i64 x 65535 = x % 65536 := and_mask 16 x (by omega)
theorem and_7 (x : Int) : bits .and .i64 x 7 = x % 8 := and_mask 3 x (by omega)
theorem and_fff (x : Int) : bits .and .i64 x 4095 = x % 4096 := and_mask 12 x (by omega)
theorem and_1ffff (x : Int) : bits .and .i64 x 131071 = x % 131072 := and_mask 17 x (by omega)

/-- The sum of the first k increments. -/
def psum (g : Nat → Int) : Nat → Int
  | 0 => 0
  | k + 1 => psum g k + g k % 65536
theorem psum_bd (g : Nat → Int) : ∀ k, 0 ≤ psum g k ∧ psum g k ≤ 65535 * k
  | 0 => by simp [psum]
  | k + 1 => by
    have := psum_bd g k
    simp only [psum]
    omega
theorem psum_step (g : Nat → Int) (k : Nat) : psum g k ≤ psum g (k + 1) := by simp only [psum]; omega
theorem psum_le (g : Nat → Int) : ∀ (d k : Nat), psum g k ≤ psum g (k + d)
  | 0, _ => Int.le_refl _
  | d + 1, k => Int.le_trans (psum_le g d k) (psum_step g (k + d))

def tot (n : Nat) (g : Nat → Int) : Int := psum g (min n 256)
def lowV (n : Nat) (g : Nat → Int) : Int := if 2 < n ∧ g 0 % 8 = 3 then g 1 % 4096 else 0
def madeN (n : Nat) : Nat := if n = 0 then 2 else min n 256 + 1
def rawP (n : Nat) (g : Nat → Int) (k : Nat) : Int := if n = 0 then (if k = 0 then 0 else 65535) else psum g k
def madeV (n : Nat) (g : Nat → Int) (k : Nat) : Int := if 0 < tot n g then lowV n g + rawP n g k * (65535 - lowV n g) / tot n g else rawP n g k

theorem lowV_bd (n : Nat) (g : Nat → Int) : 0 ≤ lowV n g ∧ lowV n g ≤ 4095 := by unfold lowV; split <;> omega
theorem tot_bd (n : Nat) (g : Nat → Int) : 0 ≤ tot n g ∧ tot n g ≤ 16776960 := by
  have := psum_bd g (min n 256)
  unfold tot
  omega
theorem tot_zero (g : Nat → Int) : tot 0 g = 0 := by simp [tot, psum]
theorem rawP_pos {n : Nat} (h : n ≠ 0) (g : Nat → Int) (k : Nat) : rawP n g k = psum g k := if_neg h
theorem rawP_bd {n : Nat} (h : n ≠ 0) (g : Nat → Int) {k : Nat} (hk : k < madeN n) : 0 ≤ rawP n g k ∧ rawP n g k ≤ tot n g := by
  rw [rawP_pos h]
  unfold madeN at hk
  rw [if_neg h] at hk
  have := psum_le g (min n 256 - k) k
  rw [show k + (min n 256 - k) = min n 256 from by omega] at this
  exact ⟨(psum_bd g k).1, this⟩

theorem madeN_bd (n : Nat) : 2 ≤ madeN n ∧ madeN n ≤ 257 := by unfold madeN; split <;> omega

theorem made_vld (n : Nat) (g : Nat → Int) : Vld (madeN n) (madeV n g) := by
  obtain ⟨hN1, hN2⟩ := madeN_bd n
  obtain ⟨hl0, hl1⟩ := lowV_bd n g
  obtain ⟨ht0, ht1⟩ := tot_bd n g
  by_cases h : n = 0
  · subst h
    have e : ∀ k, madeV 0 g k = if k = 0 then 0 else 65535 := fun k => by unfold madeV; rw [tot_zero, if_neg (by omega)]; rfl
    refine ⟨hN1, hN2, by rw [e]; simp, by rw [e]; split <;> omega, fun k _ => ?_⟩
    rw [e, e]
    split <;> split <;> omega
  · by_cases ht : 0 < tot n g
    · have e : ∀ k, madeV n g k = lowV n g + rawP n g k * (65535 - lowV n g) / tot n g := fun k => if_pos ht
      have z : madeV n g 0 = lowV n g := by rw [e, rawP_pos h]; simp [psum]
      have t : madeV n g (madeN n - 1) = 65535 := by
        rw [e, rawP_pos h]
        have : psum g (madeN n - 1) = tot n g := by unfold madeN tot; rw [if_neg h]; rfl
        rw [this, Int.mul_ediv_cancel_left _ (by omega)]
        omega
      refine ⟨hN1, hN2, by omega, by omega, fun k _ => ?_⟩
      rw [e, e]
      have hs : rawP n g k ≤ rawP n g (k + 1) := by rw [rawP_pos h, rawP_pos h]; exact psum_step g k
      have hm := Int.mul_le_mul_of_nonneg_right hs (show (0 : Int) ≤ 65535 - lowV n g by omega)
      have hd := Int.ediv_le_ediv ht hm
      omega
    · have e : ∀ k, madeV n g k = rawP n g k := fun k => if_neg ht
      have z : ∀ k, k < madeN n → rawP n g k = 0 := fun k hk => by have := rawP_bd h g hk; omega
      refine ⟨hN1, hN2, by rw [e, z 0 (by omega)]; omega, by rw [e, z _ (by omega)]; omega, fun k hk => ?_⟩
      rw [e, e, z k (by omega), z (k + 1) hk]
      omega

end Go.Proofs.Ytmilljlkcbljpaa
